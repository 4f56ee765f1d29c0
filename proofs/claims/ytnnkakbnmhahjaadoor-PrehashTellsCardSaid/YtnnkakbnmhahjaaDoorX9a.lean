/-
  Part of the proof of a statement: the means.
-/
import Derived.Test.YtnnkakbnmhahjaaDoorX8
set_option linter.unusedSectionVars false
set_option linter.unusedVariables false
set_option linter.unusedSimpArgs false
set_option linter.deprecated false
section
namespace Go.Sx.Tryd
open Go.Proofs
theorem pit_add (s : List Int) (k : Nat) : ∀ j, pit s (k + j) = pit (pit s k) j
  | 0 => rfl
  | j + 1 => by rw [← Nat.add_assoc, pit, pit_add s k j, pit]
theorem sq_add (s : List Int) (k : Nat) : ∀ j, sq s (k + j) = sq s k ++ sq (pit s k) j
  | 0 => by rw [Nat.add_zero, sq, List.append_nil]
  | j + 1 => by rw [← Nat.add_assoc, sq, sq_add s k j, sq, List.append_assoc, Nat.add_assoc, pit_add s k (j + 1)]
/-- What a hash that has heard M tells from. -/
def tsS (M : List Int) : List Int := tellS (hrdS M) (hrdR M) false
theorem tail_app (M : List Int) (k j : Nat) : tail M (k + j) = tail M k ++ sq (pit (tsS M) k) j := by
  rw [tail, sq_add, ← List.append_assoc, ← tail]; rfl
theorem tail_len (M : List Int) (k : Nat) : (tail M k).length = 136 + 136 * k := by
  rw [tail, List.length_append, tellR_len, sq_len]
/-- The first so many bytes that are told of M. -/
def tl (M : List Int) (n : Nat) : List Int := (tail M n).take n
theorem tail_two (M : List Int) {m a b : Nat} (ha : m ≤ 136 + 136 * a) (hb : m ≤ 136 + 136 * b) : (tail M a).take m = (tail M b).take m := by
  have key : ∀ a b, a ≤ b → m ≤ 136 + 136 * a → (tail M a).take m = (tail M b).take m := fun a b hab ha => by
    obtain ⟨j, rfl⟩ : ∃ j, b = a + j := ⟨b - a, by omega⟩
    rw [tail_app, List.take_append_of_le_length (by rw [tail_len]; omega)]
  rcases Nat.le_total a b with h1 | h1
  · exact key a b h1 ha
  · exact (key b a h1 hb).symm
theorem tail_tl (M : List Int) {m k : Nat} (h : m ≤ 136 + 136 * k) : (tail M k).take m = tl M m := tail_two M h (by omega)
theorem tl_len (M : List Int) (n : Nat) : (tl M n).length = n := by
  rw [tl, List.length_take, tail_len]; omega
theorem tl_take (M : List Int) {a b : Nat} (h : a ≤ b) : (tl M b).take a = tl M a := by
  rw [tl, List.take_take, Nat.min_eq_left h, tail_tl M (by omega)]
theorem tl_told {M : List Int} (hM : ∀ a ∈ M, InB a) (n : Nat) : tl M n = told M n := tail_told hM (by omega)
/-- A hash that has heard M and told t bytes. -/
def Tg (M : List Int) (t : Nat) (s r : List Int) : Prop := r.length ≤ 136 ∧ ∃ k, s = pit (tsS M) k ∧ r = (tail M k).drop t ∧ t ≤ 136 + 136 * k
theorem tg_len {M s r : List Int} {t : Nat} (h : Tg M t s r) : s.length = 25 := by
  obtain ⟨_, k, rfl, _, _⟩ := h
  rw [pit_len, tsS, tellS, if_neg (by decide), ended_len, hrdS_len]
theorem m29_ok {s r : List Int} {c : Nat} {tells : Bool} {n : Int} {z : RdRes} (h : (m29 [.row .u64 25 s, .fr .u8 r c, .bs tells] [.int .i64 n]).post z) (hn : ¬ badN n) :
    z.er = 0 ∧ z.tl = true ∧ z.s = pit (tellS s r tells) z.k ∧ z.out = (tellR s r tells ++ sq (tellS s r tells) z.k).take n.toNat ∧ z.r = (tellR s r tells ++ sq (tellS s r tells) z.k).drop n.toNat ∧ n.toNat ≤ (tellR s r tells).length + 136 * z.k ∧ (z.r.length ≤ z.c2 ∧ (z.r.length ≤ 136 ∨ z.r.length ≤ r.length)) ∧ z.out.length ≤ z.c := by
  have h : if badN n then z.out = [] ∧ z.c = 0 ∧ z.s = s ∧ z.r = r ∧ z.c2 = c ∧ z.er = 10 ∧ z.tl = tells else z.er = 0 ∧ z.tl = true ∧ z.s = pit (tellS s r tells) z.k ∧ z.out = (tellR s r tells ++ sq (tellS s r tells) z.k).take n.toNat ∧ z.r = (tellR s r tells ++ sq (tellS s r tells) z.k).drop n.toNat ∧ n.toNat ≤ (tellR s r tells).length + 136 * z.k ∧ (z.r.length ≤ z.c2 ∧ (z.r.length ≤ 136 ∨ z.r.length ≤ r.length)) ∧ z.out.length ≤ z.c := h
  rwa [if_neg hn] at h
theorem m29_bad {s r : List Int} {c : Nat} {tells : Bool} {n : Int} {z : RdRes} (h : (m29 [.row .u64 25 s, .fr .u8 r c, .bs tells] [.int .i64 n]).post z) (hn : badN n) :
    z.out = [] ∧ z.c = 0 ∧ z.s = s ∧ z.r = r ∧ z.c2 = c ∧ z.er = 10 ∧ z.tl = tells := by
  have h : if badN n then z.out = [] ∧ z.c = 0 ∧ z.s = s ∧ z.r = r ∧ z.c2 = c ∧ z.er = 10 ∧ z.tl = tells else _ := h
  rwa [if_pos hn] at h
/-- What Read answers of a hash that tells no byte yet. -/
theorem read_hrd {M : List Int} {c : Nat} {n : Int} {z : RdRes} (h : (m29 [.row .u64 25 (hrdS M), .fr .u8 (hrdR M) c, .bs false] [.int .i64 n]).post z) (hn : ¬ badN n) :
    z.er = 0 ∧ z.tl = true ∧ z.out = tl M n.toNat ∧ Tg M n.toNat z.s z.r ∧ z.r.length ≤ z.c2 ∧ z.out.length ≤ z.c := by
  obtain ⟨h1, h2, h3, h4, h5, h6, h7, h8⟩ := m29_ok h hn
  rw [tellR_len] at h6
  exact ⟨h1, h2, by rw [h4]; exact tail_tl M h6, ⟨by have := hrdR_lt M; omega, z.k, h3, h5, h6⟩, h7.1, h8⟩
/-- .. and of one that has told t. -/
theorem read_tg {M s r : List Int} {t c : Nat} {n : Int} {z : RdRes} (ht : Tg M t s r) (h : (m29 [.row .u64 25 s, .fr .u8 r c, .bs true] [.int .i64 n]).post z) (hn : ¬ badN n) :
    z.er = 0 ∧ z.tl = true ∧ z.out = (tl M (t + n.toNat)).drop t ∧ Tg M (t + n.toNat) z.s z.r ∧ z.r.length ≤ z.c2 ∧ z.out.length ≤ z.c := by
  obtain ⟨z1, z2, h3, h4, h5, h6, z7, z8⟩ := m29_ok h hn
  refine ⟨z1, z2, ?_⟩
  rw [← and_assoc]
  refine ⟨?_, z7.1, z8⟩
  generalize z.k = k at *
  obtain ⟨hr136, j, rfl, rfl, h0⟩ := ht
  have z9 : z.r.length ≤ 136 := by omega
  have e1 : tellS (pit (tsS M) j) ((tail M j).drop t) true = pit (tsS M) j := if_pos rfl
  have e2 : tellR (pit (tsS M) j) ((tail M j).drop t) true = (tail M j).drop t := if_pos rfl
  rw [e1] at h3 h4 h5
  rw [e2] at h4 h5 h6
  rw [List.length_drop, tail_len] at h6
  have e3 : (tail M j).drop t ++ sq (pit (tsS M) j) k = (tail M (j + k)).drop t := by
    rw [tail_app, List.drop_append_of_le_length (by rw [tail_len]; omega)]
  rw [e3] at h4 h5
  refine ⟨?_, z9, j + k, by rw [h3, pit_add], by rw [h5, List.drop_drop], by omega⟩
  rw [h4, ← tail_tl M (show t + n.toNat ≤ 136 + 136 * (j + k) by omega), List.drop_take]
  congr 1; omega
theorem read_of {M s r : List Int} {c : Nat} {n : Int} {z : RdRes} (hs : s = hrdS M) (hr : r = hrdR M) (h : (m29 [.row .u64 25 s, .fr .u8 r c, .bs false] [.int .i64 n]).post z) (hn : ¬ badN n) :
    z.er = 0 ∧ z.tl = true ∧ z.out = tl M n.toNat ∧ Tg M n.toNat z.s z.r ∧ z.r.length ≤ z.c2 ∧ z.out.length ≤ z.c := by
  subst hs; subst hr; exact read_hrd h hn
theorem write_of {M s r b : List Int} {c : Nat} {z : List Int × List Int × Nat} (hs : s = hrdS M) (hr : r = hrdR M) (h : (m28 [.row .u64 25 s, .fr .u8 r c, .bs false] [.roi .u8 b]).post z) :
    z.2.1.length ≤ z.2.2 ∧ z.1 = hrdS (M ++ b) ∧ z.2.1 = hrdR (M ++ b) := by
  subst hs; subst hr
  have h : z.2.1.length ≤ z.2.2 ∧ z.1 = absUp (hrdS M) (hrdR M ++ b) ((hrdR M ++ b).length / 136) ∧ z.2.1 = (hrdR M ++ b).drop (136 * ((hrdR M ++ b).length / 136)) := h
  rwa [← hrdS_app, ← hrdR_app] at h
theorem hrdS_nil : List.replicate 25 0 = hrdS [] := by simp [hrdS, absUp]
theorem hrdR_nil : [] = hrdR [] := by simp [hrdR]
theorem hrdR_le (M : List Int) : (hrdR M).length ≤ M.length := by rw [hrdR, List.length_drop]; omega
/-- What a hash holds that has heard M and told t bytes. -/
def HSt (M : List Int) (tells : Bool) (t : Nat) (s r : List Int) : Prop := if tells then Tg M t s r else s = hrdS M ∧ r = hrdR M ∧ t = 0
theorem hst_false {M s r : List Int} (hs : s = hrdS M) (hr : r = hrdR M) : HSt M false 0 s r := by
  rw [HSt, if_neg (by decide)]; exact ⟨hs, hr, rfl⟩
theorem hst_len {M s r : List Int} {b : Bool} {t : Nat} (h : HSt M b t s r) : s.length = 25 := by
  rw [HSt] at h
  split at h
  · exact tg_len h
  · rw [h.1, hrdS_len]
theorem hst_few {M s r : List Int} {b : Bool} {t : Nat} (h : HSt M b t s r) (hb : b = false) : r.length < 136 := by
  rw [HSt, if_neg (by rw [hb]; decide)] at h
  rw [h.2.1]; exact hrdR_lt _
theorem read_any {M s r : List Int} {b : Bool} {t c : Nat} {n : Int} {z : RdRes} (hh : HSt M b t s r) (h : (m29 [.row .u64 25 s, .fr .u8 r c, .bs b] [.int .i64 n]).post z) (hn : ¬ badN n) :
    z.er = 0 ∧ z.tl = true ∧ z.out = (tl M (t + n.toNat)).drop t ∧ HSt M true (t + n.toNat) z.s z.r ∧ z.r.length ≤ z.c2 ∧ z.out.length ≤ z.c := by
  cases b with
  | true =>
    rw [HSt, if_pos rfl] at hh
    rw [HSt, if_pos rfl]
    exact read_tg hh h hn
  | false =>
    rw [HSt, if_neg (by decide)] at hh
    obtain ⟨hs, hr, rfl⟩ := hh
    rw [HSt, if_pos rfl, Nat.zero_add, List.drop_zero]
    exact read_of hs hr h hn
theorem hst_rlen {M s r : List Int} {b : Bool} {t : Nat} (h : HSt M b t s r) : r.length ≤ 136 := by
  rw [HSt] at h
  split at h
  · exact h.1
  · rw [h.2.1]; have := hrdR_lt M; omega
theorem read_anyE {M s r r' : List Int} {b : Bool} {t c : Nat} {n n' : Int} {z : RdRes} (hh : HSt M b t s r) (hr : r' = r) (hn' : n' = n) (h : (m29 [.row .u64 25 s, .fr .u8 r' c, .bs b] [.int .i64 n']).post z) (hn : ¬ badN n) :
    z.er = 0 ∧ z.tl = true ∧ z.out = (tl M (t + n.toNat)).drop t ∧ HSt M true (t + n.toNat) z.s z.r ∧ z.r.length ≤ z.c2 ∧ z.out.length ≤ z.c := by
  subst hr; subst hn'; exact read_any hh h hn
theorem tl_more (M : List Int) (t n : Nat) : tl M t ++ (tl M (t + n)).drop t = tl M (t + n) := by
  rw [← tl_take M (show t ≤ t + n by omega), List.take_append_drop]
theorem tl_drop_len (M : List Int) (t n : Nat) : ((tl M (t + n)).drop t).length = n := by
  rw [List.length_drop, tl_len]; omega
/-- What Sum answers. -/
theorem sum_of {n : Int} {xss : List (List Int)} {z : RdRes} (h : (s25 [.int .i64 n, .rol .u8 xss]).post z) :
    (badN n → z.out = [] ∧ z.er = 10) ∧ (¬ badN n → z.er = 0 ∧ z.out = tl xss.flatten n.toNat ∧ z.out.length ≤ z.c) := by
  have h : if badN n then z.out = [] ∧ z.er = 10 else z.er = 0 ∧ z.out = (tellR (hrdS xss.flatten) (hrdR xss.flatten) false ++ sq (tellS (hrdS xss.flatten) (hrdR xss.flatten) false) z.k).take n.toNat ∧ n.toNat ≤ 136 + 136 * z.k ∧ z.out.length ≤ z.c := h
  refine ⟨fun hb => by rwa [if_pos hb] at h, fun hb => ?_⟩
  rw [if_neg hb] at h
  exact ⟨h.1, by rw [h.2.1]; exact tail_tl _ h.2.2.1, h.2.2.2⟩
theorem sum_ofE {n n' : Int} {xss xss' : List (List Int)} {z : RdRes} (hn' : n' = n) (hx : xss' = xss) (h : (s25 [.int .i64 n', .rol .u8 xss']).post z) :
    (badN n → z.out = [] ∧ z.er = 10) ∧ (¬ badN n → z.er = 0 ∧ z.out = tl xss.flatten n.toNat ∧ z.out.length ≤ z.c) := by
  subst hn'; subst hx; exact sum_of h
end Go.Sx.Tryd
end
