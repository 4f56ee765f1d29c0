/-
  Part of the proof of a statement: the means.
-/
import Derived.Test.YtfgejoocodofoaaGreatX6
set_option linter.unusedSectionVars false
set_option linter.unusedVariables false
set_option linter.unusedSimpArgs false
set_option linter.deprecated false
section
namespace Go.Sx
def W64 (xs : List Int) : Prop := ∀ a ∈ xs, 0 <= a /\ a < 18446744073709551616
def wV : List Int -> Nat
 | [] => 0
 | x :: l => x.toNat + 18446744073709551616 * wV l
def natW (N : Nat) : List Int :=
 if h : N = 0 then [] else ((N % 18446744073709551616 : Nat) : Int) :: natW (N / 18446744073709551616)
termination_by N
decreasing_by exact Nat.div_lt_self (Nat.pos_of_ne_zero h) (by decide)
theorem qdg : natW 0 = [] := by rw [natW]; rfl
theorem qhA {N : Nat} (h : N ≠ 0) : natW N = ((N % 18446744073709551616 : Nat) : Int) :: natW (N / 18446744073709551616) := by
 rw [natW, dif_neg h]
theorem qoa (N : Nat) : wV (natW N) = N := by
 induction N using Nat.strongRecOn with
 | _ N ih =>
   by_cases h : N = 0
   · rw [h, qdg]; rfl
   · rw [qhA h]
     simp only [wV, Int.toNat_natCast]
     rw [ih _ (Nat.div_lt_self (Nat.pos_of_ne_zero h) (by decide))]
     exact Nat.mod_add_div N _
theorem qob (N : Nat) : W64 (natW N) := by
 induction N using Nat.strongRecOn with
 | _ N ih =>
   by_cases h : N = 0
   · rw [h, qdg]; intro a ha; cases ha
   · rw [qhA h]
     intro a ha
     rcases List.mem_cons.1 ha with rfl | ha
     · have := Nat.mod_lt N (show 0 < 18446744073709551616 by decide)
       omega
     · exact ih _ (Nat.div_lt_self (Nat.pos_of_ne_zero h) (by decide)) a ha
theorem qhB {k : Nat} : ∀ {N : Nat}, N < 18446744073709551616 ^ k -> (natW N).length <= k := by
 induction k with
 | zero => intro N h; have : N = 0 := by simpa using h
           rw [this, qdg]; exact Nat.le_refl _
 | succ k ih =>
   intro N h
   by_cases h0 : N = 0
   · rw [h0, qdg]; exact Nat.zero_le _
   · rw [qhA h0, List.length_cons]
     refine Nat.succ_le_succ (ih ?_)
     rw [Nat.pow_succ] at h
     exact Nat.div_lt_of_lt_mul (by rw [Nat.mul_comm]; exact h)
theorem qcz : ∀ {xs : List Int}, (∀ j, xs.getD j 0 = 0) -> wV xs = 0
 | [], _ => rfl
 | x :: l, h => by
   have h0 : x = 0 := h 0
   have hl : wV l = 0 := qcz fun j => h (j + 1)
   simp [wV, h0, hl]
theorem qdh : ∀ {xs : List Int} {n : Nat}, W64 xs -> n <= xs.length -> (∀ j, n <= j -> xs.getD j 0 = 0) -> (n = 0 \/ xs.getD (n - 1) 0 ≠ 0) -> xs.take n = natW (wV xs)
 | [], n, _, hn, _, _ => by
   have : n = 0 := by simpa using hn
   subst this
   rw [show wV [] = 0 from rfl, qdg]; rfl
 | x :: l, 0, _, _, hz, _ => by
   rw [qcz fun j => hz j (Nat.zero_le _), qdg]; rfl
 | x :: l, n + 1, hw, hn, hz, hl => by
   have hx := hw x (List.mem_cons_self ..)
   obtain ⟨m, rfl⟩ := Int.eq_ofNat_of_zero_le hx.1
   have hm : m < 18446744073709551616 := by have := hx.2; omega
   have hl2 : n = 0 \/ l.getD (n - 1) 0 ≠ 0 := by
     cases n with
     | zero => exact .inl rfl
     | succ n =>
       rcases hl with h | h
       · cases h
       · exact .inr h
   have ih := qdh (xs := l) (n := n) (fun a ha => hw a (List.mem_cons_of_mem _ ha)) (by simpa using hn) (fun j hj => by have := hz (j + 1) (by omega); exact this) hl2
   have hne : wV ((m : Int) :: l) ≠ 0 := by
     simp only [wV, Int.toNat_natCast]
     intro h0
     have e1 : m = 0 := by omega
     have e2 : wV l = 0 := by omega
     rw [e2, qdg] at ih
     cases n with
     | zero =>
       rcases hl with h | h
       · cases h
       · exact h (by show ((m : Nat) : Int) = 0; omega)
     | succ n =>
       have : (l.take (n + 1)).length = 0 := by rw [ih]; rfl
       rw [List.length_take] at this
       have := List.length_cons (a := (m : Int)) (as := l)
       omega
   rw [qhA hne, List.take_succ_cons, ih]
   simp only [wV, Int.toNat_natCast]
   rw [Nat.add_mul_mod_self_left, Nat.mod_eq_of_lt hm, Nat.add_mul_div_left _ _ (by decide), Nat.div_eq_of_lt hm, Nat.zero_add]
theorem qbF : ∀ {xs : List Int}, W64 xs -> wV xs < 18446744073709551616 ^ xs.length
 | [], _ => by simp [wV]
 | x :: l, h => by
   have hx := h x (List.mem_cons_self ..)
   have ih := qbF (xs := l) fun a ha => h a (List.mem_cons_of_mem _ ha)
   simp only [wV, List.length_cons, Nat.pow_succ]
   have : x.toNat < 18446744073709551616 := by omega
   have h2 : 18446744073709551616 * (wV l + 1) <= 18446744073709551616 * 18446744073709551616 ^ l.length := Nat.mul_le_mul_left _ ih
   rw [Nat.mul_comm (18446744073709551616 ^ l.length)]
   omega
theorem qoc : ∀ {xs : List Int} (i : Nat), W64 xs -> (xs.getD i 0).toNat = wV xs / 18446744073709551616 ^ i % 18446744073709551616
 | [], i, _ => by simp [wV]
 | x :: l, 0, h => by
   have hx := h x (List.mem_cons_self ..)
   simp only [wV, List.getD_cons_zero, Nat.pow_zero, Nat.div_one]
   rw [Nat.add_mul_mod_self_left, Nat.mod_eq_of_lt (by omega)]
 | x :: l, i + 1, h => by
   have hx := h x (List.mem_cons_self ..)
   rw [List.getD_cons_succ, qoc i fun a ha => h a (List.mem_cons_of_mem _ ha)]
   simp only [wV]
   rw [Nat.pow_succ, Nat.mul_comm (18446744073709551616 ^ i), <- Nat.div_div_eq_div_mul, Nat.add_mul_div_left _ _ (by decide), Nat.div_eq_of_lt (show x.toNat < 18446744073709551616 by omega), Nat.zero_add]
theorem qaF {xs : List Int} (h : W64 xs) (i : Nat) : 0 <= xs.getD i 0 /\ xs.getD i 0 < 18446744073709551616 := by
 rw [List.getD_eq_getElem?_getD]
 cases hi : xs[i]? with
 | none => simp
 | some a => exact h a (List.mem_of_getElem? hi)
theorem W64.take {xs : List Int} (h : W64 xs) (n : Nat) : W64 (xs.take n) := fun a ha => h a (List.mem_of_mem_take ha)
theorem qbG : ∀ (xs : List Int) (i : Nat), wV (xs.take (i + 1)) = wV (xs.take i) + (xs.getD i 0).toNat * 18446744073709551616 ^ i
 | [], i => by simp [wV]
 | x :: l, 0 => by simp [wV]
 | x :: l, i + 1 => by
   rw [List.take_succ_cons, List.take_succ_cons, List.getD_cons_succ]
   simp only [wV]
   rw [qbG l i, Nat.pow_succ, Nat.mul_add, Nat.add_assoc]
   congr 2
   rw [Nat.mul_comm (18446744073709551616 ^ i), <- Nat.mul_assoc, <- Nat.mul_assoc, Nat.mul_comm 18446744073709551616]
theorem qft {u : List Int} {i : Nat} {v : Int} (hu : W64 u) (hv : 0 <= v /\ v < 18446744073709551616) : W64 (u.set i v) := by
 intro a ha
 rcases List.mem_or_eq_of_mem_set ha with h | h
 ·exact hu a h
 ·rw [h]; exact hv
structure Sums (xs ys : List Int) (N i : Nat) (o : Int) (u : List Int) : Prop where
 len : u.length = N
 w : W64 u
 z : ∀ j, i <= j -> u.getD j 0 = 0
 ov : o = 0 \/ o = 1
 val : wV (u.take i) + o.toNat * 18446744073709551616 ^ i = wV (xs.take i) + wV (ys.take i)
theorem Sums.start (xs ys : List Int) (N : Nat) : Sums xs ys N 0 0 (List.replicate N 0) :=
 ⟨by simp, fun a ha => by rw [List.eq_of_mem_replicate ha]; decide, fun j _ => by rw [List.getD_eq_getElem?_getD, List.getElem?_replicate]; split <;> rfl, .inl rfl, by simp [wV]⟩
theorem Sums.step {xs ys u : List Int} {N i : Nat} {o : Int} (h : Sums xs ys N i o u) (hx : W64 xs) (hy : W64 ys) (hi : i < N) :
  Sums xs ys N (i + 1) ((xs.getD i 0 + ys.getD i 0 + o) / 18446744073709551616) (u.set i ((xs.getD i 0 + ys.getD i 0 + o) % 18446744073709551616)) := by
 have bx := qaF hx i
 have bY := qaF hy i
 have hx' := qbG xs i
 have hy' := qbG ys i
 obtain ⟨hl, hw, hz, ho, hv⟩ := h
 generalize xs.getD i 0 = x at *
 generalize ys.getD i 0 = y at *
 obtain ⟨m, rfl⟩ := Int.eq_ofNat_of_zero_le bx.1
 obtain ⟨n, rfl⟩ := Int.eq_ofNat_of_zero_le bY.1
 obtain ⟨c, rfl⟩ : ∃ c : Nat, o = c := ⟨o.toNat, by omega⟩
 have hc : c <= 1 := by omega
 obtain ⟨s, hs⟩ : ∃ s : Nat, s = m + n + c := ⟨_, rfl⟩
 have es : (m : Int) + n + c = (s : Int) := by omega
 rw [es]
 have e1 : ((s : Int) / 18446744073709551616) = ((s / 18446744073709551616 : Nat) : Int) := by omega
 have e2 : ((s : Int) % 18446744073709551616) = ((s % 18446744073709551616 : Nat) : Int) := by omega
 rw [e1, e2]
 refine ⟨by rw [List.length_set]; exact hl, qft hw ⟨by omega, by omega⟩, fun j hj => ?_, ?_, ?_⟩
 ·rw [qab (by omega), if_neg (by omega)]
  exact hz j (by omega)
 ·have : s / 18446744073709551616 <= 1 := by omega
  omega
 ·rw [qbG, qab (by omega), if_pos rfl, hx', hy', Int.toNat_natCast, Int.toNat_natCast]
  have et : (u.set i ((s % 18446744073709551616 : Nat) : Int)).take i = u.take i := by
   rw [List.take_set]
   exact List.set_eq_of_length_le (by rw [List.length_take]; omega)
  rw [et]
  simp only [Int.toNat_natCast] at hv ⊢
  have hs2 : s % 18446744073709551616 + 18446744073709551616 * (s / 18446744073709551616) = m + n + c := by rw [Nat.mod_add_div]; exact hs
  rw [Nat.pow_succ]
  generalize 18446744073709551616 ^ i = W at *
  have : s % 18446744073709551616 * W + s / 18446744073709551616 * (W * 18446744073709551616) = (m + n + c) * W := by
   rw [<- hs2, Nat.add_mul, Nat.mul_comm W, <- Nat.mul_assoc, Nat.mul_comm 18446744073709551616]
  rw [Nat.add_assoc, this, Nat.add_mul, Nat.add_mul]
  omega
theorem qdi {xs : List Int} {n : Nat} (h : xs.length <= n) : xs.take n = xs := List.take_of_length_le h
theorem Sums.done {xs ys u : List Int} {N : Nat} {o : Int} (h : Sums xs ys N N o u) (hx : W64 xs) (hy : W64 ys) (lx : xs.length + 1 <= N) (ly : ys.length + 1 <= N) : wV u = wV xs + wV ys := by
 have hv := h.val
 rw [qdi (by rw [h.len]; exact Nat.le_refl _), qdi (by omega), qdi (by omega)] at hv
 have hN : ∃ M, N = M + 1 := ⟨N - 1, by omega⟩
 obtain ⟨M, rfl⟩ := hN
 have b1 : wV xs < 18446744073709551616 ^ M := Nat.lt_of_lt_of_le (qbF hx) (Nat.pow_le_pow_right (by decide) (by omega))
 have b2 : wV ys < 18446744073709551616 ^ M := Nat.lt_of_lt_of_le (qbF hy) (Nat.pow_le_pow_right (by decide) (by omega))
 rcases h.ov with e | e
 ·subst e; simpa using hv
 ·subst e
  rw [Nat.pow_succ] at hv
  generalize 18446744073709551616 ^ M = W at *
  simp at hv
  omega
theorem IsLen.up {V s z : Nat} (h : IsLen (V / 2 ^ s) z) (hV : 2 ^ s <= V) : IsLen V (z + s) := by
 have hp : 0 < 2 ^ s := Nat.pow_pos (by decide)
 have h1 : 1 <= V / 2 ^ s := (Nat.le_div_iff_mul_le hp).2 (by omega)
 refine ⟨?_, .inr ?_⟩
 ·rw [Nat.pow_add]
  exact (Nat.div_lt_iff_lt_mul hp).1 h.1
 ·have hz : z ≠ 0 := by
   rintro rfl
   have := h.1
   simp at this
   omega
  have h2 : 2 ^ (z - 1) <= V / 2 ^ s := by
   rcases h.2 with e | e
   ·exact absurd e hz
   ·exact e
  rw [show z + s - 1 = z - 1 + s by omega, Nat.pow_add]
  exact (Nat.le_div_iff_mul_le hp).1 h2
def len8 (b : Nat) : Nat := if b = 0 then 0 else if b < 2 then 1 else if b < 4 then 2 else if b < 8 then 3 else if b < 16 then 4 else if b < 32 then 5 else if b < 64 then 6 else if b < 128 then 7 else 8
theorem qcA {b : Nat} (h : b < 256) : IsLen b (len8 b) := by
 unfold len8 IsLen
 repeat' split
 all_goals simp_all
 all_goals omega
theorem qaK (b : Nat) : len8 b <= 8 := by
 unfold len8
 repeat' split
 all_goals omega
def tab8 : List Int := (List.range 256).map fun b => (len8 b : Int)
theorem qcB {b : Nat} (h : b < 256) : tab8.getD b 0 = (len8 b : Int) := by
 unfold tab8
 rw [List.getD_eq_getElem?_getD, List.getElem?_map, List.getElem?_range h]
 rfl
end Go.Sx
end
section
namespace Go.Sx
def wd (V j : Nat) : Nat := V / 18446744073709551616 ^ j % 18446744073709551616
theorem qjY (V j : Nat) : wd V j < 18446744073709551616 := Nat.mod_lt _ (by decide)
theorem w_wd {xs : List Int} (h : W64 xs) (j : Nat) : xs.getD j 0 = ((wd (wV xs) j : Nat) : Int) := by
 have h1 := qaF h j
 have h2 := qoc j h
 unfold wd
 omega
theorem qod : ∀ {xs : List Int} {n : Nat}, (∀ j, n <= j -> xs.getD j 0 = 0) -> wV (xs.take n) = wV xs
 | [], n, _ => by simp [wV]
 | x :: l, 0, h => by rw [qcz (xs := x :: l) fun j => h j (Nat.zero_le _)]; rfl
 | x :: l, n + 1, h => by
   rw [List.take_succ_cons]
   simp only [wV]
   rw [qod fun j hj => by have := h (j + 1) (by omega); rwa [List.getD_cons_succ] at this]
theorem wpow (i : Nat) : 18446744073709551616 ^ i = 2 ^ (64 * i) := by
 rw [Nat.pow_mul]
theorem qs7 {xs : List Int} (h : W64 xs) (n : Nat) : wV (xs.take n) < 18446744073709551616 ^ n :=
 Nat.lt_of_lt_of_le (qbF (h.take n)) (Nat.pow_le_pow_right (by decide) (by rw [List.length_take]; exact Nat.min_le_left _ _))
theorem qs8 {xs : List Int} {n z : Nat} (h : W64 xs) (hz : ∀ j, n + 1 <= j -> xs.getD j 0 = 0) (h0 : xs.getD n 0 ≠ 0) (hl : IsLen (xs.getD n 0).toNat z) : IsLen (wV xs) (z + 64 * n) := by
 have e := qbG xs n
 rw [qod hz] at e
 have hlt := qs7 h n
 have hb := qaF h n
 have hp : 0 < 18446744073709551616 ^ n := Nat.pow_pos (by decide)
 have hd : wV xs / 2 ^ (64 * n) = (xs.getD n 0).toNat := by
  rw [<- wpow, e, Nat.add_mul_div_right _ _ hp, Nat.div_eq_of_lt hlt, Nat.zero_add]
 refine IsLen.up (by rw [hd]; exact hl) ?_
 rw [<- wpow, e]
 have h1 : 1 <= (xs.getD n 0).toNat := by omega
 have := Nat.mul_le_mul_right (18446744073709551616 ^ n) h1
 omega
def cmpN (A B : Nat) : Int := if A < B then -1 else if B < A then 1 else 0
theorem qjZ (V i : Nat) : V / 18446744073709551616 ^ i = 18446744073709551616 * (V / 18446744073709551616 ^ (i + 1)) + wd V i := by
 unfold wd
 rw [Nat.pow_succ, <- Nat.div_div_eq_div_mul]
 exact (Nat.div_add_mod _ _).symm
theorem qoe {A B i : Nat} (h : A / 18446744073709551616 ^ (i + 1) = B / 18446744073709551616 ^ (i + 1)) : (wd A i < wd B i -> A < B) /\ (wd A i = wd B i -> A / 18446744073709551616 ^ i = B / 18446744073709551616 ^ i) := by
 have ha := qjZ A i
 have hb := qjZ B i
 constructor
 ·intro hl
  apply qjS (w := 18446744073709551616 ^ i)
  rw [ha, hb, h]; omega
 ·intro hl
  rw [ha, hb, h, hl]
theorem qof {xs : List Int} (h : W64 xs) {n : Nat} (hn : xs.length <= n) : wV xs / 18446744073709551616 ^ n = 0 :=
 Nat.div_eq_of_lt (Nat.lt_of_lt_of_le (qbF h) (Nat.pow_le_pow_right (by decide) hn))
theorem qhE : ∀ {u : List Int} {i : Nat} {v : Int}, i < u.length -> wV (u.set i v) + (u.getD i 0).toNat * 18446744073709551616 ^ i = wV u + v.toNat * 18446744073709551616 ^ i
 | x :: l, 0, v, _ => by simp [wV]; omega
 | x :: l, i + 1, v, h => by
   have ih := qhE (u := l) (i := i) (v := v) (by simpa using h)
   rw [List.set_cons_succ, List.getD_cons_succ]
   simp only [wV]
   rw [Nat.pow_succ, <- Nat.mul_assoc, <- Nat.mul_assoc]
   generalize 18446744073709551616 ^ i = W at *
   generalize (l.getD i 0).toNat * W = a at *
   generalize v.toNat * W = b at *
   omega
structure Subs (xs ys : List Int) (N i : Nat) (o : Int) (u : List Int) : Prop where
 len : u.length = N
 w : W64 u
 z : ∀ j, i <= j -> u.getD j 0 = 0
 ov : o = 0 \/ o = 1
 val : wV (u.take i) + wV (ys.take i) = wV (xs.take i) + o.toNat * 18446744073709551616 ^ i
theorem Subs.start (xs ys : List Int) (N : Nat) : Subs xs ys N 0 0 (List.replicate N 0) :=
 ⟨by simp, fun a ha => by rw [List.eq_of_mem_replicate ha]; decide, fun j _ => by rw [List.getD_eq_getElem?_getD, List.getElem?_replicate]; split <;> rfl, .inl rfl, by simp [wV]⟩
theorem Subs.step {xs ys u : List Int} {N i : Nat} {o : Int} (h : Subs xs ys N i o u) (hx : W64 xs) (hy : W64 ys) (hi : i < N) :
  Subs xs ys N (i + 1) (if xs.getD i 0 < ys.getD i 0 + o then 1 else 0) (u.set i ((xs.getD i 0 - ys.getD i 0 - o) % 18446744073709551616)) := by
 have bx := qaF hx i
 have bY := qaF hy i
 have hx' := qbG xs i
 have hy' := qbG ys i
 obtain ⟨hl, hw, hz, ho, hv⟩ := h
 generalize xs.getD i 0 = x at *
 generalize ys.getD i 0 = y at *
 obtain ⟨r, hr⟩ : ∃ r, (x - y - o) % 18446744073709551616 = r := ⟨_, rfl⟩
 obtain ⟨o', ho'⟩ : ∃ o' : Int, (if x < y + o then 1 else 0) = o' := ⟨_, rfl⟩
 have hoo : o' = 0 \/ o' = 1 := by rw [<- ho']; split <;> simp
 have hre : r = x - y - o + o' * 18446744073709551616 := by
  rw [<- hr, <- ho']
  split <;> omega
 rw [hr, ho']
 have br : 0 <= r /\ r < 18446744073709551616 := by omega
 refine ⟨by rw [List.length_set]; exact hl, qft hw br, fun j hj => ?_, hoo, ?_⟩
 ·rw [qab (by omega), if_neg (by omega)]
  exact hz j (by omega)
 ·rw [qbG, qab (by omega), if_pos rfl, hx', hy']
  have et : (u.set i r).take i = u.take i := by
   rw [List.take_set]
   exact List.set_eq_of_length_le (by rw [List.length_take]; omega)
  rw [et, Nat.pow_succ]
  have hn : r.toNat + y.toNat + o.toNat = x.toNat + o'.toNat * 18446744073709551616 := by omega
  generalize 18446744073709551616 ^ i = W at *
  have hm : (r.toNat + y.toNat + o.toNat) * W = (x.toNat + o'.toNat * 18446744073709551616) * W := by rw [hn]
  rw [Nat.add_mul, Nat.add_mul, Nat.add_mul] at hm
  rw [Nat.mul_comm W, <- Nat.mul_assoc]
  omega
theorem qj0 : ∀ {xs : List Int} (n : Nat), W64 xs -> ∃ q, wV xs = wV (xs.take n) + q * 18446744073709551616 ^ n
 | [], n, _ => ⟨0, by simp [wV]⟩
 | x :: l, 0, _ => ⟨wV (x :: l), by simp [wV]⟩
 | x :: l, n + 1, h => by
   obtain ⟨q, hq⟩ := qj0 (xs := l) n fun a ha => h a (List.mem_cons_of_mem _ ha)
   refine ⟨q, ?_⟩
   rw [List.take_succ_cons]
   simp only [wV]
   rw [hq, Nat.pow_succ, Nat.mul_add, Nat.add_assoc]
   congr 2
   rw [<- Nat.mul_assoc, Nat.mul_comm 18446744073709551616 q, Nat.mul_assoc, Nat.mul_comm 18446744073709551616]
theorem Subs.done {xs ys u : List Int} {o : Int} (h : Subs xs ys xs.length xs.length o u) (hx : W64 xs) (hy : W64 ys) (hle : wV ys <= wV xs) : wV u = wV xs - wV ys := by
 have hv := h.val
 have hu := qbF h.w
 rw [h.len] at hu
 rw [qdi (by rw [h.len]; exact Nat.le_refl _), qdi (Nat.le_refl _)] at hv
 have hxl := qbF hx
 have e : wV (ys.take xs.length) = wV ys := by
  obtain ⟨q, hq⟩ := qj0 xs.length hy
  have : q = 0 := by
   cases q with
   | zero => rfl
   | succ q =>
     rw [Nat.add_mul] at hq
     generalize 18446744073709551616 ^ xs.length = W at *
     omega
  rw [this] at hq
  omega
 rw [e] at hv
 rcases h.ov with e | e <;> subst e
 ·simp at hv; omega
 ·simp at hv; omega
end Go.Sx
end
section
namespace Go.Sx
structure Prod (xs ys : List Int) (i k : Nat) (o : Int) (u : List Int) : Prop where
 len : u.length = xs.length + ys.length
 w : W64 u
 z : ∀ j, i + ys.length <= j -> u.getD j 0 = 0
 ov : 0 <= o /\ o < 18446744073709551616
 val : wV u + o.toNat * 18446744073709551616 ^ (i + k) = wV (xs.take i) * wV ys + (xs.getD i 0).toNat * wV (ys.take k) * 18446744073709551616 ^ i
theorem qhF (n : Nat) : W64 (List.replicate n 0) := fun a ha => by rw [List.eq_of_mem_replicate ha]; decide
theorem qcD (n j : Nat) : (List.replicate n (0 : Int)).getD j 0 = 0 := by
 rw [List.getD_eq_getElem?_getD, List.getElem?_replicate]; split <;> rfl
theorem Prod.start (xs ys : List Int) : Prod xs ys 0 0 0 (List.replicate (xs.length + ys.length) 0) :=
 ⟨by simp, qhF _, fun j _ => qcD _ _, by decide, by rw [qcz (qcD _)]; simp [wV]⟩
theorem qs9 {a b : Nat} (ha : a < 18446744073709551616) (hb : b < 18446744073709551616) : a * b <= 340282366920938463426481119284349108225 :=
 Nat.le_trans (Nat.mul_le_mul (show a <= 18446744073709551615 by omega) (show b <= 18446744073709551615 by omega)) (by decide)
theorem qta {x y s o : Nat} (hx : x < 18446744073709551616) (hy : y < 18446744073709551616) (hs : s < 18446744073709551616) (ho : o < 18446744073709551616) :
  (x * y + s + o) / 18446744073709551616 < 18446744073709551616 := by
 have := qs9 hx hy
 exact Nat.div_lt_of_lt_mul (by omega)
theorem Prod.step {xs ys u : List Int} {i k : Nat} {o : Int} (h : Prod xs ys i k o u) (hx : W64 xs) (hy : W64 ys) (hi : i < xs.length) (hk : k < ys.length) :
  Prod xs ys i (k + 1) ((xs.getD i 0 * ys.getD k 0 + u.getD (i + k) 0 + o) / 18446744073709551616) (u.set (i + k) ((xs.getD i 0 * ys.getD k 0 + u.getD (i + k) 0 + o) % 18446744073709551616)) := by
 have bx := qaF hx i
 have bY := qaF hy k
 have bu := qaF h.w (i + k)
 have hy' := qbG ys k
 obtain ⟨hl, hw, hz, ho, hv⟩ := h
 have hset := fun v => qhE (u := u) (i := i + k) (v := v) (by omega)
 generalize hx0 : xs.getD i 0 = x at *
 generalize ys.getD k 0 = y at *
 generalize u.getD (i + k) 0 = s at *
 obtain ⟨x, rfl⟩ := Int.eq_ofNat_of_zero_le bx.1
 obtain ⟨y, rfl⟩ := Int.eq_ofNat_of_zero_le bY.1
 obtain ⟨s, rfl⟩ := Int.eq_ofNat_of_zero_le bu.1
 obtain ⟨o, rfl⟩ := Int.eq_ofNat_of_zero_le ho.1
 have hlt := qta (x := x) (y := y) (s := s) (o := o) (by omega) (by omega) (by omega) (by omega)
 obtain ⟨t, ht⟩ : ∃ t, x * y + s + o = t := ⟨_, rfl⟩
 have e0 : (x : Int) * y + s + o = (t : Int) := by rw [<- ht]; push_cast; rfl
 rw [ht] at hlt
 rw [e0]
 have e1 : ((t : Int) / 18446744073709551616) = ((t / 18446744073709551616 : Nat) : Int) := by omega
 have e2 : ((t : Int) % 18446744073709551616) = ((t % 18446744073709551616 : Nat) : Int) := by omega
 rw [e1, e2]
 refine ⟨by rw [List.length_set]; exact hl, qft hw ⟨by omega, by omega⟩, fun j hj => ?_, by omega, ?_⟩
 ·rw [qab (by omega), if_neg (by omega)]
  exact hz j hj
 ·have hs := hset ((t % 18446744073709551616 : Nat) : Int)
  rw [hy', hx0]
  simp only [Int.toNat_natCast] at hs hv ⊢
  have hd := Nat.mod_add_div t 18446744073709551616
  generalize t % 18446744073709551616 = l at *
  generalize t / 18446744073709551616 = g at *
  rw [show i + (k + 1) = (i + k) + 1 by omega, Nat.pow_succ]
  have e3 : x * (wV (ys.take k) + y * 18446744073709551616 ^ k) * 18446744073709551616 ^ i = x * wV (ys.take k) * 18446744073709551616 ^ i + x * y * 18446744073709551616 ^ (i + k) := by
   rw [Nat.mul_add, Nat.add_mul, Nat.pow_add, Nat.mul_comm (18446744073709551616 ^ i)]
   simp only [Nat.mul_assoc]
  rw [e3]
  generalize 18446744073709551616 ^ (i + k) = W at *
  generalize x * wV (ys.take k) * 18446744073709551616 ^ i = p1 at *
  generalize wV (xs.take i) * wV ys = p2 at *
  have hm : (l + 18446744073709551616 * g) * W = (x * y + s + o) * W := by rw [hd, ht]
  rw [Nat.add_mul, Nat.add_mul, Nat.add_mul] at hm
  rw [Nat.mul_comm W, <- Nat.mul_assoc, Nat.mul_comm g]
  omega
theorem Prod.row {xs ys u : List Int} {i : Nat} {o : Int} (h : Prod xs ys i ys.length o u) (hi : i < xs.length) :
  Prod xs ys (i + 1) 0 0 (u.set (i + ys.length) o) := by
 obtain ⟨hl, hw, hz, ho, hv⟩ := h
 have hs := qhE (u := u) (i := i + ys.length) (v := o) (by omega)
 rw [hz _ (Nat.le_refl _)] at hs
 refine ⟨by rw [List.length_set]; exact hl, qft hw ho, fun j hj => ?_, by decide, ?_⟩
 ·rw [qab (by omega), if_neg (by omega)]
  exact hz j (by omega)
 ·rw [qbG, Nat.add_mul]
  rw [qdi (Nat.le_refl _)] at hv
  simp only [Int.toNat_zero, Nat.zero_mul, Nat.add_zero, List.take_zero] at hs ⊢
  rw [hs, hv, show wV [] = 0 from rfl, Nat.mul_zero, Nat.zero_mul, Nat.add_zero]
  congr 1
  rw [Nat.mul_assoc, Nat.mul_assoc, Nat.mul_comm (wV ys)]
theorem Prod.done {xs ys u : List Int} (h : Prod xs ys xs.length 0 0 u) : wV u = wV xs * wV ys := by
 have hv := h.val
 rw [qdi (Nat.le_refl _)] at hv
 simpa [wV] using hv
def shV (V : Nat) (by' : Int) : Nat := if 0 <= by' then V * 2 ^ by'.toNat else V / 2 ^ (-by').toNat
def wdI (V : Nat) (j : Int) : Nat := if 0 <= j then wd V j.toNat else 0
theorem qtb {V U : Nat} (hU : U < 64) (j : Nat) : wd (V * 2 ^ U) (j + 1) = wd V (j + 1) * 2 ^ U % 18446744073709551616 + wd V j / 2 ^ (64 - U) := by
 have h2 : (18446744073709551616 : Nat) = 2 ^ (64 - U) * 2 ^ U := by rw [<- Nat.pow_add, show 64 - U + U = 64 by omega]
 have hp : 0 < 2 ^ U := Nat.pow_pos (by decide)
 have hp2 : 0 < 2 ^ (64 - U) := Nat.pow_pos (by decide)
 have hV := qjZ V j
 have e1 : V * 2 ^ U / 18446744073709551616 ^ (j + 1) = (V / 18446744073709551616 ^ j) / 2 ^ (64 - U) := by
  rw [Nat.div_div_eq_div_mul, Nat.pow_succ]
  conv => lhs; rw [show 18446744073709551616 ^ j * 18446744073709551616 = (18446744073709551616 ^ j * 2 ^ (64 - U)) * 2 ^ U by rw [Nat.mul_assoc, <- h2]]
  exact Nat.mul_div_mul_right _ _ hp
 have e2 : V / 18446744073709551616 ^ j / 2 ^ (64 - U) = 2 ^ U * (V / 18446744073709551616 ^ (j + 1)) + wd V j / 2 ^ (64 - U) := by
  rw [hV]
  conv => lhs; rw [show 18446744073709551616 * (V / 18446744073709551616 ^ (j + 1)) = 2 ^ (64 - U) * (2 ^ U * (V / 18446744073709551616 ^ (j + 1))) by rw [<- Nat.mul_assoc, <- h2]]
  rw [Nat.mul_add_div hp2]
 unfold wd at e2 ⊢
 rw [e1, e2]
 generalize hQ : V / 18446744073709551616 ^ (j + 1) = Q at *
 have hq : V / 18446744073709551616 ^ j % 18446744073709551616 / 2 ^ (64 - U) < 2 ^ U := by
  apply Nat.div_lt_of_lt_mul
  rw [<- h2]
  exact Nat.mod_lt _ (by decide)
 generalize V / 18446744073709551616 ^ j % 18446744073709551616 / 2 ^ (64 - U) = r at *
 have e3 : Q % 18446744073709551616 * 2 ^ U % 18446744073709551616 = 2 ^ U * Q % 18446744073709551616 := by
  rw [Nat.mod_mul_mod, Nat.mul_comm]
 rw [e3]
 have e4 : 2 ^ U * Q % 18446744073709551616 = 2 ^ U * (Q % 2 ^ (64 - U)) := by
  rw [h2, Nat.mul_comm (2 ^ (64 - U)), Nat.mul_mod_mul_left]
 have e5 : (2 ^ U * Q + r) % 18446744073709551616 = 2 ^ U * (Q % 2 ^ (64 - U)) + r := by
  have hlt : 2 ^ U * (Q % 2 ^ (64 - U)) + r < 18446744073709551616 := by
   have : Q % 2 ^ (64 - U) < 2 ^ (64 - U) := Nat.mod_lt _ hp2
   have h3 := Nat.mul_le_mul_left (2 ^ U) (show Q % 2 ^ (64 - U) + 1 <= 2 ^ (64 - U) by omega)
   rw [Nat.mul_add, Nat.mul_comm (2 ^ U) (2 ^ (64 - U)), <- h2] at h3
   omega
  rw [Nat.add_mod, e4, Nat.mod_eq_of_lt (show r < 18446744073709551616 by omega), Nat.mod_eq_of_lt hlt]
 rw [e5, e4]
theorem qtc (V U : Nat) : wd (V * 2 ^ U) 0 = wd V 0 * 2 ^ U % 18446744073709551616 := by
 unfold wd
 rw [Nat.pow_zero, Nat.div_one, Nat.div_one, Nat.mod_mul_mod]
theorem qtd {V U : Nat} (hU : U < 64) (j : Int) : wdI V j * 2 ^ U % 18446744073709551616 + wdI V (j - 1) / 2 ^ (64 - U) = wdI (V * 2 ^ U) j := by
 unfold wdI
 by_cases h : 0 <= j
 ·rw [if_pos h, if_pos h]
  by_cases h1 : 0 <= j - 1
  ·rw [if_pos h1]
   have : j.toNat = (j - 1).toNat + 1 := by omega
   rw [this, qtb hU]
  ·rw [if_neg h1]
   have : j.toNat = 0 := by omega
   rw [this, qtc, Nat.zero_div, Nat.add_zero]
 ·rw [if_neg h, if_neg h, if_neg (by omega)]
  simp
theorem qog {a b U : Nat} (hb : b < 2 ^ U) : a * 2 ^ U ||| b = a * 2 ^ U + b := by
 rw [<- Nat.shiftLeft_eq, Nat.shiftLeft_add_eq_or_of_lt hb]
theorem qte {V U : Nat} (hU : U < 64) (j : Int) : wdI V j * 2 ^ U % 18446744073709551616 ||| wdI V (j - 1) / 2 ^ (64 - U) = wdI (V * 2 ^ U) j := by
 rw [<- qtd hU]
 have h2 : (18446744073709551616 : Nat) = 2 ^ (64 - U) * 2 ^ U := by rw [<- Nat.pow_add, show 64 - U + U = 64 by omega]
 have e : wdI V j * 2 ^ U % 18446744073709551616 = (wdI V j % 2 ^ (64 - U)) * 2 ^ U := by
  conv => lhs; rw [h2]
  rw [Nat.mul_mod_mul_right]
 rw [e]
 apply qog
 apply Nat.div_lt_of_lt_mul
 rw [<- h2]
 unfold wdI
 split
 ·exact qjY _ _
 ·decide
theorem qj1 : ∀ {u : List Int} {R : Nat}, (∀ j, j < u.length -> u.getD j 0 = ((wd R j : Nat) : Int)) -> wV u = R % 18446744073709551616 ^ u.length
 | [], R, _ => by simp [wV, Nat.mod_one]
 | x :: l, R, h => by
   have h0 : x = ((R % 18446744073709551616 : Nat) : Int) := by
     have := h 0 (Nat.succ_pos _)
     rw [List.getD_cons_zero] at this
     rw [this]; unfold wd; rw [Nat.pow_zero, Nat.div_one]
   have hl := qj1 (u := l) (R := R / 18446744073709551616) fun j hj => by
     have := h (j + 1) (by simpa using hj)
     rw [List.getD_cons_succ] at this
     rw [this]
     unfold wd
     rw [Nat.pow_succ, Nat.mul_comm, <- Nat.div_div_eq_div_mul]
   simp only [wV, List.length_cons]
   rw [hl, h0, Int.toNat_natCast, Nat.pow_succ, Nat.mul_comm (_ ^ _), Nat.mod_mul]
theorem qoh {u : List Int} {R : Nat} (h : ∀ j, j < u.length -> u.getD j 0 = ((wd R j : Nat) : Int)) : W64 u := by
 intro a ha
 obtain ⟨j, hj, rfl⟩ := List.mem_iff_getElem.1 ha
 have := h j hj
 rw [List.getD_eq_getElem?_getD, List.getElem?_eq_getElem hj] at this
 have hl := qjY R j
 simp only [Option.getD_some] at this
 omega
theorem qtf {V W : Nat} (j : Int) (hj : 0 <= j) : wdI V (j - W) = wd (V * 18446744073709551616 ^ W) j.toNat := by
 unfold wdI wd
 have hp : 0 < 18446744073709551616 ^ W := Nat.pow_pos (by decide)
 split
 ·rename_i h
  have : j.toNat = (j - W).toNat + W := by omega
  rw [this, Nat.pow_add, Nat.mul_div_mul_right _ _ hp]
 ·rename_i h
  obtain ⟨d, hd⟩ : ∃ d, W = j.toNat + 1 + d := ⟨W - j.toNat - 1, by omega⟩
  rw [hd, Nat.pow_add, Nat.pow_succ, Nat.mul_comm V, Nat.mul_assoc, Nat.mul_assoc, Nat.mul_div_cancel_left _ (Nat.pow_pos (by decide)), Nat.mul_mod_right]
theorem qtg {V W : Nat} (j : Nat) : wdI V ((j : Int) + W) = wd (V / 18446744073709551616 ^ W) j := by
 unfold wdI wd
 rw [if_pos (by omega), Nat.div_div_eq_div_mul, <- Nat.pow_add]
 have : ((j : Int) + W).toNat = W + j := by omega
 rw [this]
theorem qoi {xs u : List Int} (hx : W64 xs) {W : Int} {U : Nat} {by' : Int} (hU : U < 64) (hb : by' = 64 * W + U) (hl : (u.length : Int) = max 0 (xs.length + W + 1))
  (h : ∀ j, j < u.length -> u.getD j 0 = ((wdI (wV xs * 2 ^ U) ((j : Int) - W) : Nat) : Int)) : wV u = shV (wV xs) by' /\ W64 u := by
 have hlt := qbF hx
 have hp : 2 ^ U < 18446744073709551616 := Nat.lt_of_lt_of_le (Nat.pow_lt_pow_right (by decide) hU) (by decide)
 have hVU : wV xs * 2 ^ U < 18446744073709551616 ^ (xs.length + 1) := by
  rw [Nat.pow_succ]
  exact Nat.mul_lt_mul'' hlt hp
 unfold shV
 rcases Int.lt_or_le W 0 with hW | hW
 ·obtain ⟨w, rfl⟩ : ∃ w : Nat, W = -(w : Int) := ⟨(-W).toNat, by omega⟩
  have hj : ∀ j, j < u.length -> u.getD j 0 = ((wd (wV xs * 2 ^ U / 18446744073709551616 ^ w) j : Nat) : Int) := fun j hj => by
   rw [h j hj, <- qtg]
   congr 2
   omega
  refine ⟨?_, qoh hj⟩
  rw [qj1 hj, if_neg (by omega), wpow, Nat.mod_eq_of_lt]
  ·have : 64 * w = U + (-by').toNat := by omega
   rw [this, Nat.pow_add, Nat.mul_comm (wV xs), Nat.mul_div_mul_left _ _ (Nat.pow_pos (by decide))]
  ·rw [<- wpow]
   apply Nat.div_lt_of_lt_mul
   rw [<- Nat.pow_add]
   exact Nat.lt_of_lt_of_le hVU (Nat.pow_le_pow_right (by decide) (by omega))
 ·obtain ⟨w, rfl⟩ : ∃ w : Nat, W = (w : Int) := ⟨W.toNat, by omega⟩
  have hj : ∀ j, j < u.length -> u.getD j 0 = ((wd (wV xs * 2 ^ U * 18446744073709551616 ^ w) j : Nat) : Int) := fun j hj => by
   rw [h j hj, qtf _ (by omega), Int.toNat_natCast]
  refine ⟨?_, qoh hj⟩
  rw [qj1 hj, if_pos (by omega), Nat.mod_eq_of_lt, Nat.mul_assoc, wpow, <- Nat.pow_add]
  ·congr 2; omega
  ·have : u.length = (xs.length + 1) + w := by omega
   rw [this, Nat.pow_add]
   exact Nat.mul_lt_mul_of_pos_right hVU (Nat.pow_pos (by decide))
end Go.Sx
end
section
namespace Go.Sx
theorem ushl (a : Int) (k : Nat) (hk : k <= 64) : binL .shl .u64 a (k : Int) = a * ((2 ^ k : Nat) : Int) % 18446744073709551616 := by
 show IntKind.u64.wrap (a * 2 ^ (min (k : Int).toNat 64)) = _
 rw [IntKind.wrap_u64, Int.toNat_natCast, Nat.min_eq_left hk]
 push_cast
 rfl
theorem uorN {a b : Nat} (ha : a < 18446744073709551616) (hb : b < 18446744073709551616) : binL .or .u64 (a : Int) (b : Int) = ((a ||| b : Nat) : Int) := by
 rw [uorb, BitVec.ofInt_natCast, BitVec.ofInt_natCast, BitVec.toNat_or, BitVec.toNat_ofNat, BitVec.toNat_ofNat, Nat.mod_eq_of_lt ha, Nat.mod_eq_of_lt hb]
theorem qoj {V U : Nat} (hU : U < 64) (j : Int) :
  binL .or .u64 (binL .shl .u64 ((wdI V j : Nat) : Int) (U : Int)) (binL .shr .u64 ((wdI V (j - 1) : Nat) : Int) (64 - U : Nat)) = ((wdI (V * 2 ^ U) j : Nat) : Int) := by
 rw [ushl _ _ (by omega), ushr _ _ (by omega), <- qte hU]
 have e1 : ((wdI V j : Nat) : Int) * ((2 ^ U : Nat) : Int) % 18446744073709551616 = ((wdI V j * 2 ^ U % 18446744073709551616 : Nat) : Int) := by
  rw [<- Int.natCast_mul]; rfl
 have e2 : ((wdI V (j - 1) : Nat) : Int) / ((2 ^ (64 - U) : Nat) : Int) = ((wdI V (j - 1) / 2 ^ (64 - U) : Nat) : Int) := rfl
 rw [e1, e2]
 apply uorN
 ·exact Nat.mod_lt _ (by decide)
 ·refine Nat.lt_of_le_of_lt (Nat.div_le_self _ _) ?_
  unfold wdI; split
  ·exact qjY _ _
  ·decide
structure Offs (bs : List Int) (i : Nat) (u : List Int) : Prop where
 len : u.length = (bs.length + 7) / 8
 w : W64 u
 val : wV u = nV (bs.take i)
theorem Offs.start (bs : List Int) : Offs bs 0 (List.replicate ((bs.length + 7) / 8) 0) :=
 ⟨by simp, qhF _, by rw [qcz (qcD _)]; rfl⟩
theorem qj2 (i : Nat) : 256 ^ i = 2 ^ (8 * (i % 8)) * 18446744073709551616 ^ (i / 8) := by
 rw [wpow, <- Nat.pow_add, show (256 : Nat) = 2 ^ 8 from rfl, <- Nat.pow_mul]
 congr 1; omega
theorem Offs.low {bs u : List Int} {i : Nat} (h : Offs bs i u) (hb : Byt bs) : 0 <= u.getD (i / 8) 0 /\ u.getD (i / 8) 0 < ((2 ^ (8 * (i % 8)) : Nat) : Int) := by
 rw [w_wd h.w, h.val]
 refine ⟨by omega, Int.ofNat_lt.2 ?_⟩
 unfold wd
 refine Nat.lt_of_le_of_lt (Nat.mod_le _ _) ?_
 apply Nat.div_lt_of_lt_mul
 rw [Nat.mul_comm, <- qj2]
 exact Nat.lt_of_lt_of_le (qaO (qaz hb i)) (Nat.pow_le_pow_right (by decide) (by rw [List.length_take]; exact Nat.min_le_left _ _))
theorem Offs.step {bs u : List Int} {i : Nat} (h : Offs bs i u) (hb : Byt bs) (hi : i < bs.length) :
  Offs bs (i + 1) (u.set (i / 8) (binL .or .u64 (u.getD (i / 8) 0) (binL .shl .u64 (IntKind.u64.wrap (bs.getD i 0)) ((8 * (i % 8) : Nat) : Int)))) := by
 have hl := h.low hb
 have hx := qaJ hb i
 have hk : 8 * (i % 8) <= 56 := by omega
 rw [qcj (8 * (i % 8)) hk _ _ hl.1 hl.2 hx]
 have hn := qdd hb i
 have hs := qhE (u := u) (i := i / 8) (v := u.getD (i / 8) 0 + bs.getD i 0 * ((2 ^ (8 * (i % 8)) : Nat) : Int)) (by rw [h.len]; omega)
 have hlt : u.getD (i / 8) 0 + bs.getD i 0 * ((2 ^ (8 * (i % 8)) : Nat) : Int) < 18446744073709551616 := by
  have h2 : ((2 ^ (8 * (i % 8)) : Nat) : Int) <= 72057594037927936 := Int.ofNat_le.2 (Nat.pow_le_pow_right (n := 2) (by decide) hk)
  have h3 : (bs.getD i 0 + 1) * ((2 ^ (8 * (i % 8)) : Nat) : Int) <= 256 * ((2 ^ (8 * (i % 8)) : Nat) : Int) := Int.mul_le_mul_of_nonneg_right (by omega) (by omega)
  rw [Int.add_mul] at h3
  omega
 have h0 : 0 <= bs.getD i 0 * ((2 ^ (8 * (i % 8)) : Nat) : Int) := Int.mul_nonneg hx.1 (by omega)
 refine ⟨by rw [List.length_set]; exact h.len, qft h.w ⟨by omega, hlt⟩, ?_⟩
 obtain ⟨x, hx'⟩ := Int.eq_ofNat_of_zero_le hx.1
 rw [hx'] at hs hn h0 ⊢
 obtain ⟨y, hy'⟩ := Int.eq_ofNat_of_zero_le hl.1
 rw [hy'] at hs ⊢
 have e1 : ((y : Int) + (x : Int) * ((2 ^ (8 * (i % 8)) : Nat) : Int)).toNat = y + x * 2 ^ (8 * (i % 8)) := by
  rw [<- Int.natCast_mul, <- Int.natCast_add, Int.toNat_natCast]
 rw [e1, Int.toNat_natCast, Nat.add_mul, Nat.mul_assoc, <- qj2, h.val] at hs
 have hn2 : nV (bs.take (i + 1)) = nV (bs.take i) + x * 256 ^ i := by
  apply Int.ofNat_inj.1
  rw [hn, Int.natCast_add, Int.natCast_mul, Int.natCast_pow]; rfl
 omega
theorem Offs.done {bs u : List Int} (h : Offs bs bs.length u) : wV u = nV bs := by
 rw [h.val, List.take_length]
theorem qth (V i : Nat) : wd V (i / 8) / 2 ^ (8 * (i % 8)) % 256 = V / 256 ^ i % 256 := by
 unfold wd
 have h2 : (18446744073709551616 : Nat) = 2 ^ (8 * (i % 8)) * (256 * 2 ^ (56 - 8 * (i % 8))) := by
  rw [show (256 : Nat) = 2 ^ 8 from rfl, <- Nat.pow_add, <- Nat.pow_add]
  have : 8 * (i % 8) + (8 + (56 - 8 * (i % 8))) = 64 := by omega
  rw [this]
 rw [qj2, Nat.mul_comm (2 ^ (8 * (i % 8))), <- Nat.div_div_eq_div_mul]
 generalize V / 18446744073709551616 ^ (i / 8) = Q
 conv => lhs; rw [h2]
 rw [Nat.mod_mul_right_div_self, Nat.mod_mul_right_mod]
theorem qti (V i : Nat) : IntKind.u8.wrap (binL .shr .u64 ((wd V (i / 8) : Nat) : Int) ((8 * (i % 8) : Nat) : Int)) = ((V / 256 ^ i % 256 : Nat) : Int) := by
 rw [ushr _ _ (by omega), IntKind.wrap_u8, <- qth]
 rfl
theorem qtj {xs : List Int} (h : W64 xs) (i : Nat) : (if 0 <= (i : Int) then xs.getD (i : Int).toNat 0 else 0) = ((wd (wV xs) i : Nat) : Int) := by
 rw [if_pos (by omega), Int.toNat_natCast, w_wd h]
theorem qhG {xs : List Int} (h : W64 xs) (i : Int) : (if 0 <= i then xs.getD i.toNat 0 else 0) = ((wdI (wV xs) i : Nat) : Int) := by
 unfold wdI
 split
 ·rw [w_wd h]
 ·rfl
theorem qtk {xs : List Int} (h : W64 xs) (hl : xs.length < 1000000) : ∃ z, IsLen (wV xs) z /\ z <= 64000000 := by
 have h1 := qbF h
 rw [wpow] at h1
 obtain ⟨z, h2, h3⟩ := qjR h1
 exact ⟨z, h2, by omega⟩
theorem qtl : IsLen 0 0 := ⟨by decide, .inl rfl⟩
end Go.Sx
end
section
namespace Go.Sx
def LN : Nat := 181709681073901722637330951972001133588410340171829515070372549795146003961539585716195755291692375963310293709091662304773755859649779
def T446 : Nat := 2 ^ 223 * 2 ^ 223
theorem qoo : 0 < T446 := by decide +kernel
def qaQ : Nat := 13818066809895115352007386748515426880336692474882178609894547503885
def qbU : List Int := [15890737349981092621, 16038230375712583850, 4301259484579875183, 2201345046]
theorem qtw : wV qbU = qaQ := by decide +kernel
theorem qtx : W64 qbU := by
 intro a ha
 have : a ∈ qbU := ha
 simp only [qbU, List.mem_cons, List.not_mem_nil, or_false] at this
 omega
theorem qop : T446 - qaQ = LN := by decide +kernel
theorem qty : LN + qaQ = T446 := by decide +kernel
theorem qoq : qaQ <= T446 := by decide +kernel
theorem qaX : 0 < LN := by decide +kernel
theorem qa7 : LN < T446 := by decide +kernel
theorem qtz : T446 < 2 * LN := by decide +kernel
theorem qdj : T446 < 18446744073709551616 ^ 7 := by decide +kernel
theorem qhK : T446 < 256 ^ 57 := by decide +kernel
theorem qtA (V n m : Nat) : shV V ((n + m : Nat) : Int) = V * (2 ^ n * 2 ^ m) := by
 unfold shV
 rw [if_pos (by omega), Int.toNat_natCast, Nat.pow_add]
theorem qtB (V n m : Nat) (h : 0 < n) : shV V (-((n + m : Nat) : Int)) = V / (2 ^ n * 2 ^ m) := by
 unfold shV
 rw [if_neg (by omega), Int.neg_neg, Int.toNat_natCast, Nat.pow_add]
theorem qj4 (V : Nat) : shV V 446 = V * T446 := qtA V 223 223
theorem qor (V : Nat) : shV V (-446) = V / T446 := qtB V 223 223 (by decide)
theorem qtC : shV (wV [1]) 446 = T446 := by
 rw [qj4, show wV [1] = 1 from rfl, Nat.one_mul]
theorem qtD : W64 [1] := by
 intro a ha
 rw [List.mem_singleton.1 ha]; decide
theorem qos {N : Nat} (h : N / T446 ≠ 0) : N - N / T446 * T446 + N / T446 * qaQ < N /\ (N - N / T446 * T446 + N / T446 * qaQ) % LN = N % LN /\ N / T446 * T446 <= N := by
 have hd := Nat.div_add_mod N (T446)
 have hl := qty
 have hlt := Nat.mod_lt N qoo
 have hp := qaX
 generalize T446 = W at *
 generalize N / W = q at *
 generalize N % W = r at *
 subst hl
 rw [Nat.mul_comm] at hd
 have e : q * (LN + qaQ) = q * LN + q * qaQ := Nat.mul_add ..
 have h1 : LN <= q * LN := Nat.le_mul_of_pos_left _ (Nat.pos_of_ne_zero h)
 refine ⟨by omega, ?_, by omega⟩
 have e2 : N = (N - q * (LN + qaQ) + q * qaQ) + LN * q := by rw [Nat.mul_comm LN]; omega
 conv => rhs; rw [e2]
 rw [Nat.add_mul_mod_self_left]
theorem qhL {N : Nat} (h : N / T446 = 0) : (LN <= N -> N - LN = N % LN) /\ (N < LN -> N = N % LN) := by
 have h1 : N < T446 := (Nat.div_eq_zero_iff_lt qoo).1 h
 have h2 := qtz
 refine ⟨fun h3 => ?_, fun h3 => (Nat.mod_eq_of_lt h3).symm⟩
 rw [Nat.mod_eq_sub_mod h3, Nat.mod_eq_of_lt (by omega)]
theorem qhM : ∀ {xs : List Int}, W64 xs -> valB 18446744073709551616 xs = (wV xs : Int)
 | [], _ => rfl
 | x :: l, h => by
   have hx := h x (List.mem_cons_self ..)
   simp only [valB, wV]
   rw [qhM fun a ha => h a (List.mem_cons_of_mem _ ha)]
   omega
theorem qj5 : ∀ (xs ys : List Int), wV (xs ++ ys) = wV xs + 18446744073709551616 ^ xs.length * wV ys
 | [], ys => by simp [wV]
 | x :: l, ys => by
   rw [List.cons_append]
   simp only [wV, List.length_cons]
   rw [qj5 l ys, Nat.pow_succ, Nat.mul_add, Nat.add_assoc, <- Nat.mul_assoc 18446744073709551616, Nat.mul_comm 18446744073709551616 (_ ^ _)]
theorem qot {N : Nat} (h : N < LN) : okSc N (natW N ++ List.replicate (7 - (natW N).length) 0) := by
 have hl : (natW N).length <= 7 := qhB (Nat.lt_trans h (Nat.lt_trans qa7 qdj))
 have h64 : W64 (natW N ++ List.replicate (7 - (natW N).length) 0) := by
  intro a ha
  rcases List.mem_append.1 ha with h | h
  ·exact qob N a h
  ·exact qhF _ a h
 refine ⟨by rw [List.length_append, List.length_replicate]; omega, h64, ?_, h⟩
 rw [qhM h64, qj5, qoa, qcz (qcD _)]; simp
theorem qou {N : Nat} {xs : List Int} (h : okSc N xs) : W64 xs /\ wV xs = N /\ xs.length = 7 /\ N < LN := by
 obtain ⟨h1, h2, h3, h4⟩ := h
 refine ⟨h2, ?_, h1, h4⟩
 have := qhM (xs := xs) h2
 omega
theorem qhN {nl : List Int} {V : Nat} (h : W64 nl) (hV : wV nl = V) (hlt : V < LN) : okSc V ([0, 0, 0, 0, 0, 0, 0].take 0 ++ (nl.drop 0).take 7 ++ [0, 0, 0, 0, 0, 0, 0].drop (0 + ((nl.drop 0).take 7).length)) := by
 rw [List.take_zero, List.nil_append, List.drop_zero, Nat.zero_add]
 have hl : (nl.take 7).length <= 7 := by rw [List.length_take]; exact Nat.min_le_left _ _
 have e0 : ([0, 0, 0, 0, 0, 0, 0] : List Int) = List.replicate 7 0 := rfl
 rw [e0, List.drop_replicate]
 have h64 : W64 (nl.take 7 ++ List.replicate (7 - (nl.take 7).length) 0) := by
  intro a ha
  rcases List.mem_append.1 ha with h1 | h1
  ·exact h.take 7 a h1
  ·exact qhF _ a h1
 refine ⟨by rw [List.length_append, List.length_replicate]; omega, h64, ?_, hlt⟩
 rw [qhM h64, qj5, qcz (qcD _), Nat.mul_zero, Nat.add_zero]
 obtain ⟨q, hq⟩ := qj0 7 h
 have : q = 0 := by
  cases q with
  | zero => rfl
  | succ q =>
    have h7 := Nat.lt_trans qa7 qdj
    rw [hV, Nat.add_mul] at hq
    generalize 18446744073709551616 ^ 7 = W at *
    omega
 rw [this] at hq
 omega
theorem nw {l : List Int} {N : Nat} (k : Nat) (h : l = natW N) (hN : N < 18446744073709551616 ^ k) (hk : k < 1000000) : (W64 l /\ l.length < 1000000) /\ wV l = N := by
 subst h
 exact ⟨⟨qob N, Nat.lt_of_le_of_lt (qhB hN) hk⟩, qoa N⟩
theorem nwT {l : List Int} (h : l = natW T446) : (W64 l /\ l.length < 1000000) /\ wV l = T446 := nw 7 h qdj (by decide)
theorem nwL {l : List Int} (h : l = natW LN) : (W64 l /\ l.length < 1000000) /\ wV l = LN := nw 7 h (Nat.lt_trans qa7 qdj) (by decide)
theorem nwC {l : List Int} (h : l = qbU) : (W64 l /\ l.length < 1000000) /\ wV l = qaQ := by
 subst h
 exact ⟨⟨qtx, by decide⟩, qtw⟩
end Go.Sx
end
section
namespace Go.Sx
theorem sorN {a b : Nat} (ha : a < 9223372036854775808) (hb : b < 9223372036854775808) : binL .or .i64 (a : Int) (b : Int) = ((a ||| b : Nat) : Int) := by
 show IntKind.i64.wrap ((BitVec.ofInt 64 (a : Int) ||| BitVec.ofInt 64 (b : Int)).toNat : Int) = _
 rw [BitVec.ofInt_natCast, BitVec.ofInt_natCast, BitVec.toNat_or, BitVec.toNat_ofNat, BitVec.toNat_ofNat, Nat.mod_eq_of_lt (by omega), Nat.mod_eq_of_lt (by omega)]
 have : a ||| b < 2 ^ 63 := Nat.or_lt_two_pow (by omega) (by omega)
 exact qV (by omega) (by omega)
theorem qj7 {a k : Nat} (hk : k <= 64) (h : a * 2 ^ k < 9223372036854775808) : binL .shl .i64 (a : Int) (k : Int) = ((a * 2 ^ k : Nat) : Int) := by
 show IntKind.i64.wrap ((a : Int) * 2 ^ (min (k : Int).toNat 64)) = _
 rw [Int.toNat_natCast, Nat.min_eq_left hk, show ((2 : Int) ^ k) = ((2 ^ k : Nat) : Int) by rw [Int.natCast_pow]; rfl, <- Int.natCast_mul]
 exact qV (by omega) (by omega)
theorem qoz (a : Int) {k : Nat} (hk : k <= 64) : binL .shr .i64 a (k : Int) = a / ((2 ^ k : Nat) : Int) := by
 show a.fdiv (2 ^ (min (k : Int).toNat 64)) = _
 rw [Int.toNat_natCast, Nat.min_eq_left hk, show ((2 : Int) ^ k) = ((2 ^ k : Nat) : Int) by rw [Int.natCast_pow]; rfl]
 exact Int.fdiv_eq_ediv_of_nonneg _ (Int.natCast_nonneg _)
theorem qtI : ∀ y : Fin 256, binL .and .u8 (y.val : Int) 1 = ((y.val % 2 : Nat) : Int) := by decide +kernel
theorem qtJ {bs : List Int} (hb : Byt bs) (i : Nat) : IntKind.i64.wrap (binL .and .u8 (binL .shr .u8 (bs.getD (i / 8) 0) ((i % 8 : Nat) : Int)) 1) = ((bitN (nV bs) i : Nat) : Int) := by
 rw [qdc hb]
 have hx : nV bs / 256 ^ (i / 8) % 256 < 256 := Nat.mod_lt _ (by decide)
 have e := qnQ (nV bs) i
 generalize nV bs / 256 ^ (i / 8) % 256 = x at *
 have e2 : binL .shr .u8 (x : Int) ((i % 8 : Nat) : Int) = ((x / 2 ^ (i % 8) : Nat) : Int) := by
  show (x : Int).fdiv (2 ^ (min ((i % 8 : Nat) : Int).toNat 8)) = _
  rw [Int.toNat_natCast, Nat.min_eq_left (by omega), show ((2 : Int) ^ (i % 8)) = ((2 ^ (i % 8) : Nat) : Int) by rw [Int.natCast_pow]; rfl]
  exact Int.fdiv_eq_ediv_of_nonneg _ (Int.natCast_nonneg _)
 rw [e2]
 have hy : x / 2 ^ (i % 8) < 256 := Nat.lt_of_le_of_lt (Nat.div_le_self _ _) hx
 have := qtI ⟨x / 2 ^ (i % 8), hy⟩
 simp only at this
 rw [this, e]
 have := qbT (nV bs) i
 exact qV (by omega) (by omega)
theorem qtK {bs : List Int} (hb : Byt bs) {i : Nat} (h : 8 * bs.length <= i) : bitN (nV bs) i = 0 := by
 unfold bitN
 rw [Nat.div_eq_of_lt (Nat.lt_of_lt_of_le (qdV hb) (Nat.pow_le_pow_right (by decide) h))]
theorem qoA (V f : Nat) {k : Nat} (hk : k < 16) : binL .or .i64 ((V / 2 ^ f % 2 ^ k : Nat) : Int) (binL .shl .i64 ((bitN V (f + k) : Nat) : Int) (k : Int)) = ((V / 2 ^ f % 2 ^ (k + 1) : Nat) : Int) := by
 have hb := qbT V (f + k)
 have h16 : 2 ^ k < 65536 := Nat.lt_of_lt_of_le (Nat.pow_lt_pow_right (by decide) hk) (by decide)
 have hm : V / 2 ^ f % 2 ^ k < 2 ^ k := Nat.mod_lt _ (Nat.pow_pos (by decide))
 have hbk : bitN V (f + k) * 2 ^ k <= 1 * 2 ^ k := Nat.mul_le_mul_right _ (by omega)
 rw [qj7 (by omega) (by omega), sorN (by omega) (by omega), Nat.or_comm, qog hm, Nat.mod_pow_succ]
 have : bitN V (f + k) = V / 2 ^ f / 2 ^ k % 2 := by unfold bitN; rw [Nat.div_div_eq_div_mul, <- Nat.pow_add]
 rw [this, Nat.mul_comm]
 omega
end Go.Sx
end
section
namespace Go.Sx
def qaL (V w n : Nat) : List Int := (List.range n).map fun i => ((V / 2 ^ (w * i) % 2 ^ w : Nat) : Int)
theorem qfD (V w n : Nat) : (qaL V w n).length = n := by simp [qaL]
theorem qtL (V w n : Nat) : qaL V w (n + 1) = qaL V w n ++ [((V / 2 ^ (w * n) % 2 ^ w : Nat) : Int)] := by
 simp [qaL, List.range_succ]
theorem qtM {V w n i : Nat} (h : i < n) : (qaL V w n).getD i 0 = ((V / 2 ^ (w * i) % 2 ^ w : Nat) : Int) := by
 rw [List.getD_eq_getElem?_getD, List.getElem?_eq_getElem (by rw [qfD]; exact h)]
 simp [qaL]
end Go.Sx
end
section
namespace Go.Sx
def Sg (l : List Int) : Prop := ∀ d ∈ l, -8 <= d /\ d <= 8
theorem qoC : ∀ (N V : Nat) (o : Int), V < 16 ^ N -> (o = 0 \/ o = 1) -> ∃ l, l.length = N + 1 /\ Sg l /\ valB 16 l = V + o
 | 0, V, o, hV, ho => ⟨[o], rfl, fun d hd => by rw [List.mem_singleton.1 hd]; omega, by
  have : V = 0 := by simpa using hV
  simp [valB, this]⟩
 | N + 1, V, o, hV, ho => by
   obtain ⟨t, ht⟩ : ∃ t : Int, t = (V % 16 : Nat) + o := ⟨_, rfl⟩
   obtain ⟨o', ho', hd⟩ : ∃ o' : Int, (o' = 0 \/ o' = 1) /\ -8 <= t - o' * 16 /\ t - o' * 16 <= 8 := by
     by_cases h : t < 8
     · exact ⟨0, .inl rfl, by omega⟩
     · exact ⟨1, .inr rfl, by omega⟩
   obtain ⟨l, h1, h2, h3⟩ := qoC N (V / 16) o' (by rw [Nat.pow_succ] at hV; exact Nat.div_lt_of_lt_mul (by omega)) ho'
   refine ⟨(t - o' * 16) :: l, by simp [h1], fun d hd' => ?_, ?_⟩
   · rcases List.mem_cons.1 hd' with rfl | h
     · exact hd
     · exact h2 d h
   · simp only [valB]
     rw [h3]
     omega
structure Sgs (V N i : Nat) (o : Int) (l : List Int) : Prop where
 len : l.length = N
 rest : ∀ j, i <= j -> j < N -> l.getD j 0 = ((V / 2 ^ (4 * j) % 2 ^ 4 : Nat) : Int)
 sg : ∀ j, j < i -> -8 <= l.getD j 0 /\ l.getD j 0 <= 8
 ov : o = 0 \/ o = 1
 val : valB 16 (l.take i) + o * 16 ^ i = ((V % 16 ^ i : Nat) : Int)
theorem Sgs.start {V N : Nat} : Sgs V N 0 0 (qaL V 4 N) :=
 ⟨qfD .., fun j _ hj => qtM hj, fun j hj => by omega, .inl rfl, by simp [valB, Nat.mod_one]⟩
theorem Sgs.step {V N i : Nat} {o o' : Int} {l : List Int} (h : Sgs V N i o l) (hi : i < N) (ho' : o' = ((l.getD i 0 + o) / 8 + 1) / 2) :
  (0 <= l.getD i 0 /\ l.getD i 0 <= 15) /\ (0 <= o' /\ o' <= 1) /\ Sgs V N (i + 1) o' (l.set i (l.getD i 0 + o - o' * 16)) := by
 obtain ⟨hl, hr, hs, ho, hv⟩ := h
 have hd := hr i (Nat.le_refl _) hi
 obtain ⟨d, hdd⟩ : ∃ d : Nat, d = V / 2 ^ (4 * i) % 2 ^ 4 := ⟨_, rfl⟩
 rw [<- hdd] at hd
 have hd16 : d < 16 := by rw [hdd]; exact Nat.mod_lt _ (by decide)
 rw [hd] at ho' ⊢
 have hb : (0 <= o' /\ o' <= 1) /\ -8 <= (d : Int) + o - o' * 16 /\ (d : Int) + o - o' * 16 <= 8 := by omega
 refine ⟨by omega, hb.1, by rw [List.length_set]; exact hl, fun j h1 h2 => ?_, fun j hj => ?_, by omega, ?_⟩
 ·rw [qab (by omega), if_neg (by omega)]
  exact hr j (by omega) h2
 ·rw [qab (by omega)]
  split
  ·exact hb.2
  ·exact hs j (by omega)
 ·rw [qg5 16 (by rw [List.length_set]; omega), qab (by omega), if_pos rfl]
  have et : (l.set i ((d : Int) + o - o' * 16)).take i = l.take i := by
   rw [List.take_set]
   exact List.set_eq_of_length_le (by rw [List.length_take]; omega)
  rw [et, Nat.mod_pow_succ, Int.natCast_add, <- hv]
  have e2 : V / 16 ^ i % 16 = d := by rw [hdd, Nat.pow_mul]
  rw [e2, Int.natCast_mul, Int.natCast_pow]
  show valB 16 (l.take i) + ((d : Int) + o - o' * 16) * 16 ^ i + o' * 16 ^ (i + 1) = valB 16 (l.take i) + o * 16 ^ i + (16 : Int) ^ i * d
  have e3 : o' * (16 : Int) ^ (i + 1) = o' * 16 * 16 ^ i := by rw [Int.pow_succ, Int.mul_comm (16 ^ i), Int.mul_assoc]
  rw [e3]
  generalize (16 : Int) ^ i = W
  rw [Int.sub_mul, Int.add_mul, Int.mul_comm W]
  omega
theorem Sgs.done {V N : Nat} {o : Int} {l : List Int} (h : Sgs V N N o l) (hV : V < 16 ^ N) : valB 16 (l ++ [o]) = V /\ Sg (l ++ [o]) /\ (l ++ [o]).length = N + 1 := by
 obtain ⟨hl, _, hs, ho, hv⟩ := h
 rw [List.take_of_length_le (by omega), Nat.mod_eq_of_lt hV] at hv
 refine ⟨?_, fun d hd => ?_, by simp [hl]⟩
 ·rw [qdQ, hl, <- hv]
  simp [valB, Int.mul_comm]
 ·rcases List.mem_append.1 hd with h | h
  ·obtain ⟨j, hj, rfl⟩ := List.mem_iff_getElem.1 h
   have := hs j (by omega)
   rw [List.getD_eq_getElem?_getD, List.getElem?_eq_getElem hj] at this
   exact this
  ·rw [List.mem_singleton.1 h]; omega
end Go.Sx
end
section
namespace Go.Sx
def Nd (d : Int) : Prop := d = 0 \/ (d % 2 = 1 /\ -16 < d /\ d < 16)
theorem qoD : ∀ (N V : Nat), V < 2 ^ N -> ∃ l : List Int, l.length = N /\ (∀ d ∈ l, Nd d) /\ valB 2 l = V
 | 0, V, hV => ⟨[], rfl, fun d hd => (by cases hd), by
  have : V = 0 := by simpa using hV
  simp [valB, this]⟩
 | N + 1, V, hV => by
   obtain ⟨l, h1, h2, h3⟩ := qoD N (V / 2) (by rw [Nat.pow_succ] at hV; exact Nat.div_lt_of_lt_mul (by omega))
   refine ⟨((V % 2 : Nat) : Int) :: l, by simp [h1], fun d hd => ?_, ?_⟩
   · rcases List.mem_cons.1 hd with rfl | h
     · unfold Nd; omega
     · exact h2 d h
   · simp only [valB]
     rw [h3]
     omega
structure Nf (V M i : Nat) (o : Int) (u : List Int) : Prop where
 len : u.length = M
 z : ∀ j, i <= j -> u.getD j 0 = 0
 nd : ∀ j, Nd (u.getD j 0)
 ov : o = 0 \/ o = 1
 fin : M <= i -> o = 0
 val : valB 2 u + o * 2 ^ i = ((V % 2 ^ i : Nat) : Int)
theorem qoE (b : Int) : ∀ n, valB b (List.replicate n 0) = 0
 | 0 => rfl
 | n + 1 => by rw [List.replicate_succ]; simp [valB, qoE b n]
theorem Nf.start {V M : Nat} : Nf V M 0 0 (List.replicate M 0) :=
 ⟨by simp, fun j _ => qcD _ _, fun j => .inl (qcD _ _), .inl rfl, fun _ => rfl, by rw [qoE]; simp [Nat.mod_one]⟩
theorem Nf.skip {V M i : Nat} {o : Int} {u : List Int} (h : Nf V M i o u) (hM : V < 2 ^ (M - 1)) (hi : i < M) (hb : (bitN V i : Int) + o = 0 \/ (bitN V i : Int) + o = 2) : Nf V M (i + 1) o u := by
 obtain ⟨hl, hz, hn, ho, hf, hv⟩ := h
 have hbl := qbT V i
 refine ⟨hl, fun j hj => hz j (by omega), hn, ho, fun hM2 => ?_, ?_⟩
 ·have : bitN V i = 0 := by
   unfold bitN
   rw [Nat.div_eq_of_lt (show V < 2 ^ i by rw [show i = M - 1 by omega]; exact hM)]
  omega
 ·have e : V % 2 ^ (i + 1) = V % 2 ^ i + 2 ^ i * bitN V i := Nat.mod_pow_succ
  rw [e, Int.natCast_add, <- hv, Int.natCast_mul, Int.natCast_pow, Int.pow_succ]
  show valB 2 u + o * (2 ^ i * 2) = valB 2 u + o * 2 ^ i + (2 : Int) ^ i * (bitN V i : Nat)
  have : ((bitN V i : Nat) : Int) = o := by omega
  rw [this]
  generalize (2 : Int) ^ i = W
  rw [Int.mul_comm W o, <- Int.mul_assoc]
  omega
theorem Nf.step {V M i : Nat} {o n o' : Int} {u : List Int} (h : Nf V M i o u) (hM : V < 2 ^ (M - 1)) (hi : i < M) (hb : (bitN V i : Int) + o = 1) (hn : n = ((V / 2 ^ i % 2 ^ 5 : Nat) : Int) + o) (ho' : o' = n / 16) :
  (0 <= n /\ n <= 31) /\ (0 <= o' /\ o' <= 1) /\ Nf V M (i + 5) o' (u.set i (n - o' * 32)) := by
 obtain ⟨hl, hz, hnd, ho, hf, hv⟩ := h
 obtain ⟨w, hw⟩ : ∃ w, V / 2 ^ i % 2 ^ 5 = w := ⟨_, rfl⟩
 have hw32 : w < 32 := by rw [<- hw]; exact Nat.mod_lt _ (by decide)
 have hw2 : w % 2 = bitN V i := by
  rw [<- hw]
  unfold bitN
  rw [show (2 : Nat) ^ 5 = 2 * 16 from rfl, Nat.mod_mul_right_mod]
 rw [hw] at hn
 have hodd : n % 2 = 1 := by omega
 have hn31 : 0 <= n /\ n <= 31 := by omega
 refine ⟨hn31, by omega, by rw [List.length_set]; exact hl, fun j hj => ?_, fun j => ?_, by omega, fun hM2 => ?_, ?_⟩
 ·rw [qab (by omega), if_neg (by omega)]
  exact hz j (by omega)
 ·rw [qab (by omega)]
  split
  ·right; omega
  ·exact hnd j
 ·have hb4 : w < 16 := by
   have h16 : V / 2 ^ i < 16 := by
    apply Nat.div_lt_of_lt_mul
    rw [show (16 : Nat) = 2 ^ 4 from rfl, <- Nat.pow_add]
    exact Nat.lt_of_lt_of_le hM (Nat.pow_le_pow_right (by decide) (by omega))
   rw [<- hw]
   exact Nat.lt_of_le_of_lt (Nat.mod_le _ _) h16
  omega
 ·rw [qc9 2 _ _ _ (by omega), hz i (Nat.le_refl _), Int.sub_zero]
  have e : V % 2 ^ (i + 5) = V % 2 ^ i + 2 ^ i * w := by
   rw [<- hw, Nat.pow_add, Nat.mod_mul]
  rw [e, Int.natCast_add, <- hv, Int.natCast_mul, Int.natCast_pow, Int.pow_add]
  show valB 2 u + (n - o' * 32) * 2 ^ i + o' * (2 ^ i * 32) = valB 2 u + o * 2 ^ i + (2 : Int) ^ i * w
  have e2 : (w : Int) = n - o := by omega
  rw [e2]
  generalize (2 : Int) ^ i = W
  rw [Int.sub_mul, Int.mul_comm W (n - o), Int.sub_mul, Int.mul_comm W 32, <- Int.mul_assoc]
  omega
theorem Nf.done {V M i : Nat} {o : Int} {u : List Int} (h : Nf V M i o u) (hM : V < 2 ^ (M - 1)) (hi : M <= i) : u.length = M /\ (∀ d ∈ u, Nd d) /\ valB 2 u = V := by
 have hv := h.val
 rw [h.fin hi, Int.zero_mul, Int.add_zero, Nat.mod_eq_of_lt (Nat.lt_of_lt_of_le hM (Nat.pow_le_pow_right (by decide) (by omega)))] at hv
 refine ⟨h.len, fun d hd => ?_, hv⟩
 obtain ⟨j, hj, rfl⟩ := List.mem_iff_getElem.1 hd
 have := h.nd j
 rw [List.getD_eq_getElem?_getD, List.getElem?_eq_getElem hj] at this
 exact this
theorem qtR : ∀ s : Fin 4, binL .and .i64 (s.val : Int) 1 = ((s.val % 2 : Nat) : Int) := by decide +kernel
theorem qoF {s : Int} (h0 : 0 <= s) (h : s < 4) : binL .and .i64 s 1 = s % 2 := by
 have := qtR ⟨s.toNat, by omega⟩
 simp only at this
 rw [show s = ((s.toNat : Nat) : Int) by omega, this]
 omega
end Go.Sx
end
section
namespace Go.Sx
def zsm (n : Int) (P : AP) : AP := if 0 <= n then nsm n.toNat P else pneg (nsm (-n).toNat P)
theorem qj8 (n : Nat) (P : AP) : zsm n P = nsm n P := by
 unfold zsm
 rw [if_pos (by omega), Int.toNat_natCast]
theorem qj9 {P : AP} (h : P.on) {a b : Nat} {n : Int} (e : n = (a : Int) - b) : zsm n P = padd (nsm a P) (pneg (nsm b P)) := by
 unfold zsm
 split
 ·obtain ⟨k, hk⟩ : ∃ k, n.toNat = k := ⟨_, rfl⟩
  rw [hk, show a = k + b by omega, qdZ h, qbR (qam h _) (qam h _) (qbA (qam h _)), qm6 (qam h _), qeS]
 ·obtain ⟨k, hk⟩ : ∃ k, (-n).toNat = k := ⟨_, rfl⟩
  rw [hk, show b = a + k by omega, qdZ h, qoG, <- qbR (qam h _) (qbA (qam h _)) (qbA (qam h _)), qm6 (qam h _), qgO]
theorem qhV {P : AP} (h : P.on) (n : Int) : (zsm n P).on := by
 unfold zsm
 split
 ·exact qam h _
 ·exact qbA (qam h _)
theorem qoH (n : Int) : n = ((n.toNat : Nat) : Int) - ((-n).toNat : Nat) := by omega
theorem qhW {P : AP} (h : P.on) (m n : Int) : zsm (m + n) P = padd (zsm m P) (zsm n P) := by
 rw [qj9 h (qoH m), qj9 h (qoH n), qj9 h (a := m.toNat + n.toNat) (b := (-m).toNat + (-n).toNat) (by omega), qdZ h, qdZ h, qoG,
  qhU (qam h _) (qam h _) (qbA (qam h _)) (qbA (qam h _))]
theorem qd6 {P : AP} (h : P.on) (n : Int) : zsm (2 * n) P = padd (zsm n P) (zsm n P) := by
 rw [show 2 * n = n + n by omega, qhW h]
theorem qtU {P : AP} (h : P.on) (n : Int) : padd (padd (padd (padd (zsm n P) (zsm n P)) (padd (zsm n P) (zsm n P))) (padd (padd (zsm n P) (zsm n P)) (padd (zsm n P) (zsm n P))))
  (padd (padd (padd (zsm n P) (zsm n P)) (padd (zsm n P) (zsm n P))) (padd (padd (zsm n P) (zsm n P)) (padd (zsm n P) (zsm n P)))) = zsm (16 * n) P := by
 rw [<- qd6 h, <- qd6 h, <- qd6 h, <- qd6 h]
 congr 1; omega
def qak (A B : AP) : Nat -> List AP
 | 0 => []
 | n + 1 => A :: qak (padd A B) B n
theorem qhX (A B : AP) : ∀ n, (qak A B n).length = n
 | 0 => rfl
 | n + 1 => by simp [qak, qhX _ B n]
theorem qka {B : AP} (hB : B.on) : ∀ {n i : Nat} {A : AP} (d : AP), A.on -> i < n -> (qak A B n).getD i d = padd A (nsm i B)
 | n + 1, 0, A, d, hA, _ => by
   show A = padd A pid
   rw [qeS]
 | n + 1, i + 1, A, d, hA, hi => by
   show (qak (padd A B) B n).getD i d = _
   rw [qka hB d (qaw hA hB) (by omega), qbR hA hB (qam hB _)]
   show padd A (padd B (nsm i B)) = padd A (padd (nsm i B) B)
   rw [qgN B]
def absD (d : Int) : Int := if d < 0 then -d else d
theorem qtV : ∀ d : Fin 17, binL .sub .i64 (binL .xor .i64 ((d.val : Int) - 8) (binL .shr .i64 ((d.val : Int) - 8) 63)) (binL .shr .i64 ((d.val : Int) - 8) 63) = absD ((d.val : Int) - 8) /\
 binL .and .i64 (binL .shr .i64 ((d.val : Int) - 8) 63) 1 = if (d.val : Int) - 8 < 0 then 1 else 0 := by decide +kernel
theorem qtW {d : Int} (h : -8 <= d /\ d <= 8) : binL .sub .i64 (binL .xor .i64 d (binL .shr .i64 d 63)) (binL .shr .i64 d 63) = absD d /\ binL .and .i64 (binL .shr .i64 d 63) 1 = if d < 0 then 1 else 0 := by
 have := qtV ⟨(d + 8).toNat, by omega⟩
 simp only at this
 rw [show (((d + 8).toNat : Nat) : Int) - 8 = d by omega] at this
 exact this
theorem qtX {P : AP} {d : Int} : (if (if d < 0 then (1 : Int) else 0) % 2 = 0 then nsm (absD d).toNat P else pneg (nsm (absD d).toNat P)) = zsm d P := by
 unfold zsm absD
 by_cases h : d < 0
 ·rw [if_pos h, if_pos h, if_neg (by decide), if_neg (by omega)]
 ·rw [if_neg h, if_neg h, if_pos (by decide), if_pos (by omega)]
theorem qtY {a b : Int} (ha : 0 <= a /\ a < 1000) (hb : 0 <= b /\ b < 1000) :
  binL .sub .i64 1 (IntKind.i64.wrap (binL .shr .u64 (binL .or .u64 (binL .xor .u64 (IntKind.u64.wrap a) (IntKind.u64.wrap b)) (unL .neg .u64 (binL .xor .u64 (IntKind.u64.wrap a) (IntKind.u64.wrap b)))) 63)) = if a = b then 1 else 0 := by
 rw [qgg (a := a) (by omega) (by omega), qgg (a := b) (by omega) (by omega), uxor]
 obtain ⟨m, rfl⟩ := Int.eq_ofNat_of_zero_le ha.1
 obtain ⟨n, rfl⟩ := Int.eq_ofNat_of_zero_le hb.1
 obtain ⟨x, hx⟩ : ∃ x : BitVec 64, x = BitVec.ofInt 64 (m : Int) ^^^ BitVec.ofInt 64 (n : Int) := ⟨_, rfl⟩
 rw [<- hx]
 have e0 : unL .neg .u64 ((x.toNat : Nat) : Int) = (((-x).toNat : Nat) : Int) := by
  show IntKind.u64.wrap (0 - ((x.toNat : Nat) : Int)) = _
  rw [IntKind.wrap_u64, BitVec.toNat_neg]
  have := x.isLt
  omega
 have hlt := (x ||| -x).isLt
 rw [e0, uorN x.isLt (-x).isLt, show (63 : Int) = ((63 : Nat) : Int) from rfl, ushr _ _ (by decide), <- BitVec.toNat_or]
 have hm : x = 0#64 ↔ m = n := by
  rw [hx, BitVec.ofInt_natCast, BitVec.ofInt_natCast]
  constructor
  ·intro h
   have h2 := (BitVec.xor_eq_zero_iff).1 h
   have h3 := congrArg BitVec.toNat h2
   rw [BitVec.toNat_ofNat, BitVec.toNat_ofNat] at h3
   omega
  ·rintro rfl
   exact BitVec.xor_self
 have hd : ((x ||| -x).toNat / 2 ^ 63 : Nat) = if m = n then 0 else 1 := by
  by_cases h : m = n
  ·rw [if_pos h, hm.2 h]; rfl
  ·rw [if_neg h]
   have hx0 : x ≠ 0#64 := fun e => h (hm.1 e)
   have hmsb : (x ||| -x).msb = true := by
    rw [BitVec.msb_or, BitVec.msb_neg]
    by_cases h1 : x = BitVec.intMin 64
    ·rw [h1]; decide
    ·cases hb : x.msb <;> simp [hx0, h1]
   rw [BitVec.msb_eq_decide] at hmsb
   have := of_decide_eq_true hmsb
   omega
 have e2 : (((x ||| -x).toNat : Nat) : Int) / ((2 ^ 63 : Nat) : Int) = (((x ||| -x).toNat / 2 ^ 63 : Nat) : Int) := rfl
 rw [e2, hd]
 by_cases h : m = n
 ·rw [if_pos h, if_pos (by rw [h])]; decide
 ·rw [if_neg h, if_neg (by omega)]; decide
end Go.Sx
end
section
namespace Go.Sx
structure Dbl (bs : List Int) (c0 : Int) (i : Nat) (c : Int) (u : List Int) : Prop where
 len : u.length = i
 byt : Byt u
 ov : c = 0 \/ c = 1
 fin : bs.length < i -> c = 0
 val : ((nV u : Nat) : Int) + c * 256 ^ i = 2 * ((nV (bs.take i) : Nat) : Int) + c0
theorem Dbl.start (bs : List Int) {c0 : Int} (h : c0 = 0 \/ c0 = 1) : Dbl bs c0 0 c0 [] :=
 ⟨rfl, fun a ha => (by cases ha), h, fun h => absurd h (Nat.not_lt_zero _), by
  rw [Int.pow_zero, Int.mul_one, List.take_zero, show nV [] = 0 from rfl]; omega⟩
theorem Dbl.step {bs u : List Int} {c0 c d : Int} {i : Nat} (h : Dbl bs c0 i c u) (hb : Byt bs) (hi : i <= bs.length) (hd : d = 2 * bs.getD i 0 + c) :
  (0 <= d /\ d <= 511) /\ Dbl bs c0 (i + 1) (d / 256) (u ++ [d % 256]) := by
 obtain ⟨hl, hbu, hc, hf, hv⟩ := h
 have hx := qaJ hb i
 refine ⟨by omega, by simp [hl], qfh hbu (by omega), by omega, fun h2 => ?_, ?_⟩
 ·have : bs.getD i 0 = 0 := by rw [List.getD_eq_getElem?_getD, List.getElem?_eq_none (by omega)]; rfl
  omega
 ·have h1 := qfg hbu (x := d % 256) (by omega)
  have h2 := qdd hb i
  rw [h1, h2, hl, Int.pow_succ]
  generalize (256 : Int) ^ i = W at *
  have e : d % 256 * W + d / 256 * (W * 256) = d * W := by
   rw [<- Int.mul_assoc, Int.mul_comm (d / 256) W, Int.mul_assoc, Int.mul_comm W, <- Int.add_mul]
   congr 1; omega
  rw [Int.add_assoc, e, hd, Int.add_mul, Int.mul_add, Int.mul_assoc]
  omega
theorem Dbl.done {bs u : List Int} {c0 c : Int} {i : Nat} (h : Dbl bs c0 i c u) (hi : bs.length <= i) (hc : c = 0) : ((nV u : Nat) : Int) = 2 * ((nV bs : Nat) : Int) + c0 := by
 have hv := h.val
 rw [hc, Int.zero_mul, Int.add_zero, List.take_of_length_le hi] at hv
 exact hv
theorem qub {bs : List Int} {c0 : Int} (hb : Byt bs) (h : c0 = 0 \/ c0 = 1) : ∃ z : List Int × Nat, ((nV z.1 : Nat) : Int) = 2 * ((nV bs : Nat) : Int) + c0 /\ Byt z.1 /\ z.1.length <= bs.length + 1 /\ z.1.length <= z.2 := by
 have hlt := qaO hb
 have : 2 * nV bs + c0.toNat < 256 ^ (bs.length + 1) := by rw [Nat.pow_succ]; omega
 obtain ⟨z, h1, h2⟩ := qcw this
 exact ⟨z, by omega, h2⟩
theorem quc {A B r i : Nat} (hB : 0 < B) (hr : r = A / 2 ^ (i + 1) % B) (hrB : r < B) : (B <= 2 * r + bitN A i -> 2 * r + bitN A i - B = A / 2 ^ i % B) /\ (2 * r + bitN A i < B -> 2 * r + bitN A i = A / 2 ^ i % B) := by
 have hb := half_bit A i
 have hbl := qbT A i
 have hd := Nat.div_add_mod (A / 2 ^ (i + 1)) B
 rw [<- hr] at hd
 generalize bitN A i = b at *
 generalize A / 2 ^ i = X at *
 generalize A / 2 ^ (i + 1) = Y at *
 generalize Y / B = q at *
 have e : X = (2 * r + b) + B * (2 * q) := by
  rw [hb, <- hd, Nat.mul_add, Nat.mul_left_comm]; omega
 constructor
 ·intro h
  have e2 : X = (2 * r + b - B) + B * (2 * q + 1) := by rw [e, Nat.mul_add]; omega
  rw [e2, Nat.add_mul_mod_self_left, Nat.mod_eq_of_lt (by omega)]
 ·intro h
  rw [e, Nat.add_mul_mod_self_left, Nat.mod_eq_of_lt h]
theorem qkb : T446 <= 256 ^ 56 := by decide +kernel
end Go.Sx
end
