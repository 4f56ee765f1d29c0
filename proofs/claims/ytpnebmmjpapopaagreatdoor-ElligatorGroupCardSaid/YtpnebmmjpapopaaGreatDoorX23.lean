/-
  Part of the proof of a statement: the means.
-/
import Derived.Test.YtpnebmmjpapopaaGreatDoorX8
import Derived.Laws.Bits64
import Derived.KernelRfl
set_option linter.unusedSectionVars false
set_option linter.unusedVariables false
set_option linter.unusedSimpArgs false
set_option linter.deprecated false
section
namespace Go.Sx
namespace Tryz.K
open Go.Proofs
def rotl (x k : Int) : Int :=
 binL .or .u64 (binL .shl .u64 x (binL .and .u64 (IntKind.u64.wrap k) 63)) (binL .shr .u64 x (binL .sub .u64 64 (binL .and .u64 (IntKind.u64.wrap k) 63)))
def s57 : qe := fun args => match args with
 | [.int .u64 x, .int .i64 k] => ⟨True, Int, fun z => z = rotl x k, fun z => .int .u64 z⟩
 | _ => PR.none
theorem c57 : Ctr Tryz.prog T glob 263 s57 := by
 refine qey T_ok qg qh [] [] (by simp) (by simp) Tryz.func263 (by rfl) (by kernel_rfl) Tryz.call263 ?_ ?_
 ·intro args; unfold s57; split <;> first | exact PR.good_none | exact qmq ⟨trivial, trivial, trivial⟩ fun _ => ⟨_, rfl⟩
 ·intro P Ω hΩ hE hI hm args pr hs hp Q hQ
  unfold s57 at hs
  split at hs <;> subst hs <;> try (exact hp.elim)
  rename_i x k
  refine ⟨1000, ?_⟩
  cbv
  subst hΩ
  exact ⟨fun _ => qmp _, fun _ => qmp _, hQ _ _ _ _ rfl ⟨rfl, rfl⟩⟩
def dcol (c : List Int) (x : Int) : Int := binL .xor .u64 (c.getD ((x + 4) % 5).toNat 0) (rotl (c.getD ((x + 1) % 5).toNat 0) 1)
def s56 : qe := fun args => match args with
 | [.int .i64 x, .rop (.row .u64 5 c) (.l 0)] => ⟨∀ _ : Unit, 0 <= x /\ x < 5, Int, fun z => z = dcol c x, fun z => .int .u64 z⟩
 | _ => PR.none
theorem c56 : Ctr Tryz.prog T glob 262 s56 := by
 refine qey T_ok qg qh [(263, s57)] [] (by simpa using c57) (by simp) Tryz.func262 (by rfl) (by kernel_rfl) Tryz.call262 ?_ ?_
 ·intro args; unfold s56; split <;> first | exact PR.good_none | exact qmq ⟨trivial, trivial, trivial⟩ fun _ => ⟨_, rfl⟩
 ·intro P Ω hΩ hE hI hm args pr hs hp Q hQ
  unfold s56 at hs
  split at hs <;> subst hs <;> try (exact hp.elim)
  rename_i x c
  refine ⟨1000, ?_⟩
  cbv
  obtain ⟨h0, h5⟩ := hp ()
  have r : ∀ a : Int, 0 <= a -> a <= 4 -> binL .rem .i64 (binL .add .i64 x a) 5 = (x + a) % 5 := fun a ha hb => by
   show (IntKind.i64.wrap (x + a)).tmod 5 = (x + a) % 5
   rw [IntKind.wrap_i64, Int.tmod_eq_emod_of_nonneg (by omega)]
   omega
  have r4 := r 4 (by omega) (by omega)
  have r1 := r 1 (by omega) (by omega)
  refine ⟨fun _ => ?_, fun _ => ?_, fun _ => ?_, fun _ => ?_, fun _ => trivial, fun z hz => ?_⟩
  ·subst hΩ; simp only [Om.real, r4]; exact ⟨by omega, (by omega : (x + 4) % 5 < 5)⟩
  ·subst hΩ; simp only [Om.real, r4]; omega
  ·subst hΩ; simp only [Om.real, r1]; exact ⟨by omega, (by omega : (x + 1) % 5 < 5)⟩
  ·subst hΩ; simp only [Om.real, r1]; omega
  ·cbv
   refine hQ _ _ _ _ ?_ ⟨rfl, rfl⟩
   subst hΩ
   simp only [Om.real, r1] at hz
   simp only [Om.real, r4, hz]
   rfl
end Tryz.K
end Go.Sx
end
section
namespace Go.Sx.Tryz.K
open Go.Proofs
def qdg (s : List Int) : Nat -> List Int
 | 0 => List.replicate 5 0
 | i + 1 => (qdg s i).set (i % 5) (binL .xor .u64 ((qdg s i).getD (i % 5) 0) (s.getD i 0))
def qcI (s c : List Int) : Nat -> List Int
 | 0 => s
 | i + 1 => (qcI s c i).set i (binL .xor .u64 ((qcI s c i).getD i 0) (dcol c (i % 5 : Nat)))
def mix (s : List Int) : List Int := qcI s (qdg s 25) 25
def qbm (s : List Int) : Nat -> Int × List Int
 | 0 => (s.getD 1 0, s)
 | i + 1 => ((qbm s i).2.getD (way.getD i 0).toNat 0, (qbm s i).2.set (way.getD i 0).toNat (rotl (qbm s i).1 (offsets.getD i 0)))
def move (s : List Int) : List Int := (qbm s 24).2
def qdh (row : List Int) (y : Nat) (s : List Int) : Nat -> List Int
 | 0 => s
 | n + 1 => (qdh row y s n).set (y + n) (binL .xor .u64 (row.getD n 0) (binL .and .u64 (unL .xor .u64 (row.getD ((n + 1) % 5) 0)) (row.getD ((n + 2) % 5) 0)))
def qcJ (s : List Int) : Nat -> List Int
 | 0 => s
 | q + 1 => qdh (((qcJ s q).drop (5 * q)).take 5) (5 * q) (qcJ s q) 5
def bend (s : List Int) : List Int := qcJ s 5
theorem qol (row : List Int) (y : Nat) (s : List Int) : ∀ n, (qdh row y s n).length = s.length
 | 0 => rfl
 | n + 1 => by simp only [qdh, List.length_set]; exact qol row y s n
theorem qom (s : List Int) : ∀ q, (qcJ s q).length = s.length
 | 0 => rfl
 | q + 1 => by simp only [qcJ]; rw [qol]; exact qom s q
theorem qjz (s c : List Int) : ∀ n, (qcI s c n).length = s.length
 | 0 => rfl
 | n + 1 => by simp only [qcI, List.length_set]; exact qjz s c n
theorem qjA (s : List Int) : ∀ n, (qbm s n).2.length = s.length
 | 0 => rfl
 | n + 1 => by simp only [qbm, List.length_set]; exact qjA s n
def turn (s : List Int) (i : Nat) : List Int := (bend (move (mix s))).set 0 (binL .xor .u64 ((bend (move (mix s))).getD 0 0) (constants.getD i 0))
def qch (s : List Int) : Nat -> List Int
 | 0 => s
 | i + 1 => turn (qch s i) i
def qcK (s : List Int) : List Int := qch s 24
theorem qt8 (s : List Int) (i : Nat) : (turn s i).length = s.length := by
 simp only [turn, List.length_set, bend, qom, move, qjA, mix, qjz]
theorem qjB (s : List Int) : ∀ n, (qch s n).length = s.length
 | 0 => rfl
 | n + 1 => by simp only [qch]; rw [qt8]; exact qjB s n
theorem rem5 (j : Nat) : binL .rem .i64 (Int.ofNat j) 5 = ((j % 5 : Nat) : Int) := by
 show (Int.ofNat j).tmod 5 = _
 rw [Int.ofNat_eq_natCast, Int.tmod_eq_emod_of_nonneg (Int.natCast_nonneg j)]
 omega
theorem qfn (j : Nat) (h : j < 1000000000) : binL .add .i64 (Int.ofNat j) 1 = ((j + 1 : Nat) : Int) := by
 show IntKind.i64.wrap (Int.ofNat j + 1) = _
 rw [IntKind.wrap_i64, Int.ofNat_eq_natCast]
 omega
theorem remk (j k : Nat) (h : j < 1000000000) (hk : k < 1000000000) : binL .rem .i64 (binL .add .i64 (Int.ofNat j) (Int.ofNat k)) 5 = (((j + k) % 5 : Nat) : Int) := by
 show (IntKind.i64.wrap (Int.ofNat j + Int.ofNat k)).tmod 5 = _
 rw [IntKind.wrap_i64, Int.ofNat_eq_natCast, Int.ofNat_eq_natCast, Int.tmod_eq_emod_of_nonneg (by omega)]
 omega
theorem addk (j k : Nat) (h : j < 1000000000) (hk : k < 1000000000) : binL .add .i64 (Int.ofNat j) (Int.ofNat k) = ((j + k : Nat) : Int) := by
 show IntKind.i64.wrap (Int.ofNat j + Int.ofNat k) = _
 rw [IntKind.wrap_i64, Int.ofNat_eq_natCast, Int.ofNat_eq_natCast]
 omega
theorem qfo {j n : Nat} (h : decide ((j : Int) < (n : Int)) = true) : j < n := by
 simp only [decide_eq_true_eq] at h
 omega
theorem qd0 {j n : Nat} (h : decide ((j : Int) < (n : Int)) = false) : n <= j := by
 simp only [decide_eq_false_iff_not] at h
 omega
theorem qt9 : ∀ p, p < 24 -> 0 <= way.getD p 0 /\ way.getD p 0 < 25 := by decide
def s14 : qe := fun args => match args with
 | [.row .u64 25 s] => ⟨∀ _ : Unit, s.length = 25, List Int, fun z => z = qcK s, fun z => .row .u64 25 z⟩
 | _ => PR.none
noncomputable def i14 : List (FuncId × Func) := [(256, Tryz.f256), (257, Tryz.f257), (258, Tryz.f258)]
theorem c14 : Ctr Tryz.prog T glob 231 s14 := by
 refine qey T_ok qg qh [(263, s57), (262, s56)] i14 (qb c57 (qb c56 qi)) (qM Tryz.call256 Tryz.func256 (by kernel_rfl) (qM Tryz.call257 Tryz.func257 (by kernel_rfl) (qM Tryz.call258 Tryz.func258 (by kernel_rfl) qj))) Tryz.func231 (by rfl) (by kernel_rfl) Tryz.call231 ?_ ?_
 ·intro args; unfold s14; split <;> first | exact PR.good_none | exact qqH ⟨trivial, trivial⟩ fun _ => ⟨_, rfl⟩
 ·intro P Ω hΩ hE hI hm args pr hs hp Q hQ
  unfold s14 at hs
  split at hs <;> subst hs <;> try (exact hp.elim)
  rename_i s
  refine ⟨1000, ?_⟩
  cbv
  refine qu hE hI hm (fun x : Nat × List Int => (mkT 19 [(1, .ptr 0 (.l 0)), (2, .ptr 8 (.l 0)), (4, .int .i64 x.1)], [(8, .row .u64 25 (List.replicate 25 0)), (0, .row .u64 25 x.2)])) (fun x => x.1 <= 24 /\ x.2 = qch s x.1) (fun x => 24 - x.1) 0 ⟨(0, s), [], ⟨Nat.zero_le _, rfl⟩, Nat.le_refl _, by cbv; exact ⟨rfl, trivial⟩⟩ fun ⟨i, u⟩ hi => ⟨1000, ?_⟩
  cbv
  refine ⟨fun hc => ?_, fun hc => ?_⟩
  ·cbv
   have hi24 : i < 24 := by
    subst hΩ
    have h1 : decide ((i : Int) < 24) = true := hc
    simp only [decide_eq_true_eq] at h1
    omega
   have hu : u.length = 25 := by
    have : u = qch s i := hi.2
    rw [this, qjB]; exact hp ()
   refine qu hE hI hm (fun x : Nat × List Int => (mkT 39 [(0, .ptr 0 (.l 0)), (2, .ptr 56 (.l 0)), (7, .ptr 0 (.l 0)), (8, .int .i64 x.1)], [(56, .row .u64 5 x.2), (8, .row .u64 25 (List.replicate 25 0)), (0, .row .u64 25 u)])) (fun x => x.1 <= 25 /\ x.2 = qdg u x.1) (fun x => 25 - x.1) 0 ⟨(0, List.replicate 5 0), [], ⟨Nat.zero_le _, rfl⟩, Nat.le_refl _, ?_⟩ fun ⟨j, c⟩ hj => ⟨1000, ?_⟩
   ·cbv
    exact ⟨rfl, trivial⟩
   ·cbv
    obtain ⟨hj1, hj2⟩ : j <= 25 /\ c = qdg u j := hj
    refine ⟨fun hd => ?_, fun hd => ?_⟩
    ·cbv
     have hj25 : j < 25 := by subst hΩ; exact qfo hd
     obtain ⟨c', hc'⟩ : ∃ c', c' = qdg u (j + 1) := ⟨_, rfl⟩
     refine ⟨fun _ => ?_, fun _ => ?_, fun _ => ?_, fun _ => ?_, fun _ => ?_, fun _ => ?_, (j + 1, c'), [], ⟨hj25, hc'⟩, by simp only; omega, Nat.zero_le _, ?_⟩
     ·exact ⟨Int.natCast_nonneg j, Int.ofNat_lt.2 hj25⟩
     ·subst hΩ; simp only [Om.real, Int.ofNat_eq_natCast, Int.toNat_natCast]; omega
     ·subst hΩ; simp only [Om.real, rem5]; exact ⟨Int.natCast_nonneg _, Int.ofNat_lt.2 (by show j % 5 < 5; omega)⟩
     ·subst hΩ; simp only [Om.real, rem5, Int.toNat_natCast]; omega
     ·subst hΩ; simp only [Om.real, rem5]; exact ⟨Int.natCast_nonneg _, Int.ofNat_lt.2 (by show j % 5 < 5; omega)⟩
     ·subst hΩ; simp only [Om.real, rem5, Int.toNat_natCast]; omega
     ·cbv
      subst hΩ
      refine ⟨qfn j (by omega), ?_, trivial⟩
      simp only [Om.real, rem5, Int.toNat_natCast]
      rw [hc', hj2]
      rfl
    ·cbv
     have hj25 : j = 25 := by
      have h1 : 25 <= j := by subst hΩ; exact qd0 hd
      omega
     have hcc : c = qdg u 25 := by rw [hj2, hj25]
     refine qu hE hI hm (fun x : Nat × List Int => (mkT 39 [(0, .ptr 0 (.l 0)), (2, .ptr 56 (.l 0)), (5, .fn 262 [] [.ptr 56 (.l 0)]), (23, .int .i64 x.1)], [(56, .row .u64 5 c), (8, .row .u64 25 (List.replicate 25 0)), (0, .row .u64 25 x.2)])) (fun x => x.1 <= 25 /\ x.2 = qcI u c x.1) (fun x => 25 - x.1) 0 ⟨(0, u), [], ⟨Nat.zero_le _, rfl⟩, Nat.le_refl _, ?_⟩ fun ⟨l, v⟩ hl => ⟨1000, ?_⟩
     ·cbv
      exact ⟨rfl, trivial⟩
     ·cbv
      obtain ⟨hl1, hl2⟩ : l <= 25 /\ v = qcI u c l := hl
      refine ⟨fun he => ?_, fun he => ?_⟩
      ·cbv
       have hl25 : l < 25 := by subst hΩ; exact qfo he
       obtain ⟨v', hv'⟩ : ∃ v', v' = qcI u c (l + 1) := ⟨_, rfl⟩
       refine ⟨fun _ => ?_, fun _ => ?_, fun _ _ => ?_, fun z hz => ?_⟩
       ·exact ⟨Int.natCast_nonneg l, Int.ofNat_lt.2 hl25⟩
       ·subst hΩ; simp only [Om.real, Int.ofNat_eq_natCast, Int.toNat_natCast]; omega
       ·subst hΩ; simp only [Om.real, rem5]; omega
       ·cbv
        refine ⟨fun _ => ?_, fun _ => ?_, (l + 1, v'), [], ⟨hl25, hv'⟩, by simp only; omega, Nat.zero_le _, ?_⟩
        ·exact ⟨Int.natCast_nonneg l, Int.ofNat_lt.2 hl25⟩
        ·subst hΩ; simp only [Om.real, Int.ofNat_eq_natCast, Int.toNat_natCast]; omega
        ·cbv
         subst hΩ
         refine ⟨qfn l (by omega), ?_⟩
         simp only [Om.real, rem5] at hz ⊢
         rw [hv', hz, hl2]
         rfl
      ·cbv
       have hl25 : l = 25 := by
        have h1 : 25 <= l := by subst hΩ; exact qd0 he
        omega
       have hv : v = mix u := by rw [hl2, hl25, hcc]; rfl
       obtain ⟨l0, hl0⟩ : ∃ l0, l0 = v.getD 1 0 := ⟨_, rfl⟩
       refine qu hE hI hm (fun x : Nat × Int × List Int => (mkT 29 [(0, .ptr 0 (.l 0)), (2, .int .u64 x.2.1), (9, .row .i64 24 way), (10, .int .i64 x.1)], [(8, .row .u64 25 (List.replicate 25 0)), (0, .row .u64 25 x.2.2)])) (fun x => x.1 <= 24 /\ x.2 = qbm (mix u) x.1) (fun x => 24 - x.1) 0 ⟨(0, l0, v), [], ⟨Nat.zero_le _, by rw [hl0, hv]; rfl⟩, Nat.le_refl _, ?_⟩ fun ⟨p, a, t⟩ hq => ⟨1000, ?_⟩
       ·cbv
        subst hΩ
        exact ⟨hl0.symm, rfl, trivial⟩
       ·cbv
        obtain ⟨hp1, hp2⟩ : p <= 24 /\ (a, t) = qbm (mix u) p := hq
        refine ⟨fun hf => ?_, fun hf => ?_⟩
        ·cbv
         have hp24 : p < 24 := by subst hΩ; exact qfo hf
         have hw := qt9 p hp24
         obtain ⟨r', hr'⟩ : ∃ r', r' = qbm (mix u) (p + 1) := ⟨_, rfl⟩
         obtain ⟨a', t'⟩ := r'
         refine ⟨fun _ => ?_, fun _ => ?_, fun _ => ?_, fun _ => ?_, fun _ => ?_, fun _ => trivial, fun z hz => ?_⟩
         ·exact ⟨Int.natCast_nonneg p, Int.ofNat_lt.2 hp24⟩
         ·subst hΩ; exact hw
         ·subst hΩ; show (way.getD p 0).toNat + 1 <= 25; omega
         ·exact ⟨Int.natCast_nonneg p, Int.ofNat_lt.2 hp24⟩
         ·subst hΩ; show p + 1 <= 24; omega
         ·cbv
          refine ⟨fun _ => ?_, fun _ => ?_, (p + 1, a', t'), [], ⟨hp24, hr'⟩, by simp only; omega, Nat.zero_le _, ?_⟩
          ·subst hΩ; exact hw
          ·subst hΩ; show (way.getD p 0).toNat < 25; omega
          ·cbv
           subst hΩ
           have hr2 : (a', t') = (t.getD (way.getD p 0).toNat 0, t.set (way.getD p 0).toNat (rotl a (offsets.getD p 0))) := by
            rw [hr']
            show ((qbm (mix u) p).2.getD (way.getD p 0).toNat 0, (qbm (mix u) p).2.set (way.getD p 0).toNat (rotl (qbm (mix u) p).1 (offsets.getD p 0))) = _
            rw [<- hp2]
           simp only [Prod.mk.injEq] at hr2
           refine ⟨hr2.1.symm, qfn p (by omega), ?_⟩
           rw [hr2.2, hz]
           rfl
        ·cbv
         have hp24 : p = 24 := by
          have h1 : 24 <= p := by subst hΩ; exact qd0 hf
          omega
         have ht : t = move (mix u) := by unfold move; rw [<- hp24, <- hp2]
         have htl : t.length = 25 := by rw [ht]; simp only [move, qjA, mix, qjz]; exact hu
         refine qu hE hI hm (fun x : Nat × Nat × List Int => (mkT 42 [(0, .ptr 0 (.l 0)), (2, .int .i64 x.2.1)], [(8, .row .u64 25 (List.replicate 25 0)), (0, .row .u64 25 x.2.2)])) (fun x => x.1 <= 5 /\ x.2.1 = 5 * x.1 /\ x.2.2 = qcJ t x.1) (fun x => 5 - x.1) 0 ⟨(0, 0, t), [], ⟨Nat.zero_le _, rfl, rfl⟩, Nat.le_refl _, ?_⟩ fun ⟨q, y, w⟩ hb => ⟨1000, ?_⟩
         ·cbv
          exact ⟨rfl, trivial⟩
         ·cbv
          obtain ⟨hq1, hy, hq2⟩ : q <= 5 /\ y = 5 * q /\ w = qcJ t q := hb
          refine ⟨fun hg => ?_, fun hg => ?_⟩
          ·cbv
           have hy25 : y < 25 := by subst hΩ; exact qfo hg
           have hq5 : q < 5 := by omega
           refine ⟨fun _ => ?_, fun _ => ?_, fun _ => ?_, ?_⟩
           ·subst hΩ; exact ⟨Int.natCast_nonneg y, trivial, trivial, (show y <= 25 by omega), Nat.le_refl _, Nat.le_refl _⟩
           ·subst hΩ; exact ⟨by omega, (show 5 <= 25 - y by omega)⟩
           ·subst hΩ; show y + 5 <= 25; omega
           ·obtain ⟨r, hr⟩ : ∃ r, r = (w.drop y).take 5 := ⟨_, rfl⟩
            refine qu hE hI hm (fun x : Nat × List Int => (mkT 42 [(0, .ptr 0 (.l 0)), (2, .int .i64 (Int.ofNat y)), (3, .ptr 272 (.l 0)), (16, .row .u64 5 r), (17, .int .i64 x.1)], [(272, .row .u64 5 r), (8, .row .u64 25 (List.replicate 25 0)), (0, .row .u64 25 x.2)])) (fun x => x.1 <= 5 /\ x.2 = qdh r y w x.1) (fun x => 5 - x.1) 0 ⟨(0, w), [], ⟨Nat.zero_le _, rfl⟩, Nat.le_refl _, ?_⟩ fun ⟨e, g⟩ hz => ⟨1000, ?_⟩
            ·cbv
             subst hΩ
             exact ⟨hr.symm, rfl, hr.symm, trivial⟩
            ·cbv
             obtain ⟨he1, he2⟩ : e <= 5 /\ g = qdh r y w e := hz
             refine ⟨fun hh => ?_, fun hh => ?_⟩
             ·cbv
              have he5 : e < 5 := by subst hΩ; exact qfo hh
              obtain ⟨g', hg'⟩ : ∃ g', g' = qdh r y w (e + 1) := ⟨_, rfl⟩
              have r1 := remk e 1 (by omega) (by omega)
              have r2 := remk e 2 (by omega) (by omega)
              have r3 := addk y e (by omega) (by omega)
              have b1 : (e + 1) % 5 < 5 := Nat.mod_lt _ (by omega)
              have b2 : (e + 2) % 5 < 5 := Nat.mod_lt _ (by omega)
              have e1 : Int.ofNat 1 = 1 := rfl
              have e2 : Int.ofNat 2 = 2 := rfl
              rw [e1] at r1
              rw [e2] at r2
              refine ⟨fun _ => ?_, fun _ => ?_, fun _ => ?_, fun _ => ?_, fun _ => ?_, fun _ => ?_, fun _ => ?_, (e + 1, g'), [], ⟨he5, hg'⟩, by simp only; omega, Nat.zero_le _, ?_⟩
              ·exact ⟨Int.natCast_nonneg e, Int.ofNat_lt.2 he5⟩
              ·subst hΩ; simp only [Om.real, r1]; exact ⟨Int.natCast_nonneg _, Int.ofNat_lt.2 b1⟩
              ·subst hΩ; simp only [Om.real, r1, Int.toNat_natCast]; omega
              ·subst hΩ; simp only [Om.real, r2]; exact ⟨Int.natCast_nonneg _, Int.ofNat_lt.2 b2⟩
              ·subst hΩ; simp only [Om.real, r2, Int.toNat_natCast]; omega
              ·subst hΩ; simp only [Om.real, r3]; exact ⟨Int.natCast_nonneg _, Int.ofNat_lt.2 (show y + e < 25 by omega)⟩
              ·subst hΩ; simp only [Om.real, r3, Int.toNat_natCast]; omega
              ·cbv
               subst hΩ
               refine ⟨qfn e (by omega), ?_⟩
               simp only [Om.real, r1, r2, r3, Int.toNat_natCast]
               rw [hg', he2]
               rfl
             ·cbv
              have he5 : e = 5 := by
               have h1 : 5 <= e := by subst hΩ; exact qd0 hh
               omega
              obtain ⟨w', hw'⟩ : ∃ w', w' = qcJ t (q + 1) := ⟨_, rfl⟩
              obtain ⟨y', hy'⟩ : ∃ y', y' = 5 * (q + 1) := ⟨_, rfl⟩
              refine ⟨(q + 1, y', w'), [], ⟨hq5, hy', hw'⟩, by simp only; omega, Nat.zero_le _, ?_⟩
              cbv
              subst hΩ
              refine ⟨?_, ?_⟩
              ·show binL .add .i64 (Int.ofNat y) (Int.ofNat 5) = Int.ofNat y'
               rw [addk y 5 (by omega) (by omega), hy', hy]
               rfl
              ·rw [hw', he2, he5, hr, hy, hq2]
               rfl
          ·cbv
           have hq5 : q = 5 := by
            have h1 : 25 <= y := by subst hΩ; exact qd0 hg
            omega
           have hwb : w = bend (move (mix u)) := by rw [hq2, hq5, ht]; rfl
           obtain ⟨u', hu'⟩ : ∃ u', u' = qch s (i + 1) := ⟨_, rfl⟩
           refine ⟨fun _ => ?_, fun _ => ?_, (i + 1, u'), [], ⟨hi24, hu'⟩, by simp only; omega, Nat.zero_le _, ?_⟩
           ·exact ⟨Int.natCast_nonneg i, Int.ofNat_lt.2 hi24⟩
           ·subst hΩ; show i + 1 <= 24; omega
           ·cbv
            subst hΩ
            refine ⟨qfn i (by omega), ?_⟩
            have hui : u = qch s i := hi.2
            show w.set 0 (binL .xor .u64 (w.getD 0 0) (constants.getD i 0)) = u'
            rw [hu', hwb, hui]
            rfl
  ·cbv
   refine hQ _ _ _ _ ?_ ⟨rfl, rfl, rfl⟩
   have hi25 : i = 24 := by
    have h1 : 24 <= i := by subst hΩ; exact qd0 hc
    have h2 : i <= 24 := hi.1
    omega
   have h3 : u = qch s i := hi.2
   show u = qcK s
   rw [h3, hi25]
   rfl
end Go.Sx.Tryz.K
end
section

end
section

end
section

end
section

end
section

end
section

end
section

end
section
set_option maxHeartbeats 4000000
namespace Go.Sx.Tryz.K
open Go.Proofs
def qbC (s b : List Int) : Nat -> List Int
 | 0 => s
 | i + 1 => (qbC s b i).set (i / 8) (binL .xor .u64 ((qbC s b i).getD (i / 8) 0) (binL .shl .u64 (IntKind.u64.wrap (b.getD i 0)) ((8 * (i % 8) : Nat) : Int)))
def xorF (s b : List Int) : List Int × Int := if b.length > 200 then (List.replicate 25 0, 11) else (qbC s b b.length, 0)
theorem qd1 (s b : List Int) : ∀ n, (qbC s b n).length = s.length
 | 0 => rfl
 | n + 1 => by simp only [qbC, List.length_set]; exact qd1 s b n
def s17 : qe := fun args => match args with
 | [.row .u64 25 s, .roi .u8 b] => ⟨∀ _ : Unit, s.length = 25 /\ b.length < 9223372036854775808, List Int × Int, fun z => z = xorF s b, fun z => .tup [.row .u64 25 z.1, .int .i64 z.2]⟩
 | _ => PR.none
theorem c17 : Ctr Tryz.prog T glob 255 s17 := by
 refine qey T_ok qg qh [] [] qi qj   Tryz.func255 (by rfl) (by kernel_rfl) Tryz.call255 ?_ ?_
 ·intro args; unfold s17; split
  ·exact qbf ⟨fun _ => ⟨trivial, trivial, trivial⟩, fun _ _ _ => rfl⟩ ⟨trivial, trivial, trivial⟩ fun _ => ⟨_, rfl⟩
  ·exact PR.good_none
 ·intro P Ω hΩ hE hI hm args pr hs hp Q hQ
  unfold s17 at hs
  split at hs <;> subst hs <;> try (exact hp.elim)
  rename_i s b
  obtain ⟨ls, lb⟩ := hp ()
  refine ⟨1000, ?_⟩
  cbv
  constructor
  ·intro hc
   cbv
   rw [hΩ] at hc; simp (disch := omega) only [Om.real, qc, decide_eq_true_eq, decide_eq_false_iff_not] at hc
   refine hQ (List.replicate 25 0, 11) _ _ _ ?_ ?_
   ·exact (if_pos hc).symm
   ·cbv
  ·intro hc
   cbv
   rw [hΩ] at hc; simp (disch := omega) only [Om.real, qc, decide_eq_true_eq, decide_eq_false_iff_not] at hc
   refine qu hE hI hm (fun x : Nat × List Int => (mkT 33 [(2, .ptr 0 (.l 0)), (4, .ptr 8 (.l 0)), (5, .lit .i64 0), (12, .roi .u8 b), (13, .int .i64 (Ω.ofN (Ω.len b))), (14, .int .i64 x.1)], [(8, .row .u64 25 (List.replicate 25 0)), (0, .row .u64 25 x.2)])) (fun x => x.1 <= b.length /\ x.2 = qbC s b x.1) (fun x => b.length - x.1) 0 ⟨(0, s), [], ⟨Nat.zero_le _, rfl⟩, Nat.le_refl _, by cbv; exact ⟨rfl, trivial⟩⟩ fun ⟨i, u⟩ ⟨hi, hu⟩ => ⟨1000, ?_⟩
   dsimp only at hi hu
   cbv
   constructor
   ·intro hd
    cbv
    rw [hΩ] at hd; simp (disch := omega) only [Om.real, qc, decide_eq_true_eq, decide_eq_false_iff_not] at hd
    obtain ⟨u', hu'⟩ : ∃ u', u' = qbC s b (i + 1) := ⟨_, rfl⟩
    repeat (refine ⟨by ((try intro _); (try subst hΩ); simp (disch := omega) only [Om.real, qc, SN.v]; omega), ?_⟩)
    refine ⟨(i + 1, u'), [], ⟨hd, hu'⟩, by simp only; omega, Nat.zero_le _, ?_⟩
    cbv
    subst hΩ
    simp (disch := omega) only [Om.real, qc]
    refine ⟨trivial, ?_⟩
    rw [hu', hu]
    rfl
   ·intro hd
    cbv
    rw [hΩ] at hd; simp (disch := omega) only [Om.real, qc, decide_eq_true_eq, decide_eq_false_iff_not] at hd
    refine hQ (u, 0) _ _ _ ?_ ?_
    ·have : i = b.length := by omega
     rw [hu, this]
     exact (if_neg hc).symm
    ·cbv
end Go.Sx.Tryz.K
end
section
set_option maxHeartbeats 4000000
namespace Go.Sx.Tryz.K
open Go.Proofs
def lbUp (l : Int) : Nat -> List Int
 | 0 => []
 | k + 1 => lbUp l k ++ [IntKind.u8.wrap (binL .shr .u64 l ((8 * k : Nat) : Int))]
theorem qjC (l : Int) : ∀ n, (lbUp l n).length = n
 | 0 => rfl
 | n + 1 => by simp [lbUp, qjC l n]
def qa5 (s : List Int) : Nat -> List Int
 | 0 => []
 | i + 1 => qa5 s i ++ lbUp (s.getD i 0) 8
theorem qcL (s : List Int) : ∀ n, (qa5 s n).length = 8 * n
 | 0 => rfl
 | n + 1 => by simp [qa5, qcL s n, qjC]; omega
def s20 : qe := fun args => match args with
 | [.row .u64 25 s] => ⟨∀ _ : Unit, s.length = 25, List Int × Nat, fun z => z.1 = qa5 s 25 /\ 200 <= z.2, fun z => .fr .u8 z.1 z.2⟩
 | _ => PR.none
theorem c20 : Ctr Tryz.prog T glob 232 s20 := by
 refine qey T_ok qg qh [] [] qi qj   Tryz.func232 (by rfl) (by kernel_rfl) Tryz.call232 ?_ ?_
 ·intro args; unfold s20; split
  ·exact qa7 ⟨trivial, trivial⟩ fun _ => ⟨(_, 200), rfl, Nat.le_refl _⟩
  ·exact PR.good_none
 ·intro P Ω hΩ hE hI hm args pr hs hp Q hQ
  unfold s20 at hs
  split at hs <;> subst hs <;> try (exact hp.elim)
  rename_i s
  have ls := hp ()
  refine ⟨1000, ?_⟩
  cbv
  refine qu hE hI hm (fun x : Nat × Nat × Nat × List Int => (mkT 25 [(3, .sl 40 1 (.l 0) (.s x.2.1) (.s x.2.2.1)), (7, .row .u64 25 s), (8, .int .i64 x.1)], [(40, .seq .u8 x.2.2.2)])) (fun x => x.1 <= 25 /\ x.2.1 = 8 * x.1 /\ x.2.2.2 = qa5 s x.1 /\ x.2.1 <= x.2.2.1) (fun x => 25 - x.1) 1 ⟨(0, 0, 0, []), [none], ⟨Nat.zero_le _, rfl, rfl, Nat.le_refl _⟩, by decide, ?_⟩ fun ⟨i, len, cap, out⟩ ⟨hi, hl, ho, hc⟩ => ⟨1000, ?_⟩
  ·cbv
  dsimp only at hi hl ho hc
  cbv
  constructor
  ·intro hd
   cbv
   rw [hΩ] at hd; simp (disch := omega) only [Om.real, qc, decide_eq_true_eq, decide_eq_false_iff_not] at hd
   repeat (refine ⟨by ((try intro _); (try subst hΩ); simp (disch := omega) only [Om.real, qc, SN.v]; omega), ?_⟩)
   obtain ⟨l, hll⟩ : ∃ l, l = s.getD i 0 := ⟨_, rfl⟩
   refine qu hE hI hm (fun x : Nat × Nat × Nat × List Int => (mkT 25 [(3, .sl 80 1 (.l 0) (.s x.2.1) (.s x.2.2.1)), (5, .int .u64 l), (7, .row .u64 25 s), (8, .int .i64 i), (11, .int .i64 x.1)], [(80, .seq .u8 x.2.2.2)])) (fun x => x.1 <= 8 /\ x.2.1 = 8 * i + x.1 /\ x.2.2.2 = qa5 s i ++ lbUp l x.1 /\ x.2.1 <= x.2.2.1) (fun x => 8 - x.1) 1 ⟨(0, len, cap, out), [some 40], ⟨Nat.zero_le _, hl, by rw [ho]; exact (List.append_nil _).symm, hc⟩, by decide, ?_⟩ fun ⟨k, len', cap', out'⟩ ⟨hk, hl', ho', hc'⟩ => ⟨1000, ?_⟩
   ·cbv
    subst hΩ
    simp (disch := omega) only [Om.real, qc]
    exact ⟨hll.symm, rfl, trivial⟩
   dsimp only at hk hl' ho' hc'
   have hol : out'.length = len' := by rw [ho', List.length_append, qcL, qjC, hl']
   cbv
   constructor
   ·intro he
    cbv
    rw [hΩ] at he; simp (disch := omega) only [Om.real, qc, decide_eq_true_eq, decide_eq_false_iff_not] at he
    repeat (refine ⟨by ((try intro _); (try subst hΩ); simp (disch := omega) only [Om.real, qc, SN.v]; omega), ?_⟩)
    refine ⟨(fun _ => ⟨(show 0 + len' * 1 <= out'.length by omega), (show 0 + 1 * 1 <= 1 by omega)⟩), fun cap2 hcap2 => ?_⟩; simp only [SN.v] at hcap2
    obtain ⟨o2, ho2⟩ : ∃ o2, o2 = qa5 s i ++ lbUp l (k + 1) := ⟨_, rfl⟩
    obtain ⟨l2, hl2⟩ : ∃ l2, l2 = len' + 1 := ⟨_, rfl⟩
    cbv
    refine ⟨(k + 1, l2, cap2, o2), [some 168], ⟨by dsimp only; omega, by dsimp only; omega, ho2, by dsimp only; omega⟩, by dsimp only; omega, by simp, ?_⟩
    cbv
    subst hΩ
    simp (disch := omega) only [Om.real, qc]
    refine ⟨hl2.symm, trivial, ?_⟩
    rw [ho2, lbUp, <- List.append_assoc, <- ho', List.drop_zero, List.take_of_length_le (by omega)]
   ·intro he
    cbv
    rw [hΩ] at he; simp (disch := omega) only [Om.real, qc, decide_eq_true_eq, decide_eq_false_iff_not] at he
    have hk8 : k = 8 := by omega
    refine ⟨(i + 1, len', cap', out'), [some 80], ⟨by dsimp only; omega, by dsimp only; omega, by dsimp only; rw [ho', hk8, hll]; rfl, by dsimp only; omega⟩, by dsimp only; omega, by simp, ?_⟩
    cbv
    subst hΩ
    simp (disch := omega) only [Om.real, qc]
    exact ⟨trivial, trivial⟩
  ·intro hd
   cbv
   rw [hΩ] at hd; simp (disch := omega) only [Om.real, qc, decide_eq_true_eq, decide_eq_false_iff_not] at hd
   have hi25 : i = 25 := by omega
   subst hi25
   have hol : out.length = len := by rw [ho, qcL, hl]
   refine hQ (out, cap) _ _ _ ⟨ho, by dsimp only; omega⟩ ?_
   refine ⟨rfl, rfl, ?_, ?_⟩
   ·show 0 + len <= out.length
    omega
   ·subst hΩ
    show out = (out.drop 0).take len
    rw [List.drop_zero, List.take_of_length_le (by omega)]
end Go.Sx.Tryz.K
end
section

end
section

end
section

end
section

end
section

end
section

end
section

end
section

end
