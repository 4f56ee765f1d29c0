/-
  Part of the proof of a statement: the means.
-/
import Derived.Test.YtpnebmmjpapopaaGreatDoorX27
import Derived.Test.YtpnebmmjpapopaaGreatDoorX19
set_option linter.unusedSectionVars false
set_option linter.unusedVariables false
set_option linter.unusedSimpArgs false
set_option linter.deprecated false
section
set_option maxHeartbeats 4000000
namespace Go.Sx.Tryz
open Go.Proofs
set_option maxRecDepth 40000
theorem qoH (x : Fp) : ePt (qO x) = ⟨eX x, eY x⟩ := by unfold ePt; rw [qg3]
theorem qus {bs : List Int} {x : Fp} (h : x = -fI (qd bs)) : ePt (qO x) = ePt bs := by rw [qoH, h, qoF, qoG]; unfold ePt; rfl
theorem qut {bs : List Int} {x : Fp} (h : x = fI (qd bs)) : ePt (qO x) = ePt bs := by rw [qoH, h]; unfold ePt; rfl
theorem qjJ (x : Fp) : ∀ a ∈ qO x, 0 <= a /\ a < 256 := by rw [qjf]; exact qgV _ _
def qjK (Ω : Om) : qe := fun args => match args with
 | [.roi .u8 bs] => ⟨∀ _ : Unit, (∀ a ∈ bs, 0 <= a /\ a < 256) /\ bs.length < 9223372036854775808, Bool, fun b => b = true, fun b => .bs b⟩
 | _ => PR.none
theorem c_chicorylaw15_ElligatorSigns : Ctr Tryz.prog T glob 5 (qjK Om.real) := by
 refine qo T_ok qg qh (fun Ω => [(26, qfv Ω), (31, qhy Ω), (32, qdi Ω), (33, qhz Ω), (34, qhx Ω), (27, qfa Ω), (35, qdS Ω), (36, qcA Ω)]) [] (fun Ω => []) [] (qb qoA (qb quj (qb qhv (qb quk (qb qui (qb qnZ (qb qi4 (qb qeP qi)))))))) qj qk ql Tryz.func5 (by rfl) (by kernel_rfl) Tryz.call5 ?_ ?_
 ·intro args; unfold qjK; split
  ·exact qiO ⟨trivial, trivial⟩ fun _ => ⟨_, rfl⟩
  ·exact PR.good_none
 ·intro P Ω hΩ hE hI hm args pr hs hp Q hQ
  unfold qjK at hs
  split at hs <;> subst hs <;> try (exact hp.elim)
  rename_i bs
  obtain ⟨hb, hl⟩ := hp ()
  refine ⟨1000, ?_⟩
  conv => cbv
  constructor
  ·intro hc
   cbv
   constructor
   ·exact fun (_ : Unit) => trivial
   intro w hw
   conv => cbv
   refine hQ _ _ _ _ ?_ rfl
   exact hw
  ·intro hc
   have h56 : bs.length = 56 := by
    subst hΩ
    have h2 : (((bs.length : Nat) : Int) != 56) = false := hc
    rw [bne_eq_false_iff_eq] at h2
    omega
   conv => cbv
   constructor
   ·exact fun (_ : Unit) (_ : Unit) => ⟨h56, hb⟩
   intro _ _
   conv => cbv
   constructor
   ·exact fun (_ : Unit) (_ : Unit) => ⟨hb, by omega⟩
   intro z hz
   conv => cbv
   have hz1 : z = true := by
    rw [show z = (bs.length == 56) from hz, h56]; rfl
   subst hz1
   conv => cbv
   constructor; (first | exact fun (_ : Unit) => trivial | exact fun (_ : Unit) (_ : Unit) => (by decide)); intro _ _; conv => cbv
   constructor
   ·exact fun (_ : Unit) => trivial
   intro x hx
   conv => cbv
   have hx2 : x.1 = qO (-(fI (qd bs))) /\ x.1.length <= x.2 := by subst hΩ; exact hx
   have hsx : (x.1.drop 0).take x.1.length = x.1 := by rw [List.drop_zero, List.take_length]
   constructor
   ·exact fun (_ : Unit) => ⟨by subst hΩ; show 0 + x.1.length <= x.1.length; omega, trivial⟩
   constructor
   ·intro _ _
    subst hΩ
    show (∀ a ∈ (x.1.drop 0).take x.1.length, 0 <= a /\ a < 256) /\ ((x.1.drop 0).take x.1.length).length < 9223372036854775808
    rw [hsx, hx2.1, qby]
    exact ⟨qjJ _, by decide⟩
   intro y hy
   conv => cbv
   have hy1 : y = true := by
    subst hΩ
    have h2 : y = (((x.1.drop 0).take x.1.length).length == 56) := hy
    rw [h2, hsx, hx2.1, qby]; rfl
   subst hy1
   conv => cbv
   constructor
   ·exact fun (_ : Unit) => trivial
   intro v hv
   conv => cbv
   have hv2 : v.1 = qO (fI (qd bs)) /\ v.1.length <= v.2 := by subst hΩ; exact hv
   have hsv : (v.1.drop 0).take v.1.length = v.1 := by rw [List.drop_zero, List.take_length]
   constructor
   ·exact fun (_ : Unit) => ⟨by subst hΩ; show 0 + v.1.length <= v.1.length; omega, trivial⟩
   constructor
   ·intro _ _
    subst hΩ
    show (∀ a ∈ (v.1.drop 0).take v.1.length, 0 <= a /\ a < 256) /\ ((v.1.drop 0).take v.1.length).length < 9223372036854775808
    rw [hsv, hv2.1, qby]
    exact ⟨qjJ _, by decide⟩
   intro yv hyv
   conv => cbv
   have hyv1 : yv = true := by
    subst hΩ
    have h2 : yv = (((v.1.drop 0).take v.1.length).length == 56) := hyv
    rw [h2, hsv, hv2.1, qby]; rfl
   subst hyv1
   conv => cbv
   constructor
   ·exact fun (_ : Unit) (_ : Unit) => ⟨hb, by omega⟩
   intro q hq
   conv => cbv
   have hq1 : q = true := by
    rw [show q = (bs.length == 56) from hq, h56]; rfl
   subst hq1
   conv => cbv
   constructor; (first | exact fun (_ : Unit) => trivial | exact fun (_ : Unit) (_ : Unit) => (by decide)); intro _ _; conv => cbv
   constructor
   ·exact fun (_ : Unit) => trivial
   intro u hu
   conv => cbv
   have hu2 : u.1 = qO (-(fI (qd bs))) /\ u.1.length <= u.2 := by subst hΩ; exact hu
   have hsu : (u.1.drop 0).take u.1.length = u.1 := by rw [List.drop_zero, List.take_length]
   constructor
   ·exact fun (_ : Unit) => ⟨by subst hΩ; show 0 + u.1.length <= u.1.length; omega, trivial⟩
   constructor
   ·intro _ _
    subst hΩ
    show (∀ a ∈ (u.1.drop 0).take u.1.length, 0 <= a /\ a < 256) /\ ((u.1.drop 0).take u.1.length).length < 9223372036854775808
    rw [hsu, hu2.1, qby]
    exact ⟨qjJ _, by decide⟩
   intro yu hyu
   conv => cbv
   have hyu1 : yu = true := by
    subst hΩ
    have h2 : yu = (((u.1.drop 0).take u.1.length).length == 56) := hyu
    rw [h2, hsu, hu2.1, qby]; rfl
   subst hyu1
   conv => cbv
   have ex : ePt bs = ePt ((x.1.drop 0).take x.1.length) := by rw [hsx, hx2.1, qus rfl]
   have ev : ePt bs = ePt ((v.1.drop 0).take v.1.length) := by rw [hsv, hv2.1, qut rfl]
   have eu : eX (fI (qd bs)) = eX (fI (qd ((u.1.drop 0).take u.1.length))) := by rw [hsu, hu2.1, qg3, qoF]
   have eu2 : eY (fI (qd bs)) = eY (fI (qd ((u.1.drop 0).take u.1.length))) := by rw [hsu, hu2.1, qg3, qoG]
   constructor; (first | exact fun (_ : Unit) => trivial | exact fun (_ : Unit) (_ : Unit) => (by decide)); intro _ _; conv => cbv
   constructor
   rotate_left
   ·intro h
    have h' : False := by (subst hΩ; exact Bool.noConfusion ((qjI ex).symm.trans h)); first | done | (subst hΩ; exact Bool.noConfusion (show true = false from h))
    contradiction
   intro _
   conv => cbv
   constructor; (first | exact fun (_ : Unit) => trivial | exact fun (_ : Unit) (_ : Unit) => (by decide)); intro _ _; conv => cbv
   constructor
   rotate_left
   ·intro h
    have h' : False := by (subst hΩ; exact Bool.noConfusion ((qjI ev).symm.trans h)); first | done | (subst hΩ; exact Bool.noConfusion (show true = false from h))
    contradiction
   intro _
   conv => cbv
   constructor; (first | exact fun (_ : Unit) => trivial | exact fun (_ : Unit) (_ : Unit) => (by decide)); intro _ _; conv => cbv
   constructor
   rotate_left
   ·intro h
    have h' : False := by (subst hΩ; exact Bool.noConfusion ((decide_eq_true eu).symm.trans h)); first | done | (subst hΩ; exact Bool.noConfusion (show true = false from h))
    contradiction
   intro _
   conv => cbv
   constructor; (first | exact fun (_ : Unit) => trivial | exact fun (_ : Unit) (_ : Unit) => (by decide)); intro _ _; conv => cbv
   constructor
   rotate_left
   ·intro h
    have h' : False := by (subst hΩ; exact Bool.noConfusion ((decide_eq_true eu2).symm.trans h)); first | done | (subst hΩ; exact Bool.noConfusion (show true = false from h))
    contradiction
   intro _
   conv => cbv
   constructor
   ·exact fun (_ : Unit) => trivial
   intro w hw
   conv => cbv
   refine hQ _ _ _ _ ?_ rfl
   exact hw
end Go.Sx.Tryz
end
