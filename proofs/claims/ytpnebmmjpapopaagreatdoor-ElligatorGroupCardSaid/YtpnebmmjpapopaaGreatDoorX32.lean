/-
  Part of the proof of a statement: the means.
-/
import Derived.Test.YtpnebmmjpapopaaGreatDoorX27
import Derived.Test.YtpnebmmjpapopaaGreatDoorX19
set_option linter.unusedSectionVars false
set_option linter.unusedVariables false
set_option linter.unusedSimpArgs false
set_option linter.deprecated false
section
set_option maxHeartbeats 4000000
namespace Go.Sx.Tryz
open Go.Proofs
set_option maxRecDepth 40000
theorem quv : scI (-1) + 1 = LN := by decide +kernel
theorem lj0 (a : Fp) (b : Fp) (h : a = 0) : a * 1 = b * 0 := by rw [h]; grind -lia -linarith -order -ac (splits := 0)
theorem lj1 {E Z Y : AP} {J : Nat} (hL : (nsm LN E).x = 0) (eJ : J + 1 = LN) (hZ : Z = padd (nsm J E) E) (hY : Y = pid) : decide (Z.x * Y.y = Z.y * Y.x) = true := by
 have e : padd (nsm J E) E = nsm LN E := by rw [<- eJ, nsm]
 rw [hZ, hY, e]
 exact decide_eq_true (lj0 _ _ hL)
theorem qjL (bs : List Int) : Sq (fP (ePt bs)) := by unfold ePt; exact e_sq _
theorem qoJ (P : AP) : ∀ a ∈ qO (encF P), 0 <= a /\ a < 256 := by rw [qjf]; exact qgV _ _
def qjM (Ω : Om) : qe := fun args => match args with
 | [.roi .u8 bs] => ⟨∀ _ : Unit, (∀ a ∈ bs, 0 <= a /\ a < 256) /\ bs.length < 9223372036854775808, Bool, fun b => b = true, fun b => .bs b⟩
 | _ => PR.none
theorem c_chicorylaw15_ElligatorGroup : Ctr Tryz.prog T glob 11 (qjM Om.real) := by
 refine qo T_ok qg qh (fun Ω => [(26, qfv Ω), (39, qfs Ω), (32, qdi Ω), (44, qgN Ω), (48, qgO Ω), (49, qcd Ω), (35, qdS Ω), (41, qe1 Ω), (50, qhr Ω), (51, qhk Ω)]) [] (fun Ω => []) [] (qb qoA (qb qot (qb qhv (qb qrF (qb qrG (qb qdR (qb qi4 (qb qmW (qb qt6 (qb qtU qi)))))))))) qj qk ql Tryz.func11 (by rfl) (by kernel_rfl) Tryz.call11 ?_ ?_
 ·intro args; unfold qjM; split
  ·exact qiO ⟨trivial, trivial⟩ fun _ => ⟨_, rfl⟩
  ·exact PR.good_none
 ·intro P Ω hΩ hE hI hm args pr hs hp Q hQ
  unfold qjM at hs
  split at hs <;> subst hs <;> try (exact hp.elim)
  rename_i bs
  obtain ⟨hb, hl⟩ := hp ()
  obtain ⟨X, hX⟩ : ∃ X, (Ω.hide AP fun _ => padd (padd pid (ePt ((bs.drop 0).take 56))) (ePt ((bs.drop 56).take 56))) = X := ⟨_, rfl⟩
  have eX1 : X = padd (padd pid (ePt ((bs.drop 0).take 56))) (ePt ((bs.drop 56).take 56)) := by rw [<- hX, hΩ]; rfl
  obtain ⟨Y, hY⟩ : ∃ Y, (Ω.hide AP fun _ => ePt (Ω.sub bs 0 56)) = Y := ⟨_, rfl⟩
  have eY1 : Y = ePt ((bs.drop 0).take 56) := by rw [<- hY, hΩ]; rfl
  conv at hX => lhs; cbv
  conv at hY => lhs; cbv
  have oX : X.on := by rw [eX1, qa3]; exact qaS (qfr _) (qfr _)
  have oY : Y.on := by rw [eY1]; exact qfr _
  have sX : Sq (fP X) := by rw [eX1, qa3]; exact qn8 (qfr _) (qfr _) (qjL _) (qjL _)
  have sY : Sq (fP Y) := by rw [eY1]; exact qjL _
  have LX := qjw oX sX
  have LY := qjw oY sY
  obtain ⟨d1, d2, d3⟩ := qnQ oX (qoI oX sX)
  obtain ⟨c1, c2, c3⟩ := qnQ oY (qoI oY sY)
  obtain ⟨J, hJ⟩ : ∃ k, (Ω.hide Nat fun _ => scI (-1)) = k := ⟨_, rfl⟩
  have eJ : J + 1 = LN := by rw [<- hJ, hΩ]; exact quv
  have lJ : J < LN := by omega
  conv at hJ => lhs; cbv
  refine ⟨1000, ?_⟩
  conv => cbv
  constructor
  ·intro hc
   cbv
   constructor
   ·exact fun (_ : Unit) => trivial
   intro w hw
   conv => cbv
   refine hQ _ _ _ _ ?_ rfl
   exact hw
  ·intro hc
   have h112 : bs.length = 112 := by
    subst hΩ
    have h2 : (((bs.length : Nat) : Int) != 112) = false := hc
    rw [bne_eq_false_iff_eq] at h2
    omega
   conv => cbv
   constructor
   ·exact fun (_ : Unit) (_ : Unit) => ⟨hb, by omega⟩
   intro z hz
   conv => cbv
   have hz1 : z = true := by
    rw [show z = decide (bs.length = 112) from hz]; exact decide_eq_true h112
   subst hz1
   conv => cbv
   constructor
   ·exact fun (_ : Unit) => ⟨trivial, trivial, trivial, (by decide : (0 : Nat) <= 56), (by subst hΩ; show 56 <= bs.length; omega), Nat.le_refl _⟩
   constructor
   ·exact fun (_ : Unit) (_ : Unit) => ⟨by subst hΩ; exact qjF hb 0 56, by subst hΩ; show ((bs.drop 0).take 56).length < 9223372036854775808; rw [List.length_take]; omega⟩
   intro y hy
   conv => cbv
   have hy1 : y = true := by
    subst hΩ
    have h2 : y = (((bs.drop 0).take 56).length == 56) := hy
    rw [h2, List.length_take, List.length_drop, show min 56 (bs.length - 0) = 56 by omega]
    rfl
   subst hy1
   conv => cbv
   rw [hX]
   rw [hY]
   constructor
   ·exact fun (_ : Unit) => trivial
   intro u hu
   conv => cbv
   have hu2 : u.1 = qO (encF X) /\ u.1.length <= u.2 := hu
   have hsu : (u.1.drop 0).take u.1.length = u.1 := by rw [List.drop_zero, List.take_length]
   constructor
   ·exact fun (_ : Unit) => ⟨by subst hΩ; show 0 + u.1.length <= u.1.length; omega, trivial⟩
   constructor
   ·intro _ _
    subst hΩ
    show (∀ a ∈ (u.1.drop 0).take u.1.length, 0 <= a /\ a < 256) /\ ((u.1.drop 0).take u.1.length).length < 9223372036854775808
    rw [hsu, hu2.1, qby]
    exact ⟨qoJ _, by decide⟩
   intro yu hyu
   conv => cbv
   have hyu1 : yu = true := by
    subst hΩ
    have h2 : yu = qa4 ((u.1.drop 0).take u.1.length) := hyu
    rw [h2, hsu, hu2.1]; exact d1
   subst hyu1
   conv => cbv
   constructor
   ·exact fun (_ : Unit) => trivial
   intro v hv
   conv => cbv
   have hv2 : v.1 = qO (encF Y) /\ v.1.length <= v.2 := hv
   have hsv : (v.1.drop 0).take v.1.length = v.1 := by rw [List.drop_zero, List.take_length]
   constructor
   ·exact fun (_ : Unit) => ⟨by subst hΩ; show 0 + v.1.length <= v.1.length; omega, trivial⟩
   constructor
   ·intro _ _
    subst hΩ
    show (∀ a ∈ (v.1.drop 0).take v.1.length, 0 <= a /\ a < 256) /\ ((v.1.drop 0).take v.1.length).length < 9223372036854775808
    rw [hsv, hv2.1, qby]
    exact ⟨qoJ _, by decide⟩
   intro yv hyv
   conv => cbv
   have hyv1 : yv = true := by
    subst hΩ
    have h2 : yv = qa4 ((v.1.drop 0).take v.1.length) := hyv
    rw [h2, hsv, hv2.1]; exact c1
   subst hyv1
   conv => cbv
   constructor; (first | exact fun (_ : Unit) => trivial | exact fun (_ : Unit) (_ : Unit) => (by decide)); intro _ _; conv => cbv
   have q1 : decide ((qbO ((u.1.drop 0).take u.1.length)).x * X.y = (qbO ((u.1.drop 0).take u.1.length)).y * X.x) = true := by rw [hsu, hu2.1]; exact decide_eq_true d3
   have q2 : decide ((qbO ((v.1.drop 0).take v.1.length)).x * Y.y = (qbO ((v.1.drop 0).take v.1.length)).y * Y.x) = true := by rw [hsv, hv2.1]; exact decide_eq_true c3
   constructor; (first | exact fun (_ : Unit) => trivial | exact fun (_ : Unit) (_ : Unit) => (by decide)); intro _ _; conv => cbv
   clear d1 c1 d2 c2 d3 c3
   constructor
   rotate_left
   ·intro h
    have h' : False := by (subst hΩ; exact Bool.noConfusion (Eq.trans (Eq.symm (q1)) h))
    exact h'.elim
   intro _
   conv => cbv
   constructor; (first | exact fun (_ : Unit) => trivial | exact fun (_ : Unit) (_ : Unit) => (by decide)); intro _ _; conv => cbv
   constructor
   rotate_left
   ·intro h
    have h' : False := by (subst hΩ; exact Bool.noConfusion (Eq.trans (Eq.symm (q2)) h))
    exact h'.elim
   intro _
   conv => cbv
   constructor; (first | exact fun (_ : Unit) => trivial | exact fun (_ : Unit) (_ : Unit) => (by decide)); intro _ _; conv => cbv
   rw [hJ]
   constructor
   ·exact fun (_ : Unit) (_ : Unit) => ⟨lJ, oX⟩
   intro _ _
   conv => cbv
   constructor; (first | exact fun (_ : Unit) => trivial | exact fun (_ : Unit) (_ : Unit) => (by decide)); intro _ _; conv => cbv
   constructor; (first | exact fun (_ : Unit) => trivial | exact fun (_ : Unit) (_ : Unit) => (by decide)); intro _ _; conv => cbv
   constructor
   rotate_left
   ·intro h
    have h' : False := by (subst hΩ; exact Bool.noConfusion (Eq.trans (Eq.symm ((lj1 (E := X) LX eJ rfl rfl))) h))
    exact h'.elim
   intro _
   conv => cbv
   constructor; (first | exact fun (_ : Unit) => trivial | exact fun (_ : Unit) (_ : Unit) => (by decide)); intro _ _; conv => cbv
   rw [hJ]
   constructor
   ·exact fun (_ : Unit) (_ : Unit) => ⟨lJ, oY⟩
   intro _ _
   conv => cbv
   constructor; (first | exact fun (_ : Unit) => trivial | exact fun (_ : Unit) (_ : Unit) => (by decide)); intro _ _; conv => cbv
   constructor; (first | exact fun (_ : Unit) => trivial | exact fun (_ : Unit) (_ : Unit) => (by decide)); intro _ _; conv => cbv
   constructor
   rotate_left
   ·intro h
    have h' : False := by (subst hΩ; exact Bool.noConfusion (Eq.trans (Eq.symm ((lj1 (E := Y) LY eJ rfl rfl))) h))
    exact h'.elim
   intro _
   conv => cbv
   constructor
   ·exact fun (_ : Unit) => trivial
   intro w hw
   conv => cbv
   refine hQ _ _ _ _ ?_ rfl
   exact hw
end Go.Sx.Tryz
end
