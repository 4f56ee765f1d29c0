/-
  Part of the proof of a statement: the means.
-/
import Derived.Test.YtpnebmmjpapopaaGreatDoorX27
set_option linter.unusedSectionVars false
set_option linter.unusedVariables false
set_option linter.unusedSimpArgs false
set_option linter.deprecated false
section
set_option maxHeartbeats 4000000
namespace Go.Sx.Tryz
open Go.Proofs
set_option maxRecDepth 40000
theorem quE {X Y Z : AP} (h : X = padd (padd pid Y) Z) : decide (X.x * (padd Z Y).y = X.y * (padd Z Y).x) = true := qoq (by rw [h, qa1, qdz])
def qjW (Ω : Om) : qe := fun args => match args with
 | [.roi .u8 bs] => ⟨∀ _ : Unit, (∀ a ∈ bs, 0 <= a /\ a < 256) /\ bs.length < 9223372036854775808, Bool, fun b => b = true, fun b => .bs b⟩
 | _ => PR.none
theorem c_chicorylaw15_ElligatorHashes : Ctr Tryz.prog T glob 7 (qjW Om.real) := by
 refine qq T_ok qg qh (fun Ω => [(26, qfc Ω), (39, qe3 Ω), (32, qc4 Ω), (37, qfe Ω), (40, qhN Ω), (35, qeK Ω), (41, qeJ Ω)]) [] (fun Ω => []) [] (qb qos (qb qog (qb qhr (qb qow (qb quD (qb qm1 (qb qm0 qi))))))) qj qk ql Tryz.func7 (by rfl) (by kernel_rfl) Tryz.call7 ?_ ?_
 ·intro args; unfold qjW; split
  ·exact qiY ⟨trivial, trivial⟩ fun _ => ⟨_, rfl⟩
  ·exact PR.good_none
 ·intro P Ω hΩ hE hI hm args pr hs hp Q hQ
  unfold qjW at hs
  split at hs <;> subst hs <;> try (exact hp.elim)
  rename_i bs
  obtain ⟨hb, hl⟩ := hp ()
  refine ⟨1000, ?_⟩
  conv => cbv
  constructor
  ·intro hc
   cbv
   constructor
   ·exact fun (_ : Unit) => trivial
   intro w hw
   conv => cbv
   refine hQ _ _ _ _ ?_ rfl
   exact hw
  ·intro hc
   cbv
   constructor
   ·exact fun (_ : Unit) (_ : Unit) => ⟨hb, by omega⟩
   intro z hz
   cases z with
   | false =>
     have hne : ¬ bs.length = 112 := by
       intro h
       have h2 : false = decide (bs.length = 112) := hz
       rw [decide_eq_true h] at h2
       exact Bool.noConfusion h2
     conv => cbv
     constructor
     rotate_left
     · intro h
       have h' : False := by (subst hΩ; have h2 : (((bs.length : Nat) : Int) != 112) = false := h; rw [bne_eq_false_iff_eq] at h2; omega); first | done | (subst hΩ; exact Bool.noConfusion (show true = false from h))
       contradiction
     intro _
     conv => cbv
     constructor
     · exact fun (_ : Unit) => trivial
     intro w hw
     conv => cbv
     refine hQ _ _ _ _ ?_ rfl
     exact hw
   | true =>
     have h112 : bs.length = 112 := of_decide_eq_true (show true = decide (bs.length = 112) from hz).symm
     conv => cbv
     constructor
     · intro h
       have h' : False := by (subst hΩ; have h2 : (((bs.length : Nat) : Int) != 112) = true := h; rw [bne_iff_ne] at h2; omega); first | done | (subst hΩ; exact Bool.noConfusion (show false = true from h))
       contradiction
     intro _
     conv => cbv
     constructor
     · exact fun (_ : Unit) => ⟨trivial, trivial, trivial, (by decide : (0 : Nat) <= 56), (by subst hΩ; show 56 <= bs.length; omega), Nat.le_refl _⟩
     constructor
     · exact fun (_ : Unit) (_ : Unit) => ⟨by subst hΩ; exact qdK hb 0 56, by subst hΩ; show ((bs.drop 0).take 56).length < 9223372036854775808; rw [List.length_take]; omega⟩
     intro y hy
     have hy1 : y = true := by
       subst hΩ
       have h2 : y = (((bs.drop 0).take 56).length == 56) := hy
       rw [h2, List.length_take, List.length_drop, show min 56 (bs.length - 0) = 56 by omega]
       rfl
     subst hy1
     conv => cbv
     have hs2 : ∀ Ω : Om, Ω = Om.real -> (Ω.sub bs 56 (Ω.nsub (Ω.len bs) 56)) = (bs.drop 56).take 56 := fun Ω h => by
       subst h
       show (bs.drop 56).take (bs.length - 56) = _
       rw [show bs.length - 56 = 56 by omega]
     constructor
     · exact fun (_ : Unit) => ⟨trivial, trivial, trivial, (by subst hΩ; show 56 <= bs.length; omega), Nat.le_refl _, Nat.le_refl _⟩
     constructor
     · intro _ _
       have h3 := hs2 Ω hΩ
       subst hΩ
       show (∀ a ∈ Om.real.sub bs 56 (Om.real.nsub (Om.real.len bs) 56), 0 <= a /\ a < 256) /\ (Om.real.sub bs 56 (Om.real.nsub (Om.real.len bs) 56)).length < 9223372036854775808
       rw [h3, List.length_take]
       exact ⟨qdK hb 56 56, by omega⟩
     intro x hx
     have hx1 : x = true := by
       have h3 := hs2 Ω hΩ
       subst hΩ
       have h2 : x = ((Om.real.sub bs 56 (Om.real.nsub (Om.real.len bs) 56)).length == 56) := hx
       rw [h2, h3, List.length_take, List.length_drop, show min 56 (bs.length - 56) = 56 by omega]
       rfl
     subst hx1
     conv => cbv
     constructor
     · exact fun (_ : Unit) (_ : Unit) => ⟨h112, hb⟩
     intro _ _
     conv => cbv
     constructor; (first | exact fun (_ : Unit) => trivial | exact fun (_ : Unit) (_ : Unit) => (by decide)); intro _ _; conv => cbv
     constructor
     rotate_left
     · intro h
       have h' : False := by (subst hΩ; exact Bool.noConfusion ((show (qae (encF (padd (padd pid (ePt ((bs.drop 0).take 56))) (ePt ((bs.drop 56).take 56)))) == qae (encF (padd (ePt ((bs.drop 0).take 56)) (ePt ((bs.drop 56).take 56))))) = true by rw [qa1]; exact beq_self_eq_true _).symm.trans h)); first | done | (subst hΩ; exact Bool.noConfusion (show true = false from h))
       contradiction
     intro _
     conv => cbv
     constructor; (first | exact fun (_ : Unit) => trivial | exact fun (_ : Unit) (_ : Unit) => (by decide)); intro _ _; conv => cbv
     constructor; (first | exact fun (_ : Unit) => trivial | exact fun (_ : Unit) (_ : Unit) => (by decide)); intro _ _; conv => cbv
     constructor
     rotate_left
     · intro h
       have h' : False := by (have h3 := hs2 Ω hΩ; subst hΩ; exact Bool.noConfusion ((quE (X := padd (padd pid (ePt ((bs.drop 0).take 56))) (ePt ((bs.drop 56).take 56))) (Y := ePt ((bs.drop 0).take 56)) (Z := ePt (Om.real.sub bs 56 (Om.real.nsub (Om.real.len bs) 56))) (by rw [h3])).symm.trans h)); first | done | (subst hΩ; exact Bool.noConfusion (show true = false from h))
       contradiction
     intro _
     conv => cbv
     constructor
     · exact fun (_ : Unit) => trivial
     intro w hw
     conv => cbv
     refine hQ _ _ _ _ ?_ rfl
     exact hw
end Go.Sx.Tryz
end
