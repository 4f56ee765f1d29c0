/-
  Part of the proof of a statement: the means.
-/
import Derived.Test.YtfgejoocodofoaaGreatX10
import Derived.Test.YtfgejoocodofoaaGreatX18
import Derived.Test.YtfgejoocodofoaaGreatX16
import Derived.Test.YtfgejoocodofoaaGreatX13
import Derived.Test.YtfgejoocodofoaaGreatX4
import Derived.Test.YtfgejoocodofoaaGreatRows
set_option linter.unusedSectionVars false
set_option linter.unusedVariables false
set_option linter.unusedSimpArgs false
set_option linter.deprecated false
section
namespace Go.Sx.Tryz
open Go.Proofs
set_option maxRecDepth 40000
theorem same_self (X : AP) : decide (X.x * X.y = X.y * X.x) = true := decide_eq_true (Fin.mul_comm _ _)
theorem scI_m1 : scI (-1) + 1 = LN := by decide +kernel
theorem lj0 (a : Fp) (b : Fp) (h : a = 0) : a * 1 = b * 0 := by rw [h]; grind -lia -linarith -order -ac (splits := 0)
theorem lj1 {E : AP} {J : Nat} (h : E.on) (hL : (nsm LN E).x = 0) (eJ : J + 1 = LN) : (padd (nsm J E) E).x * pid.y = (padd (nsm J E) E).y * pid.x := by
 have e : padd (nsm J E) E = nsm LN E := by rw [← eJ, nsm]
 rw [e]
 exact lj0 _ _ hL
theorem lj2 {E : AP} {J : Nat} (h : E.on) (hL : (nsm LN E).x = 0) (eJ : J + 1 = LN) : (nsm J E).x * (pneg E).y = (nsm J E).y * (pneg E).x := by
 have e : nsm J E = padd (pneg E) (nsm LN E) := by
  rw [← eJ, nsm, padd_comm (pneg E), padd_assoc (nsm_on h _) h (pneg_on h), padd_neg h, padd_id]
 rw [e]
 exact padd_tor hL
def s_chicorylaw14_DecafGroup (Ω : Om) : PSpec := fun args => match args with
 | [.agg [.agg [.roi .u8 K0, .int .i64 T0], .agg [.roi .u8 K1, .int .i64 T1]], .agg [.roi .u8 K2, .int .i64 T2]] => ⟨∀ _ : Unit, ((Byt K0 ∧ K0.length < 9223372036854775808) ∧ Byt K1 ∧ K1.length < 9223372036854775808) ∧ Byt K2 ∧ K2.length < 9223372036854775808, Unit, fun _ => True, fun _ => .bs (Ω.hide _ fun _ => true)⟩
 | _ => PR.none
set_option maxHeartbeats 4000000 in
theorem c_chicorylaw14_DecafGroup : Ctr Tryz.prog T glob 6 (s_chicorylaw14_DecafGroup Om.real) := by
 refine ctr_ofO T_ok glob_ids mixed (fun Ω => [(9, s_chicorylaw14_awake Ω), (17, s_chicorylaw14_pair Ω), (10, s_chicorylaw14_Made Ω), (30, s_decaf_Identity Ω), (21, s_decaf_Add Ω), (32, s_scalar_Int Ω), (31, s_decaf_Mul Ω), (19, s_decaf_Equal Ω), (33, s_decaf_Sum Ω), (23, s_decaf_Sub Ω), (25, s_decaf_Neg Ω)]) [] (fun Ω => []) [] (c_cons c_chicorylaw14_awake (c_cons c_chicorylaw14_pair (c_cons c_chicorylaw14_Made (c_cons c_decaf_Identity (c_cons c_decaf_Add (c_cons c_scalar_Int (c_cons c_decaf_Mul (c_cons c_decaf_Equal (c_cons c_decaf_Sum (c_cons c_decaf_Sub (c_cons c_decaf_Neg c_nil))))))))))) i_nil m_nil x_nil Tryz.func6 (by rfl) (by kernel_rfl) Tryz.call6 ?_ ?_
 ·intro args; unfold s_chicorylaw14_DecafGroup; split
  ·exact good_u (by repeat' constructor) (fun _ _ => rfl) (by repeat' constructor)
  ·exact PR.good_none
 ·intro P Ω hΩ hE hI hm args pr hs hp Q hQ
  unfold s_chicorylaw14_DecafGroup at hs
  split at hs <;> subst hs <;> try (exact hp.elim)
  rename_i K0 T0 K1 T1 K2 T2
  obtain ⟨⟨⟨hK0, hl0⟩, hK1, hl1⟩, hK2, hl2⟩ := hp ()
  obtain ⟨E0, hE0⟩ : ∃ E, (Ω.hide AP fun _ => padd (spP K0 T0) (spP K0 T0)) = E := ⟨_, rfl⟩
  have eE0 : E0 = padd (spP K0 T0) (spP K0 T0) := by rw [← hE0, hΩ]; rfl
  have hP0 : E0.on := by rw [eE0]; exact padd_on (spP_on _ _) (spP_on _ _)
  conv at hE0 => lhs; cbv
  obtain ⟨E1, hE1⟩ : ∃ E, (Ω.hide AP fun _ => padd (spP K1 T1) (spP K1 T1)) = E := ⟨_, rfl⟩
  have eE1 : E1 = padd (spP K1 T1) (spP K1 T1) := by rw [← hE1, hΩ]; rfl
  have hP1 : E1.on := by rw [eE1]; exact padd_on (spP_on _ _) (spP_on _ _)
  conv at hE1 => lhs; cbv
  obtain ⟨E2, hE2⟩ : ∃ E, (Ω.hide AP fun _ => padd (spP K2 T2) (spP K2 T2)) = E := ⟨_, rfl⟩
  have eE2 : E2 = padd (spP K2 T2) (spP K2 T2) := by rw [← hE2, hΩ]; rfl
  have hP2 : E2.on := by rw [eE2]; exact padd_on (spP_on _ _) (spP_on _ _)
  conv at hE2 => lhs; cbv
  have hL0 : (nsm LN E0).x = 0 := by rw [eE0]; exact L_el K0 T0
  obtain ⟨J, hJ⟩ : ∃ k, (Ω.hide Nat fun _ => scI (-1)) = k := ⟨_, rfl⟩
  have eJ : J + 1 = LN := by rw [← hJ, hΩ]; exact scI_m1
  have lJ : J < LN := by omega
  conv at hJ => lhs; cbv
  have q0 : decide ((padd (padd E0 E1) E2).x * (padd E2 (padd E1 E0)).y = (padd (padd E0 E1) E2).y * (padd E2 (padd E1 E0)).x) = true := by rw [padd_comm E2, padd_comm E1]; exact same_self _
  have q1 : decide ((padd (padd E0 E1) E2).x * (padd (padd (padd pid E0) E1) E2).y = (padd (padd E0 E1) E2).y * (padd (padd (padd pid E0) E1) E2).x) = true := by rw [id_padd]; exact same_self _
  have q2 : decide ((pid).x * (pid).y = (pid).y * (pid).x) = true := by exact same_self _
  have q3 : decide ((padd E0 (pneg E0)).x * (pid).y = (padd E0 (pneg E0)).y * (pid).x) = true := by rw [padd_neg hP0]; exact same_self _
  have q4 : decide ((padd (nsm J E0) E0).x * (pid).y = (padd (nsm J E0) E0).y * (pid).x) = true := by exact decide_eq_true (lj1 hP0 hL0 eJ)
  have q5 : decide ((nsm J E0).x * (pneg E0).y = (nsm J E0).y * (pneg E0).x) = true := by exact decide_eq_true (lj2 hP0 hL0 eJ)
  have q6 : decide ((padd (padd (padd E0 E1) E2) (pneg E2)).x * (padd E0 E1).y = (padd (padd (padd E0 E1) E2) (pneg E2)).y * (padd E0 E1).x) = true := by rw [padd_assoc (padd_on hP0 hP1) hP2 (pneg_on hP2), padd_neg hP2, padd_id]; exact same_self _
  refine ⟨1000, ?_⟩
  conv => cbv
  constructor
  ·exact fun _ _ => ⟨⟨hK0, hl0⟩, hK1, hl1⟩
  intro (z : Bool × Bool) hzq
  clear hzq
  obtain ⟨z1, z2⟩ := z
  cases z1 with
  | false =>
    cases z2 with
    | false =>
      conv => cbv
      constructor
      · exact fun _ _ => ⟨hK2, hl2⟩
      intro (y : Bool) hyq
      clear hyq
      cases y with
      | false =>
        conv => cbv
        constructor; (first | exact fun (_ : Unit) => trivial | exact fun (_ : Unit) (_ : Unit) => (by decide)); intro _ _; conv => cbv
        refine hQ () _ _ _ trivial ?_
        subst hΩ
        rfl
      | true =>
        conv => cbv
        constructor; (first | exact fun (_ : Unit) => trivial | exact fun (_ : Unit) (_ : Unit) => (by decide)); intro _ _; conv => cbv
        refine hQ () _ _ _ trivial ?_
        subst hΩ
        rfl
    | true =>
      conv => cbv
      constructor
      · exact fun _ _ => ⟨hK2, hl2⟩
      intro (y : Bool) hyq
      clear hyq
      cases y with
      | false =>
        conv => cbv
        constructor; (first | exact fun (_ : Unit) => trivial | exact fun (_ : Unit) (_ : Unit) => (by decide)); intro _ _; conv => cbv
        refine hQ () _ _ _ trivial ?_
        subst hΩ
        rfl
      | true =>
        conv => cbv
        constructor; (first | exact fun (_ : Unit) => trivial | exact fun (_ : Unit) (_ : Unit) => (by decide)); intro _ _; conv => cbv
        refine hQ () _ _ _ trivial ?_
        subst hΩ
        rfl
  | true =>
    cases z2 with
    | false =>
      conv => cbv
      constructor
      · exact fun _ _ => ⟨hK2, hl2⟩
      intro (y : Bool) hyq
      clear hyq
      cases y with
      | false =>
        conv => cbv
        constructor; (first | exact fun (_ : Unit) => trivial | exact fun (_ : Unit) (_ : Unit) => (by decide)); intro _ _; conv => cbv
        refine hQ () _ _ _ trivial ?_
        subst hΩ
        rfl
      | true =>
        conv => cbv
        constructor; (first | exact fun (_ : Unit) => trivial | exact fun (_ : Unit) (_ : Unit) => (by decide)); intro _ _; conv => cbv
        refine hQ () _ _ _ trivial ?_
        subst hΩ
        rfl
    | true =>
      conv => cbv
      rw [hE0, hE1]
      constructor
      · exact fun _ _ => ⟨hK2, hl2⟩
      intro (y : Bool) hyq
      clear hyq
      cases y with
      | false =>
        conv => cbv
        constructor; (first | exact fun (_ : Unit) => trivial | exact fun (_ : Unit) (_ : Unit) => (by decide)); intro _ _; conv => cbv
        refine hQ () _ _ _ trivial ?_
        subst hΩ
        rfl
      | true =>
        conv => cbv
        rw [hE2]
        constructor
        · exact fun (_ : Unit) => trivial
        intro _ _
        conv => cbv
        constructor; (first | exact fun (_ : Unit) => trivial | exact fun (_ : Unit) (_ : Unit) => (by decide)); intro _ _; conv => cbv
        constructor; (first | exact fun (_ : Unit) => trivial | exact fun (_ : Unit) (_ : Unit) => (by decide)); intro _ _; conv => cbv
        constructor; (first | exact fun (_ : Unit) => trivial | exact fun (_ : Unit) (_ : Unit) => (by decide)); intro _ _; conv => cbv
        constructor; (first | exact fun (_ : Unit) => trivial | exact fun (_ : Unit) (_ : Unit) => (by decide)); intro _ _; conv => cbv
        constructor
        · exact fun _ _ => by decide
        intro _ _
        conv => cbv
        rw [hJ]
        constructor
        · exact fun _ _ => ⟨lJ, hP0⟩
        intro _ _
        conv => cbv
        constructor; (first | exact fun (_ : Unit) => trivial | exact fun (_ : Unit) (_ : Unit) => (by decide)); intro _ _; conv => cbv
        constructor
        rotate_left
        · intro h
          have h' : False := by
            subst hΩ
            have h2 : (decide ((padd (padd E0 E1) E2).x * (padd E2 (padd E1 E0)).y = (padd (padd E0 E1) E2).y * (padd E2 (padd E1 E0)).x)) = false := h
            rw [q0] at h2
            exact Bool.noConfusion h2
          clear hK0 hK1 hK2 hP0 hP1 hP2 hL0 eJ eE0 eE1 eE2 q0 q1 q2 q3 q4 q5 q6
          contradiction
        intro _
        conv => cbv
        constructor
        · exact fun _ => ⟨trivial, trivial⟩
        constructor
        · exact fun _ _ => rfl
        intro _ _
        conv => cbv
        constructor; (first | exact fun (_ : Unit) => trivial | exact fun (_ : Unit) (_ : Unit) => (by decide)); intro _ _; conv => cbv
        constructor
        rotate_left
        · intro h
          have h' : False := by
            subst hΩ
            have h2 : (decide ((padd (padd E0 E1) E2).x * (padd (padd (padd pid E0) E1) E2).y = (padd (padd E0 E1) E2).y * (padd (padd (padd pid E0) E1) E2).x)) = false := h
            rw [q1] at h2
            exact Bool.noConfusion h2
          clear hK0 hK1 hK2 hP0 hP1 hP2 hL0 eJ eE0 eE1 eE2 q0 q1 q2 q3 q4 q5 q6
          contradiction
        intro _
        conv => cbv
        constructor
        · exact fun _ _ => rfl
        intro _ _
        conv => cbv
        constructor; (first | exact fun (_ : Unit) => trivial | exact fun (_ : Unit) (_ : Unit) => (by decide)); intro _ _; conv => cbv
        constructor
        rotate_left
        · intro h
          have h' : False := by
            subst hΩ
            have h2 : (decide ((pid).x * (pid).y = (pid).y * (pid).x)) = false := h
            rw [q2] at h2
            exact Bool.noConfusion h2
          clear hK0 hK1 hK2 hP0 hP1 hP2 hL0 eJ eE0 eE1 eE2 q0 q1 q2 q3 q4 q5 q6
          contradiction
        intro _
        conv => cbv
        constructor; (first | exact fun (_ : Unit) => trivial | exact fun (_ : Unit) (_ : Unit) => (by decide)); intro _ _; conv => cbv
        constructor; (first | exact fun (_ : Unit) => trivial | exact fun (_ : Unit) (_ : Unit) => (by decide)); intro _ _; conv => cbv
        constructor
        rotate_left
        · intro h
          have h' : False := by
            subst hΩ
            have h2 : (decide ((padd E0 (pneg E0)).x * (pid).y = (padd E0 (pneg E0)).y * (pid).x)) = false := h
            rw [q3] at h2
            exact Bool.noConfusion h2
          clear hK0 hK1 hK2 hP0 hP1 hP2 hL0 eJ eE0 eE1 eE2 q0 q1 q2 q3 q4 q5 q6
          contradiction
        intro _
        conv => cbv
        constructor; (first | exact fun (_ : Unit) => trivial | exact fun (_ : Unit) (_ : Unit) => (by decide)); intro _ _; conv => cbv
        constructor; (first | exact fun (_ : Unit) => trivial | exact fun (_ : Unit) (_ : Unit) => (by decide)); intro _ _; conv => cbv
        constructor
        rotate_left
        · intro h
          have h' : False := by
            subst hΩ
            have h2 : (decide ((padd (nsm J E0) E0).x * (pid).y = (padd (nsm J E0) E0).y * (pid).x)) = false := h
            rw [q4] at h2
            exact Bool.noConfusion h2
          clear hK0 hK1 hK2 hP0 hP1 hP2 hL0 eJ eE0 eE1 eE2 q0 q1 q2 q3 q4 q5 q6
          contradiction
        intro _
        conv => cbv
        constructor; (first | exact fun (_ : Unit) => trivial | exact fun (_ : Unit) (_ : Unit) => (by decide)); intro _ _; conv => cbv
        constructor; (first | exact fun (_ : Unit) => trivial | exact fun (_ : Unit) (_ : Unit) => (by decide)); intro _ _; conv => cbv
        constructor
        rotate_left
        · intro h
          have h' : False := by
            subst hΩ
            have h2 : (decide ((nsm J E0).x * (pneg E0).y = (nsm J E0).y * (pneg E0).x)) = false := h
            rw [q5] at h2
            exact Bool.noConfusion h2
          clear hK0 hK1 hK2 hP0 hP1 hP2 hL0 eJ eE0 eE1 eE2 q0 q1 q2 q3 q4 q5 q6
          contradiction
        intro _
        conv => cbv
        constructor; (first | exact fun (_ : Unit) => trivial | exact fun (_ : Unit) (_ : Unit) => (by decide)); intro _ _; conv => cbv
        constructor; (first | exact fun (_ : Unit) => trivial | exact fun (_ : Unit) (_ : Unit) => (by decide)); intro _ _; conv => cbv
        constructor; (first | exact fun (_ : Unit) => trivial | exact fun (_ : Unit) (_ : Unit) => (by decide)); intro _ _; conv => cbv
        constructor
        rotate_left
        · intro h
          have h' : False := by
            subst hΩ
            have h2 : (decide ((padd (padd (padd E0 E1) E2) (pneg E2)).x * (padd E0 E1).y = (padd (padd (padd E0 E1) E2) (pneg E2)).y * (padd E0 E1).x)) = false := h
            rw [q6] at h2
            exact Bool.noConfusion h2
          clear hK0 hK1 hK2 hP0 hP1 hP2 hL0 eJ eE0 eE1 eE2 q0 q1 q2 q3 q4 q5 q6
          contradiction
        intro _
        conv => cbv
        constructor; (first | exact fun (_ : Unit) => trivial | exact fun (_ : Unit) (_ : Unit) => (by decide)); intro _ _; conv => cbv
        refine hQ () _ _ _ trivial ?_
        subst hΩ
        rfl
end Go.Sx.Tryz
end
section

end
