/-
  Part of the proof of a statement: the means.
-/
import Derived.Test.YtfgejoocodofoaaGreatX10
import Derived.Test.YtfgejoocodofoaaGreatX18
import Derived.Test.YtfgejoocodofoaaGreatX16
import Derived.Test.YtfgejoocodofoaaGreatX21
import Derived.Test.YtfgejoocodofoaaGreatX4
import Derived.Test.YtfgejoocodofoaaGreatRows
set_option linter.unusedSectionVars false
set_option linter.unusedVariables false
set_option linter.unusedSimpArgs false
set_option linter.deprecated false
section
set_option maxHeartbeats 4000000
namespace Go.Sx.Tryz
open Go.Proofs
set_option maxRecDepth 40000
theorem qut : scI 2 = 2 := by decide +kernel
theorem quu : 2 < LN := by decide +kernel
theorem qoM {A B a b : Fp} (h : A * b = B * a) : a * B = b * A := by rw [Fin.mul_comm a, <- h, Fin.mul_comm]
def qj5 (Ω : Om) : qd := fun args => match args with
 | [.agg [.agg [.roi .u8 K0, .int .i64 T0], .agg [.roi .u8 K1, .int .i64 T1]], .agg [.roi .u8 L0, .roi .u8 L1]] => ⟨∀ _ : Unit, ((Byt K0 /\ K0.length < 9223372036854775808) /\ Byt K1 /\ K1.length < 9223372036854775808) /\ (Byt L0 /\ L0.length < 9223372036854775808) /\ Byt L1 /\ L1.length < 9223372036854775808, Unit, fun _ => True, fun _ => .bs (Ω.hide _ fun _ => true)⟩
 | _ => PR.none
theorem c_chicorylaw14_DecafScales : Ctr Tryz.prog T glob 8 (qj5 Om.real) := by
 refine qo T_ok qj qk (fun Ω => [(9, qhs Ω), (17, qht Ω), (34, qh5 Ω), (31, qhX Ω), (37, qhH Ω), (21, qdM Ω), (19, qeZ Ω), (38, qhI Ω), (36, qhY Ω), (32, qfq Ω), (26, qgL Ω)]) [] (fun Ω => []) [] (qb qsP (qb qsQ (qb quh (qb qtX (qb qtt (qb qjo (qb qne (qb qtu (qb qtY (qb qor (qb qrB qh))))))))))) qi qf qg Tryz.func8 (by rfl) (by kernel_rfl) Tryz.call8 ?_ ?_
 ·intro args; unfold qj5; split
  ·exact qq (by repeat' constructor) (fun _ _ => rfl) (by repeat' constructor)
  ·exact PR.good_none
 ·intro P Ω hΩ hE hI hm args pr hs hp Q hQ
  unfold qj5 at hs
  split at hs <;> subst hs <;> try (exact hp.elim)
  rename_i K0 T0 K1 T1 L0 L1
  obtain ⟨⟨⟨hK0, hl0⟩, hK1, hl1⟩, ⟨hL0, hn0⟩, hL1, hn1⟩ := hp ()
  obtain ⟨E0, hE0⟩ : ∃ E, (Ω.hide AP fun _ => padd (spP K0 T0) (spP K0 T0)) = E := ⟨_, rfl⟩
  have eE0 : E0 = padd (spP K0 T0) (spP K0 T0) := by rw [<- hE0, hΩ]; rfl
  have hP0 : E0.on := by rw [eE0]; exact qaj (qfe _ _) (qfe _ _)
  conv at hE0 => lhs; cbv
  obtain ⟨E1, hE1⟩ : ∃ E, (Ω.hide AP fun _ => padd (spP K1 T1) (spP K1 T1)) = E := ⟨_, rfl⟩
  have eE1 : E1 = padd (spP K1 T1) (spP K1 T1) := by rw [<- hE1, hΩ]; rfl
  have hP1 : E1.on := by rw [eE1]; exact qaj (qfe _ _) (qfe _ _)
  conv at hE1 => lhs; cbv
  obtain ⟨k0, hk0⟩ : ∃ k, (Ω.hide Nat fun _ => scK L0) = k := ⟨_, rfl⟩
  have ek0 : k0 = scK L0 := by rw [<- hk0, hΩ]; rfl
  have lk0 : k0 < LN := by rw [ek0]; exact qoG _
  conv at hk0 => lhs; cbv
  obtain ⟨k1, hk1⟩ : ∃ k, (Ω.hide Nat fun _ => scK L1) = k := ⟨_, rfl⟩
  have ek1 : k1 = scK L1 := by rw [<- hk1, hΩ]; rfl
  have lk1 : k1 < LN := by rw [ek1]; exact qoG _
  conv at hk1 => lhs; cbv
  have hLE : (nsm LN E0).x = 0 := by rw [eE0]; exact L_el K0 T0
  obtain ⟨J, hJ⟩ : ∃ k, (Ω.hide Nat fun _ => scI 2) = k := ⟨_, rfl⟩
  have eJ : J = 2 := by rw [<- hJ, hΩ]; exact qut
  have lJ : J < LN := by rw [eJ]; exact quu
  conv at hJ => lhs; cbv
  have q0 : decide ((nsm ((k0 + k1) % LN) E0).x * (padd (nsm k0 E0) (nsm k1 E0)).y = (nsm ((k0 + k1) % LN) E0).y * (padd (nsm k0 E0) (nsm k1 E0)).x) = true := by rw [<- qbR hP0]; exact decide_eq_true (qoM (qoL hP0 hLE _))
  have q1 : decide ((nsm ((k0 * k1) % LN) E0).x * (nsm k1 (nsm k0 E0)).y = (nsm ((k0 * k1) % LN) E0).y * (nsm k1 (nsm k0 E0)).x) = true := by rw [qfu hP0, Nat.mul_comm k1]; exact decide_eq_true (qoM (qoL hP0 hLE _))
  have q2 : decide ((nsm k0 (padd E0 E1)).x * (padd (nsm k0 E0) (nsm k0 E1)).y = (nsm k0 (padd E0 E1)).y * (padd (nsm k0 E0) (nsm k0 E1)).x) = true := by rw [qj3 hP0 hP1]; exact qj4 _
  have q3 : decide ((padd (nsm k0 E0) (nsm k1 E0)).x * (padd (nsm k0 E0) (nsm k1 E0)).y = (padd (nsm k0 E0) (nsm k1 E0)).y * (padd (nsm k0 E0) (nsm k1 E0)).x) = true := by exact qj4 _
  have q4 : decide ((nsm J E0).x * (padd E0 E0).y = (nsm J E0).y * (padd E0 E0).x) = true := by rw [eJ, show nsm 2 E0 = padd E0 E0 by rw [nsm, nsm, nsm, qeO]]; exact qj4 _
  refine ⟨1000, ?_⟩
  conv => cbv
  constructor
  ·exact fun _ _ => ⟨⟨hK0, hl0⟩, hK1, hl1⟩
  intro (z : Bool × Bool) hz
  obtain ⟨z1, z2⟩ := z
  cases z1 with
  | false =>
    cases z2 with
    | false =>
      conv => cbv
      constructor
      · exact fun _ _ => ⟨hL0, hn0⟩
      intro (m : Bool × List Int × Nat) hmq
      conv => cbv
      have hmw : m.1 = decide (L0.length <= 60) /\ (m.1 = true -> nV m.2.1 = nV L0 % LN /\ Byt m.2.1 /\ m.2.1.length <= 8057) /\ m.2.1.length <= m.2.2 := by subst hΩ; exact hmq
      clear hmq
      (try rw [hk0])
      constructor
      · exact fun _ _ => ⟨hL1, hn1⟩
      intro (n : Bool × List Int × Nat) hnq
      conv => cbv
      have hnw : n.1 = decide (L1.length <= 60) /\ (n.1 = true -> nV n.2.1 = nV L1 % LN /\ Byt n.2.1 /\ n.2.1.length <= 8057) /\ n.2.1.length <= n.2.2 := by subst hΩ; exact hnq
      clear hnq
      (try rw [hk1])
      constructor; (first | exact fun (_ : Unit) => trivial | exact fun (_ : Unit) (_ : Unit) => (by decide)); intro _ _; conv => cbv
      refine hQ () _ _ _ trivial ?_
      subst hΩ
      rfl
    | true =>
      conv => cbv
      constructor
      · exact fun _ _ => ⟨hL0, hn0⟩
      intro (m : Bool × List Int × Nat) hmq
      conv => cbv
      have hmw : m.1 = decide (L0.length <= 60) /\ (m.1 = true -> nV m.2.1 = nV L0 % LN /\ Byt m.2.1 /\ m.2.1.length <= 8057) /\ m.2.1.length <= m.2.2 := by subst hΩ; exact hmq
      clear hmq
      (try rw [hk0])
      constructor
      · exact fun _ _ => ⟨hL1, hn1⟩
      intro (n : Bool × List Int × Nat) hnq
      conv => cbv
      have hnw : n.1 = decide (L1.length <= 60) /\ (n.1 = true -> nV n.2.1 = nV L1 % LN /\ Byt n.2.1 /\ n.2.1.length <= 8057) /\ n.2.1.length <= n.2.2 := by subst hΩ; exact hnq
      clear hnq
      (try rw [hk1])
      constructor; (first | exact fun (_ : Unit) => trivial | exact fun (_ : Unit) (_ : Unit) => (by decide)); intro _ _; conv => cbv
      refine hQ () _ _ _ trivial ?_
      subst hΩ
      rfl
  | true =>
    cases z2 with
    | false =>
      conv => cbv
      constructor
      · exact fun _ _ => ⟨hL0, hn0⟩
      intro (m : Bool × List Int × Nat) hmq
      conv => cbv
      have hmw : m.1 = decide (L0.length <= 60) /\ (m.1 = true -> nV m.2.1 = nV L0 % LN /\ Byt m.2.1 /\ m.2.1.length <= 8057) /\ m.2.1.length <= m.2.2 := by subst hΩ; exact hmq
      clear hmq
      (try rw [hk0])
      constructor
      · exact fun _ _ => ⟨hL1, hn1⟩
      intro (n : Bool × List Int × Nat) hnq
      conv => cbv
      have hnw : n.1 = decide (L1.length <= 60) /\ (n.1 = true -> nV n.2.1 = nV L1 % LN /\ Byt n.2.1 /\ n.2.1.length <= 8057) /\ n.2.1.length <= n.2.2 := by subst hΩ; exact hnq
      clear hnq
      (try rw [hk1])
      constructor; (first | exact fun (_ : Unit) => trivial | exact fun (_ : Unit) (_ : Unit) => (by decide)); intro _ _; conv => cbv
      refine hQ () _ _ _ trivial ?_
      subst hΩ
      rfl
    | true =>
      conv => cbv
      rw [hE0, hE1]
      constructor
      · exact fun _ _ => ⟨hL0, hn0⟩
      intro (m : Bool × List Int × Nat) hmq
      conv => cbv
      have hmw : m.1 = decide (L0.length <= 60) /\ (m.1 = true -> nV m.2.1 = nV L0 % LN /\ Byt m.2.1 /\ m.2.1.length <= 8057) /\ m.2.1.length <= m.2.2 := by subst hΩ; exact hmq
      clear hmq
      (try rw [hk0])
      constructor
      · exact fun _ _ => ⟨hL1, hn1⟩
      intro (n : Bool × List Int × Nat) hnq
      conv => cbv
      have hnw : n.1 = decide (L1.length <= 60) /\ (n.1 = true -> nV n.2.1 = nV L1 % LN /\ Byt n.2.1 /\ n.2.1.length <= 8057) /\ n.2.1.length <= n.2.2 := by subst hΩ; exact hnq
      clear hnq
      (try rw [hk1])
      constructor
      · intro hc
        cbv
        constructor; (first | exact fun (_ : Unit) => trivial | exact fun (_ : Unit) (_ : Unit) => (by decide)); intro _ _; conv => cbv
        refine hQ () _ _ _ trivial ?_
        subst hΩ
        rfl
      · intro hc
        have mt : m.1 = true := by
          subst hΩ
          have h2 : (!m.1) = false := hc
          simpa using h2
        conv => cbv
        constructor
        · intro hc
          cbv
          constructor; (first | exact fun (_ : Unit) => trivial | exact fun (_ : Unit) (_ : Unit) => (by decide)); intro _ _; conv => cbv
          refine hQ () _ _ _ trivial ?_
          subst hΩ
          rfl
        · intro hc
          have nt : n.1 = true := by
            subst hΩ
            have h2 : (!n.1) = false := hc
            simpa using h2
          conv => cbv
          constructor
          · exact fun _ _ => ⟨lk0, hP0⟩
          intro _ _
          conv => cbv
          constructor
          · exact fun _ _ => ⟨lk1, hP0⟩
          intro _ _
          conv => cbv
          constructor
          · exact fun _ _ => ⟨lk0, lk1⟩
          intro _ _
          conv => cbv
          constructor
          · intro _ _; subst hΩ; exact ⟨Nat.mod_lt _ qaK, hP0⟩
          intro _ _
          conv => cbv
          constructor; (first | exact fun (_ : Unit) => trivial | exact fun (_ : Unit) (_ : Unit) => (by decide)); intro _ _; conv => cbv
          constructor; (first | exact fun (_ : Unit) => trivial | exact fun (_ : Unit) (_ : Unit) => (by decide)); intro _ _; conv => cbv
          constructor
          · intro h
            have h' : False := by
              subst hΩ
              have h2 : (!decide ((nsm ((k0 + k1) % LN) E0).x * (padd (nsm k0 E0) (nsm k1 E0)).y = (nsm ((k0 + k1) % LN) E0).y * (padd (nsm k0 E0) (nsm k1 E0)).x)) = true := h
              rw [q0] at h2
              exact Bool.noConfusion h2
            clear hz hmw hnw hK0 hK1 hL0 hL1 hP0 hP1 hLE eJ lJ eE0 eE1 ek0 ek1 lk0 lk1 q0 q1 q2 q3 q4
            contradiction
          intro _
          conv => cbv
          constructor
          · exact fun _ _ => ⟨lk0, lk1⟩
          intro _ _
          conv => cbv
          constructor
          · intro _ _; subst hΩ; exact ⟨Nat.mod_lt _ qaK, hP0⟩
          intro _ _
          conv => cbv
          constructor
          · intro _ _; subst hΩ; exact ⟨lk1, qad hP0 _⟩
          intro _ _
          conv => cbv
          constructor; (first | exact fun (_ : Unit) => trivial | exact fun (_ : Unit) (_ : Unit) => (by decide)); intro _ _; conv => cbv
          constructor
          · intro h
            have h' : False := by
              subst hΩ
              have h2 : (!decide ((nsm ((k0 * k1) % LN) E0).x * (nsm k1 (nsm k0 E0)).y = (nsm ((k0 * k1) % LN) E0).y * (nsm k1 (nsm k0 E0)).x)) = true := h
              rw [q1] at h2
              exact Bool.noConfusion h2
            clear hz hmw hnw hK0 hK1 hL0 hL1 hP0 hP1 hLE eJ lJ eE0 eE1 ek0 ek1 lk0 lk1 q0 q1 q2 q3 q4
            contradiction
          intro _
          conv => cbv
          constructor; (first | exact fun (_ : Unit) => trivial | exact fun (_ : Unit) (_ : Unit) => (by decide)); intro _ _; conv => cbv
          constructor
          · intro _ _; subst hΩ; exact ⟨lk0, qaj hP0 hP1⟩
          intro _ _
          conv => cbv
          constructor
          · exact fun _ _ => ⟨lk0, hP1⟩
          intro _ _
          conv => cbv
          constructor; (first | exact fun (_ : Unit) => trivial | exact fun (_ : Unit) (_ : Unit) => (by decide)); intro _ _; conv => cbv
          constructor; (first | exact fun (_ : Unit) => trivial | exact fun (_ : Unit) (_ : Unit) => (by decide)); intro _ _; conv => cbv
          constructor
          rotate_left
          · intro h
            have h' : False := by
              subst hΩ
              have h2 : (decide ((nsm k0 (padd E0 E1)).x * (padd (nsm k0 E0) (nsm k0 E1)).y = (nsm k0 (padd E0 E1)).y * (padd (nsm k0 E0) (nsm k0 E1)).x)) = false := h
              rw [q2] at h2
              exact Bool.noConfusion h2
            clear hz hmw hnw hK0 hK1 hL0 hL1 hP0 hP1 hLE eJ lJ eE0 eE1 ek0 ek1 lk0 lk1 q0 q1 q2 q3 q4
            contradiction
          intro _
          conv => cbv
          constructor
          · exact fun _ _ => ⟨⟨lk0, hP0⟩, lk1, hP0⟩
          intro _ _
          conv => cbv
          constructor; (first | exact fun (_ : Unit) => trivial | exact fun (_ : Unit) (_ : Unit) => (by decide)); intro _ _; conv => cbv
          constructor; (first | exact fun (_ : Unit) => trivial | exact fun (_ : Unit) (_ : Unit) => (by decide)); intro _ _; conv => cbv
          constructor
          rotate_left
          · intro h
            have h' : False := by
              subst hΩ
              have h2 : (decide ((padd (nsm k0 E0) (nsm k1 E0)).x * (padd (nsm k0 E0) (nsm k1 E0)).y = (padd (nsm k0 E0) (nsm k1 E0)).y * (padd (nsm k0 E0) (nsm k1 E0)).x)) = false := h
              rw [q3] at h2
              exact Bool.noConfusion h2
            clear hz hmw hnw hK0 hK1 hL0 hL1 hP0 hP1 hLE eJ lJ eE0 eE1 ek0 ek1 lk0 lk1 q0 q1 q2 q3 q4
            contradiction
          intro _
          conv => cbv
          constructor
          · exact fun _ _ => by decide
          intro _ _
          conv => cbv
          rw [hJ]
          constructor
          · exact fun _ _ => ⟨lJ, hP0⟩
          intro _ _
          conv => cbv
          constructor; (first | exact fun (_ : Unit) => trivial | exact fun (_ : Unit) (_ : Unit) => (by decide)); intro _ _; conv => cbv
          constructor; (first | exact fun (_ : Unit) => trivial | exact fun (_ : Unit) (_ : Unit) => (by decide)); intro _ _; conv => cbv
          constructor
          rotate_left
          · intro h
            have h' : False := by
              subst hΩ
              have h2 : (decide ((nsm J E0).x * (padd E0 E0).y = (nsm J E0).y * (padd E0 E0).x)) = false := h
              rw [q4] at h2
              exact Bool.noConfusion h2
            clear hz hmw hnw hK0 hK1 hL0 hL1 hP0 hP1 hLE eJ lJ eE0 eE1 ek0 ek1 lk0 lk1 q0 q1 q2 q3 q4
            contradiction
          intro _
          conv => cbv
          constructor; (first | exact fun (_ : Unit) => trivial | exact fun (_ : Unit) (_ : Unit) => (by decide)); intro _ _; conv => cbv
          refine hQ () _ _ _ trivial ?_
          subst hΩ
          rfl
end Go.Sx.Tryz
end
section

end
