/-
  Part of the proof of a statement: the means.
-/
import Derived.Test.YtfgejoocodofoaaGreatX10
import Derived.Test.YtfgejoocodofoaaGreatX18
import Derived.Test.YtfgejoocodofoaaGreatX16
import Derived.Test.YtfgejoocodofoaaGreatX4
import Derived.Test.YtfgejoocodofoaaGreatRows
set_option linter.unusedSectionVars false
set_option linter.unusedVariables false
set_option linter.unusedSimpArgs false
set_option linter.deprecated false
section
set_option maxHeartbeats 4000000
namespace Go.Sx.Tryz
open Go.Proofs
set_option maxRecDepth 40000
def qkd (Ω : Om) : qd := fun args => match args with
 | [.agg [.agg [.roi .u8 K0, .int .i64 T0], .agg [.roi .u8 K1, .int .i64 T1]], .agg [.roi .u8 L0, .roi .u8 L1]] => ⟨∀ _ : Unit, ((Byt K0 /\ K0.length < 9223372036854775808) /\ Byt K1 /\ K1.length < 9223372036854775808) /\ (Byt L0 /\ L0.length < 9223372036854775808) /\ Byt L1 /\ L1.length < 9223372036854775808, Unit, fun _ => True, fun _ => .bs (Ω.hide _ fun _ => true)⟩
 | _ => PR.none
theorem c_chicorylaw14_DecafMuls : Ctr Tryz.prog T glob 7 (qkd Om.real) := by
 refine qo T_ok qi qj (fun Ω => [(9, qhy Ω), (17, qhz Ω), (34, qid Ω), (35, qfq Ω), (31, qh5 Ω), (14, qhx Ω), (36, qh6 Ω), (22, qdf Ω)]) [] (fun Ω => []) [] (qb qs2 (qb qs3 (qb quu (qb qn6 (qb qt9 (qb qs1 (qb qua (qb qhl qg)))))))) qh qe qf Tryz.func7 (by rfl) (by kernel_rfl) Tryz.call7 ?_ ?_
 ·intro args; unfold qkd; split
  ·exact qr (by repeat' constructor) (fun _ _ => rfl) (by repeat' constructor)
  ·exact PR.good_none
 ·intro P Ω hΩ hE hI hm args pr hs hp Q hQ
  unfold qkd at hs
  split at hs <;> subst hs <;> try (exact hp.elim)
  rename_i K0 T0 K1 T1 L0 L1
  obtain ⟨⟨⟨hK0, hl0⟩, hK1, hl1⟩, ⟨hL0, hn0⟩, hL1, hn1⟩ := hp ()
  obtain ⟨E0, hE0⟩ : ∃ E, (Ω.hide AP fun _ => padd (spP K0 T0) (spP K0 T0)) = E := ⟨_, rfl⟩
  have eE0 : E0 = padd (spP K0 T0) (spP K0 T0) := by rw [<- hE0, hΩ]; rfl
  have hP0 : E0.on := by rw [eE0]; exact qaw (qfr _ _) (qfr _ _)
  conv at hE0 => lhs; cbv
  obtain ⟨E1, hE1⟩ : ∃ E, (Ω.hide AP fun _ => padd (spP K1 T1) (spP K1 T1)) = E := ⟨_, rfl⟩
  have eE1 : E1 = padd (spP K1 T1) (spP K1 T1) := by rw [<- hE1, hΩ]; rfl
  have hP1 : E1.on := by rw [eE1]; exact qaw (qfr _ _) (qfr _ _)
  conv at hE1 => lhs; cbv
  obtain ⟨k0, hk0⟩ : ∃ k, (Ω.hide Nat fun _ => scK L0) = k := ⟨_, rfl⟩
  have ek0 : k0 = scK L0 := by rw [<- hk0, hΩ]; rfl
  have lk0 : k0 < LN := by rw [ek0]; exact qoN _
  conv at hk0 => lhs; cbv
  obtain ⟨k1, hk1⟩ : ∃ k, (Ω.hide Nat fun _ => scK L1) = k := ⟨_, rfl⟩
  have ek1 : k1 = scK L1 := by rw [<- hk1, hΩ]; rfl
  have lk1 : k1 < LN := by rw [ek1]; exact qoN _
  conv at hk1 => lhs; cbv
  refine ⟨1000, ?_⟩
  conv => cbv
  constructor
  ·exact fun _ _ => ⟨⟨hK0, hl0⟩, hK1, hl1⟩
  intro (z : Bool × Bool) hz
  obtain ⟨z1, z2⟩ := z
  cases z1 with
  | false =>
    cases z2 with
    | false =>
      conv => cbv
      constructor
      · exact fun _ _ => ⟨hL0, hn0⟩
      intro (m : Bool × List Int × Nat) hmq
      conv => cbv
      have hmw : m.1 = decide (L0.length <= 60) /\ (m.1 = true -> nV m.2.1 = nV L0 % LN /\ Byt m.2.1 /\ m.2.1.length <= 8057) /\ m.2.1.length <= m.2.2 := by subst hΩ; exact hmq
      clear hmq
      (try rw [hk0])
      constructor
      · exact fun _ _ => ⟨hL1, hn1⟩
      intro (n : Bool × List Int × Nat) hnq
      conv => cbv
      have hnw : n.1 = decide (L1.length <= 60) /\ (n.1 = true -> nV n.2.1 = nV L1 % LN /\ Byt n.2.1 /\ n.2.1.length <= 8057) /\ n.2.1.length <= n.2.2 := by subst hΩ; exact hnq
      clear hnq
      (try rw [hk1])
      constructor; (first | exact fun (_ : Unit) => trivial | exact fun (_ : Unit) (_ : Unit) => (by decide)); intro _ _; conv => cbv
      refine hQ () _ _ _ trivial ?_
      subst hΩ
      rfl
    | true =>
      conv => cbv
      constructor
      · exact fun _ _ => ⟨hL0, hn0⟩
      intro (m : Bool × List Int × Nat) hmq
      conv => cbv
      have hmw : m.1 = decide (L0.length <= 60) /\ (m.1 = true -> nV m.2.1 = nV L0 % LN /\ Byt m.2.1 /\ m.2.1.length <= 8057) /\ m.2.1.length <= m.2.2 := by subst hΩ; exact hmq
      clear hmq
      (try rw [hk0])
      constructor
      · exact fun _ _ => ⟨hL1, hn1⟩
      intro (n : Bool × List Int × Nat) hnq
      conv => cbv
      have hnw : n.1 = decide (L1.length <= 60) /\ (n.1 = true -> nV n.2.1 = nV L1 % LN /\ Byt n.2.1 /\ n.2.1.length <= 8057) /\ n.2.1.length <= n.2.2 := by subst hΩ; exact hnq
      clear hnq
      (try rw [hk1])
      constructor; (first | exact fun (_ : Unit) => trivial | exact fun (_ : Unit) (_ : Unit) => (by decide)); intro _ _; conv => cbv
      refine hQ () _ _ _ trivial ?_
      subst hΩ
      rfl
  | true =>
    cases z2 with
    | false =>
      conv => cbv
      constructor
      · exact fun _ _ => ⟨hL0, hn0⟩
      intro (m : Bool × List Int × Nat) hmq
      conv => cbv
      have hmw : m.1 = decide (L0.length <= 60) /\ (m.1 = true -> nV m.2.1 = nV L0 % LN /\ Byt m.2.1 /\ m.2.1.length <= 8057) /\ m.2.1.length <= m.2.2 := by subst hΩ; exact hmq
      clear hmq
      (try rw [hk0])
      constructor
      · exact fun _ _ => ⟨hL1, hn1⟩
      intro (n : Bool × List Int × Nat) hnq
      conv => cbv
      have hnw : n.1 = decide (L1.length <= 60) /\ (n.1 = true -> nV n.2.1 = nV L1 % LN /\ Byt n.2.1 /\ n.2.1.length <= 8057) /\ n.2.1.length <= n.2.2 := by subst hΩ; exact hnq
      clear hnq
      (try rw [hk1])
      constructor; (first | exact fun (_ : Unit) => trivial | exact fun (_ : Unit) (_ : Unit) => (by decide)); intro _ _; conv => cbv
      refine hQ () _ _ _ trivial ?_
      subst hΩ
      rfl
    | true =>
      conv => cbv
      rw [hE0, hE1]
      constructor
      · exact fun _ _ => ⟨hL0, hn0⟩
      intro (m : Bool × List Int × Nat) hmq
      conv => cbv
      have hmw : m.1 = decide (L0.length <= 60) /\ (m.1 = true -> nV m.2.1 = nV L0 % LN /\ Byt m.2.1 /\ m.2.1.length <= 8057) /\ m.2.1.length <= m.2.2 := by subst hΩ; exact hmq
      clear hmq
      (try rw [hk0])
      constructor
      · exact fun _ _ => ⟨hL1, hn1⟩
      intro (n : Bool × List Int × Nat) hnq
      conv => cbv
      have hnw : n.1 = decide (L1.length <= 60) /\ (n.1 = true -> nV n.2.1 = nV L1 % LN /\ Byt n.2.1 /\ n.2.1.length <= 8057) /\ n.2.1.length <= n.2.2 := by subst hΩ; exact hnq
      clear hnq
      (try rw [hk1])
      constructor
      · intro hc
        cbv
        constructor; (first | exact fun (_ : Unit) => trivial | exact fun (_ : Unit) (_ : Unit) => (by decide)); intro _ _; conv => cbv
        refine hQ () _ _ _ trivial ?_
        subst hΩ
        rfl
      · intro hc
        have mt : m.1 = true := by
          subst hΩ
          have h2 : (!m.1) = false := hc
          simpa using h2
        conv => cbv
        constructor
        · intro hc
          cbv
          constructor; (first | exact fun (_ : Unit) => trivial | exact fun (_ : Unit) (_ : Unit) => (by decide)); intro _ _; conv => cbv
          refine hQ () _ _ _ trivial ?_
          subst hΩ
          rfl
        · intro hc
          have nt : n.1 = true := by
            subst hΩ
            have h2 : (!n.1) = false := hc
            simpa using h2
          conv => cbv
          have hsm : Ω.sub m.2.1 0 (Ω.len m.2.1) = m.2.1 := by
            rw [hΩ]; show (m.2.1.drop 0).take m.2.1.length = m.2.1
            rw [List.drop_zero, List.take_length]
          conv at hsm => lhs; cbv
          have hsn : Ω.sub n.2.1 0 (Ω.len n.2.1) = n.2.1 := by
            rw [hΩ]; show (n.2.1.drop 0).take n.2.1.length = n.2.1
            rw [List.drop_zero, List.take_length]
          conv at hsn => lhs; cbv
          obtain ⟨vm, bm, lm⟩ := hmw.2.1 mt
          obtain ⟨vn, bn, ln⟩ := hnw.2.1 nt
          constructor
          · exact fun _ => ⟨(by subst hΩ; show 0 + m.2.1.length <= m.2.1.length; omega), trivial, trivial⟩
          rw [hsm]
          constructor
          · exact fun _ _ => ⟨hP0, by omega, bm⟩
          intro _ _
          conv => cbv
          constructor
          · exact fun _ => ⟨(by subst hΩ; show 0 + n.2.1.length <= n.2.1.length; omega), trivial, trivial⟩
          rw [hsn]
          constructor
          · exact fun _ _ => ⟨hP1, by omega, bn⟩
          intro _ _
          conv => cbv
          have em0 : nV m.2.1 = k0 := by
            rw [vm, ek0]; unfold scK
            rw [if_pos (of_decide_eq_true (by rw [<- hmw.1]; exact mt))]
          have en0 : nV n.2.1 = k1 := by
            rw [vn, ek1]; unfold scK
            rw [if_pos (of_decide_eq_true (by rw [<- hnw.1]; exact nt))]
          constructor
          · exact fun _ _ => ⟨lk0, hP0⟩
          intro _ _
          conv => cbv
          constructor; (first | exact fun (_ : Unit) => trivial | exact fun (_ : Unit) (_ : Unit) => (by decide)); intro _ _; conv => cbv
          constructor
          rotate_left
          · intro h
            have h' : False := by
              subst hΩ
              have h2 : (qA (encF (nsm k0 E0)) == qA (encF (nsm (nV m.2.1) E0))) = false := h
              rw [em0] at h2
              simp at h2
            clear hP0 hP1 hK0 hK1 hL0 hL1 hmw hnw hsm hsn lk0 lk1 hz vm vn bm bn em0 en0 eE0 eE1 ek0 ek1
            contradiction
          intro _
          conv => cbv
          constructor
          · exact fun _ _ => ⟨⟨lk0, hP0⟩, lk1, hP1⟩
          intro _ _
          conv => cbv
          constructor; (first | exact fun (_ : Unit) => trivial | exact fun (_ : Unit) (_ : Unit) => (by decide)); intro _ _; conv => cbv
          constructor; (first | exact fun (_ : Unit) => trivial | exact fun (_ : Unit) (_ : Unit) => (by decide)); intro _ _; conv => cbv
          constructor
          rotate_left
          · intro h
            have h' : False := by
              subst hΩ
              have h2 : (qA (encF (padd (nsm k0 E0) (nsm k1 E1))) == qA (encF (padd (nsm (nV m.2.1) E0) (nsm (nV n.2.1) E1)))) = false := h
              rw [em0, en0] at h2
              simp at h2
            clear hP0 hP1 hK0 hK1 hL0 hL1 hmw hnw hsm hsn lk0 lk1 hz vm vn bm bn em0 en0 eE0 eE1 ek0 ek1
            contradiction
          intro _
          conv => cbv
          constructor; (first | exact fun (_ : Unit) => trivial | exact fun (_ : Unit) (_ : Unit) => (by decide)); intro _ _; conv => cbv
          refine hQ () _ _ _ trivial ?_
          subst hΩ
          rfl
end Go.Sx.Tryz
end
section

end
