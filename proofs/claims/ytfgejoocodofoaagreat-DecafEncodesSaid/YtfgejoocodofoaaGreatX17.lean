/-
  Part of the proof of a statement: the means.
-/
import Derived.Test.YtfgejoocodofoaaGreatX10
import Derived.Test.YtfgejoocodofoaaGreatX18
import Derived.Test.YtfgejoocodofoaaGreatX16
import Derived.Test.YtfgejoocodofoaaGreatX6
import Derived.Test.YtfgejoocodofoaaGreatX4
import Derived.Test.YtfgejoocodofoaaGreatRows
set_option linter.unusedSectionVars false
set_option linter.unusedVariables false
set_option linter.unusedSimpArgs false
set_option linter.deprecated false
section
namespace Go.Sx.Tryz
open Go.Proofs
set_option maxRecDepth 40000
def s_chicorylaw14_DecafEncodes (Ω : Om) : PSpec := fun args => match args with
 | [.agg [.roi .u8 K, .int .i64 T]] => ⟨∀ _ : Unit, Byt K ∧ K.length < 9223372036854775808, Unit, fun _ => True, fun _ => .bs (Ω.hide _ fun _ => true)⟩
 | _ => PR.none
set_option maxHeartbeats 4000000 in
theorem c_chicorylaw14_DecafEncodes : Ctr Tryz.prog T glob 5 (s_chicorylaw14_DecafEncodes Om.real) := by
 refine ctr_ofO T_ok glob_ids mixed (fun Ω => [(9, s_chicorylaw14_awake Ω), (10, s_chicorylaw14_Made Ω), (27, s_chicorylaw11_Made Ω), (16, s_decaf_Encode Ω), (12, s_decaf_Decode Ω), (11, s_chicoryref14_Encode Ω), (15, s_chicorylaw11_Bytes Ω), (19, s_decaf_Equal Ω), (28, s_decaf_Of Ω), (29, s_chicoryref14_Even Ω), (26, s_decaf_Double Ω), (14, s_chicorylaw14_Same Ω)]) [] (fun Ω => []) [] (c_cons c_chicorylaw14_awake (c_cons c_chicorylaw14_Made (c_cons c_chicorylaw11_Made (c_cons c_decaf_Encode (c_cons c_decaf_Decode (c_cons c_chicoryref14_Encode (c_cons c_chicorylaw11_Bytes (c_cons c_decaf_Equal (c_cons c_decaf_Of (c_cons c_chicoryref14_Even (c_cons c_decaf_Double (c_cons c_chicorylaw14_Same c_nil)))))))))))) i_nil m_nil x_nil Tryz.func5 (by rfl) (by kernel_rfl) Tryz.call5 ?_ ?_
 ·intro args; unfold s_chicorylaw14_DecafEncodes; split
  ·exact good_u (by repeat' constructor) (fun _ _ => rfl) (by repeat' constructor)
  ·exact PR.good_none
 ·intro P Ω hΩ hE hI hm args pr hs hp Q hQ
  unfold s_chicorylaw14_DecafEncodes at hs
  split at hs <;> subst hs <;> try (exact hp.elim)
  rename_i K T'
  obtain ⟨hK, hl⟩ := hp ()
  obtain ⟨S0, hS0⟩ : ∃ E, (Ω.hide AP fun _ => spP K T') = E := ⟨_, rfl⟩
  have eS0 : S0 = spP K T' := by rw [← hS0, hΩ]; rfl
  have hS : S0.on := by rw [eS0]; exact spP_on _ _
  obtain ⟨E0, hE0⟩ : ∃ E, (Ω.hide AP fun _ => padd (spP K T') (spP K T')) = E := ⟨_, rfl⟩
  have eE0 : E0 = padd S0 S0 := by rw [← hE0, hΩ, eS0]; rfl
  have hE2 : E0.on := by rw [eE0]; exact padd_on hS hS
  have hEv : Ev E0 := by rw [eE0]; exact ev_twice hS
  obtain ⟨hd1, hd2, hd3⟩ := dec_enc hE2 hEv
  conv at hS0 => lhs; cbv
  conv at hE0 => lhs; cbv
  refine ⟨1000, ?_⟩
  conv => cbv
  constructor
  ·exact fun _ _ => ⟨hK, hl⟩
  intro (z : Bool) hzq
  have hz : z = decide (K.length ≤ 57 ∧ 0 ≤ T' ∧ T' ≤ 3) := hzq
  clear hzq
  cases z with
  | false =>
    conv => cbv
    constructor
    · exact fun _ _ => ⟨hK, hl⟩
    intro (y : Bool) hy
    have hy : y = false := hy.trans hz.symm
    subst hy
    conv => cbv
    constructor; (first | exact fun (_ : Unit) => trivial | exact fun (_ : Unit) (_ : Unit) => (by decide)); intro _ _; conv => cbv
    refine hQ () _ _ _ trivial ?_
    subst hΩ
    rfl
  | true =>
    conv => cbv
    constructor
    · exact fun _ _ => ⟨hK, hl⟩
    intro (y : Bool) hy
    have hy : y = true := hy.trans hz.symm
    subst hy
    conv => cbv
    rw [hE0, hS0]
    constructor
    · exact fun (_ : Unit) => trivial
    intro (b : List Int × Nat) hbq
    conv => cbv
    have hb : b.1 = fbytes (encF E0) ∧ b.1.length ≤ b.2 := by subst hΩ; exact hbq
    clear hbq
    have hsb : Ω.sub b.1 0 (Ω.len b.1) = b.1 := by
      rw [hΩ]; show (b.1.drop 0).take b.1.length = b.1
      rw [List.drop_zero, List.take_length]
    obtain ⟨D0, hD0⟩ : ∃ E, (Ω.hide AP fun _ => decPt b.1) = E := ⟨_, rfl⟩
    have eD0 : D0 = decPt (fbytes (encF E0)) := by rw [← hD0, hΩ, ← hb.1]; rfl
    rw [← hb.1] at hd1
    rw [← eD0] at hd2 hd3
    have hbb : Byt b.1 := by
      rw [hb.1, fbytes_N]; exact byt_bytesN _ _
    have hbl : b.1.length = 56 := by rw [hb.1, fbytes_len]
    conv at hsb => lhs; cbv
    conv at hD0 => lhs; cbv
    constructor
    · exact fun _ => ⟨(by subst hΩ; show 0 + b.1.length ≤ b.1.length; omega), trivial⟩
    rw [hsb]
    constructor
    · exact fun _ _ => ⟨hbb, by omega⟩
    intro (w : Bool) hwq
    have hw : w = true := by subst hΩ; exact (show w = decGood b.1 from hwq).trans hd1
    clear hwq
    subst hw
    conv => cbv
    rw [hD0]
    constructor
    · exact fun (_ : Unit) => trivial
    intro (c : List Int × Nat) hcq
    conv => cbv
    have hc : c.1 = fbytes (encF E0) ∧ c.1.length ≤ c.2 := by subst hΩ; exact hcq
    clear hcq
    have hsc : Ω.sub c.1 0 (Ω.len c.1) = c.1 := by
      rw [hΩ]; show (c.1.drop 0).take c.1.length = c.1
      rw [List.drop_zero, List.take_length]
    have hcl : c.1.length = 56 := by rw [hc.1, fbytes_len]
    conv at hsc => lhs; cbv
    constructor
    · exact fun _ => ⟨(by subst hΩ; show 0 + b.1.length ≤ b.1.length; omega), (by subst hΩ; show 0 + c.1.length ≤ c.1.length; omega), trivial⟩
    rw [hsb, hsc]
    constructor
    · exact fun _ _ => ⟨by omega, by omega⟩
    intro _ _
    conv => cbv
    constructor
    · intro h
      have h' : False := by
        subst hΩ
        have h2 : (!(b.1 == c.1)) = true := h
        rw [hb.1, hc.1] at h2
        simp at h2
      clear hz hK hl hS hE2 hEv eS0 eE0 hd1 hd2 hd3 hb hc hbb hbl hcl hsb hsc eD0 hD0
      contradiction
    intro _
    conv => cbv
    constructor; (first | exact fun (_ : Unit) => trivial | exact fun (_ : Unit) (_ : Unit) => (by decide)); intro _ _; conv => cbv
    constructor
    · intro h
      have h' : False := by
        subst hΩ
        have h2 : (!decide (D0.x * E0.y = D0.y * E0.x)) = true := h
        rw [decide_eq_true hd3] at h2
        simp at h2
      clear hz hK hl hS hE2 hEv eS0 eE0 hd1 hd2 hd3 hb hc hbb hbl hcl hsb hsc eD0 hD0
      contradiction
    intro _
    conv => cbv
    constructor
    · exact fun _ _ => hS
    intro (v : Bool) hvq
    have hv : v = decide ((nsm LN S0).x = 0) := hvq
    clear hvq
    have hev : evenB S0 = v := by rw [hv]; unfold evenB; rfl
    clear hv
    cases v with
    | true =>
      conv => cbv
      constructor
      · exact fun _ _ => hS
      intro _ _
      conv => cbv
      constructor
      · intro h
        have h' : False := by
          subst hΩ
          have h2 : (!evenB S0) = true := h
          rw [hev] at h2
          simp at h2
        clear hz hK hl hS hE2 hEv eS0 eE0 hd1 hd2 hd3 hb hc hbb hbl hcl hsb hsc eD0 hD0 hev
        contradiction
      intro _
      conv => cbv
      constructor; (first | exact fun (_ : Unit) => trivial | exact fun (_ : Unit) (_ : Unit) => (by decide)); intro _ _; conv => cbv
      constructor; (first | exact fun (_ : Unit) => trivial | exact fun (_ : Unit) (_ : Unit) => (by decide)); intro _ _; conv => cbv
      constructor
      rotate_left
      · intro h
        have h' : False := by
          subst hΩ
          have h2 : (decide ((padd S0 S0).x * E0.y = (padd S0 S0).y * E0.x)) = false := h
          rw [eE0] at h2
          have h3 := of_decide_eq_false h2
          exact h3 (Fin.mul_comm _ _)
        clear hz hK hl hS hE2 hEv eS0 eE0 hd1 hd2 hd3 hb hc hbb hbl hcl hsb hsc eD0 hD0 hev
        contradiction
      intro _
      conv => cbv
      constructor; (first | exact fun (_ : Unit) => trivial | exact fun (_ : Unit) (_ : Unit) => (by decide)); intro _ _; conv => cbv
      constructor
      rotate_left
      · intro h
        have h' : False := by
          subst hΩ
          have h2 : (fbytes (encF S0) == fbytes (encF S0)) = false := h
          simp at h2
        clear hz hK hl hS hE2 hEv eS0 eE0 hd1 hd2 hd3 hb hc hbb hbl hcl hsb hsc eD0 hD0 hev
        contradiction
      intro _
      conv => cbv
      constructor; (first | exact fun (_ : Unit) => trivial | exact fun (_ : Unit) (_ : Unit) => (by decide)); intro _ _; conv => cbv
      refine hQ () _ _ _ trivial ?_
      subst hΩ
      rfl
    | false =>
      conv => cbv
      constructor
      · exact fun _ _ => hS
      intro _ _
      conv => cbv
      constructor
      rotate_left
      · intro h
        have h' : False := by
          subst hΩ
          have h2 : (!evenB S0) = false := h
          rw [hev] at h2
          simp at h2
        clear hz hK hl hS hE2 hEv eS0 eE0 hd1 hd2 hd3 hb hc hbb hbl hcl hsb hsc eD0 hD0 hev
        contradiction
      intro _
      conv => cbv
      constructor; (first | exact fun (_ : Unit) => trivial | exact fun (_ : Unit) (_ : Unit) => (by decide)); intro _ _; conv => cbv
      refine hQ () _ _ _ trivial ?_
      subst hΩ
      rfl
end Go.Sx.Tryz
end
section

end
