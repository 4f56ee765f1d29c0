/-
  Part of the proof of a statement: the means.
-/
import Derived.Test.YtfgejoocodofoaaGreatX10
import Derived.Test.YtfgejoocodofoaaGreatX4
import Derived.Test.YtfgejoocodofoaaGreatRows
set_option linter.unusedSectionVars false
set_option linter.unusedVariables false
set_option linter.unusedSimpArgs false
set_option linter.deprecated false
section
namespace Go.Sx.Tryz
open Go.Proofs
set_option maxRecDepth 40000
def s_chicorylaw14_DecafDecodes (Ω : Om) : PSpec := fun args => match args with
  | [.roi .u8 bs, .agg [.roi .u8 K, .int .i64 T], .row .i64 2 tw] => ⟨∀ _ : Unit, (Byt bs ∧ bs.length < 9223372036854775808) ∧ (Byt K ∧ K.length < 9223372036854775808) ∧ tw.length = 2, Unit, fun _ => True, fun _ => .bs (Ω.hide _ fun _ => true)⟩
  | _ => PR.none
set_option maxHeartbeats 4000000 in
theorem c_chicorylaw14_DecafDecodes : Ctr Tryz.prog T glob 3 (s_chicorylaw14_DecafDecodes Om.real) := by
  refine ctr_ofO T_ok glob_ids mixed (fun Ω => [(9, s_chicorylaw14_awake Ω), (10, s_chicorylaw14_Made Ω), (11, s_chicoryref14_Encode Ω), (12, s_decaf_Decode Ω), (13, s_chicoryref14_Decode Ω), (14, s_chicorylaw14_Same Ω), (16, s_decaf_Encode Ω), (15, s_chicorylaw11_Bytes Ω)]) [] (fun Ω => []) [] (c_cons c_chicorylaw14_awake (c_cons c_chicorylaw14_Made (c_cons c_chicoryref14_Encode (c_cons c_decaf_Decode (c_cons c_chicoryref14_Decode (c_cons c_chicorylaw14_Same (c_cons c_decaf_Encode (c_cons c_chicorylaw11_Bytes c_nil)))))))) i_nil m_nil x_nil Tryz.func3 (by rfl) (by kernel_rfl) Tryz.call3 ?_ ?_
  · intro args; unfold s_chicorylaw14_DecafDecodes; split
    · exact good_flat ⟨fun _ => by repeat' (first | exact trivial | constructor), fun _ _ _ => rfl⟩ (by repeat' (first | exact trivial | constructor)) (fun _ => ⟨(), trivial⟩)
    · exact PR.good_none
  · intro P Ω hΩ hE hI hm args pr hs hp Q hQ
    unfold s_chicorylaw14_DecafDecodes at hs
    split at hs <;> subst hs <;> try (exact hp.elim)
    rename_i bs K T' tw
    obtain ⟨⟨hbs, hbl⟩, ⟨hK, hKl⟩, htw⟩ := hp ()
    refine ⟨1000, ?_⟩
    conv => cbv
    constructor
    · intro hc
      cbv
      constructor; (first | exact fun (_ : Unit) => trivial | exact fun (_ : Unit) (_ : Unit) => (by decide)); intro _ _; conv => cbv
      refine hQ () _ _ _ trivial ?_
      subst hΩ
      rfl
    · intro hc
      have hl : bs.length ≤ 60 := by rw [hΩ] at hc; simp (disch := omega) only [Om.real, nc, Nat.succ_eq_add_one, Int.ofNat_eq_natCast, Int.toNat_natCast, ia_nn, ia_nl, ia_ln, is_nn, is_nl, is_ln, im_nn, im_nl, im_ln, iq_nn, iq_nl, ir_nn, ir_nl, cl_nn, cl_nl, cl_ln, cle_nn, cle_nl, cle_ln, cg_nn, cg_nl, cg_ln, cge_nn, cge_nl, ce_nn, ce_nl, cn_nn, cn_nl, decide_eq_true_eq, decide_eq_false_iff_not] at hc; omega
      conv => cbv
      constructor
      · intro hc0
        have ht0 : tw.getD 0 0 ≥ 0 := by subst hΩ; exact of_decide_eq_true hc0
        conv => cbv
        constructor
        · exact fun _ _ => ⟨hK, hKl⟩
        intro z hz
        cases z with
        | false =>
          conv => cbv
          constructor; (first | exact fun (_ : Unit) => trivial | exact fun (_ : Unit) (_ : Unit) => (by decide)); intro _ _; conv => cbv
          refine hQ () _ _ _ trivial ?_
          subst hΩ
          rfl
        | true =>
          conv => cbv
          constructor
          · exact fun (_ : Unit) => trivial
          intro x hx
          obtain ⟨x1, x2⟩ := x
          have hx : x1 = fbytes (encF (padd (spP K T') (spP K T'))) ∧ x1.length ≤ x2 := by subst hΩ; exact hx
          have hxl : x1.length = 56 := by rw [hx.1, fbytes_len]
          have hxb : Byt x1 := by rw [hx.1, fbytes_N]; exact byt_bytesN _ _
          conv => cbv
          constructor
          · intro hc1
            have ht1 : tw.getD 0 0 < 56 := by
              subst hΩ
              have h : tw.getD 0 0 < ((x1.length : Nat) : Int) := of_decide_eq_true hc1
              rw [hxl] at h; exact h
            conv => cbv
            constructor
            · intro _; subst hΩ; exact ⟨ht0, (show tw.getD 0 0 < ((x1.length : Nat) : Int) by omega)⟩
            constructor
            · intro _; subst hΩ; show (tw.getD 0 0).toNat + 1 ≤ x1.length; omega
            constructor
            · intro _; subst hΩ; exact ⟨ht0, (show tw.getD 0 0 < ((x1.length : Nat) : Int) by omega)⟩
            constructor
            · intro _; subst hΩ; show (tw.getD 0 0).toNat < x1.length; omega
            obtain ⟨n, hn⟩ : ∃ n, Ω.len x1 = n := ⟨_, rfl⟩
            have hnl : n = x1.length := by subst hΩ; exact hn.symm
            conv at hn => lhs; cbv
            obtain ⟨ys, hys⟩ : ∃ ys, Ω.set x1 (Ω.toN (Ω.at' tw 0)) (Ω.bin .add .u8 (Ω.at' x1 (Ω.toN (Ω.at' tw 0))) (Ω.cv .u8 (Ω.at' tw 1))) = ys := ⟨_, rfl⟩
            have hyv : ys = x1.set (tw.getD 0 0).toNat (IntKind.u8.wrap (x1.getD (tw.getD 0 0).toNat 0 + IntKind.u8.wrap (tw.getD 1 0))) := by subst hΩ; exact hys.symm
            conv at hys => lhs; cbv
            have hl : ys.length ≤ 60 := by rw [hyv, List.length_set]; omega
            have hnl2 : n = ys.length := by rw [hyv, List.length_set]; exact hnl
            have hsub : (ys.drop 0).take n = ys := by rw [List.drop_zero, hnl2, List.take_length]
            have hb : Byt ys := by
              intro a ha
              rw [hyv] at ha
              rcases List.mem_or_eq_of_mem_set ha with h | h
              · exact hxb a h
              · rw [h, IntKind.wrap_u8]; omega
            clear hyv
            rw [hys, hn]
            clear hys hn hx hxl hxb hbs
            constructor
            · exact fun _ => ⟨(show 0 + n ≤ ys.length by omega), trivial⟩
            constructor
            · intro _ _
              subst hΩ
              show Byt ((ys.drop 0).take n) ∧ ((ys.drop 0).take n).length < _
              rw [hsub]
              exact ⟨hb, by omega⟩
            intro z hz
            have hz : z = decGood ys := by
              subst hΩ
              have h : z = decGood ((ys.drop 0).take n) := hz
              rw [hsub ] at h
              exact h
            cases z with
            | false =>
              conv => cbv
              constructor
              · exact fun _ => ⟨(show 0 + n ≤ ys.length by omega), trivial⟩
              constructor
              · intro _ _
                subst hΩ
                show Byt ((ys.drop 0).take n) ∧ ((ys.drop 0).take n).length < _
                rw [hsub]
                exact ⟨hb, by omega⟩
              intro y hy
              have hy : y = false := by
                rw [hz]
                subst hΩ
                have h : y = decGood ((ys.drop 0).take n) := hy
                rw [hsub ] at h
                exact h
              subst hy
              conv => cbv
              constructor
              · intro hc
                have h56 : ¬ ys.length = 56 := by rw [hΩ] at hc; simp (disch := omega) only [Om.real, nc, Nat.succ_eq_add_one, Int.ofNat_eq_natCast, Int.toNat_natCast, ia_nn, ia_nl, ia_ln, is_nn, is_nl, is_ln, im_nn, im_nl, im_ln, iq_nn, iq_nl, ir_nn, ir_nl, cl_nn, cl_nl, cl_ln, cle_nn, cle_nl, cle_ln, cg_nn, cg_nl, cg_ln, cge_nn, cge_nl, ce_nn, ce_nl, cn_nn, cn_nl, decide_eq_true_eq, decide_eq_false_iff_not] at hc; omega
                conv => cbv
                constructor
                rotate_left
                · intro h
                  have h' : False := by
                    subst hΩ
                    have h2 : ((if ((ys.drop 0).take n).length = 56 then (12 : Int) else 11) == 11) = false := h
                    rw [hsub] at h2
                    rw [if_neg h56] at h2; exact absurd h2 (by decide)
                  clear hz h56
                  contradiction
                intro _
                conv => cbv
                constructor; (first | exact fun (_ : Unit) => trivial | exact fun (_ : Unit) (_ : Unit) => (by decide)); intro _ _; conv => cbv
                refine hQ () _ _ _ trivial ?_
                subst hΩ
                rfl
              · intro hc
                have h56 : ys.length = 56 := by rw [hΩ] at hc; simp (disch := omega) only [Om.real, nc, Nat.succ_eq_add_one, Int.ofNat_eq_natCast, Int.toNat_natCast, ia_nn, ia_nl, ia_ln, is_nn, is_nl, is_ln, im_nn, im_nl, im_ln, iq_nn, iq_nl, ir_nn, ir_nl, cl_nn, cl_nl, cl_ln, cle_nn, cle_nl, cle_ln, cg_nn, cg_nl, cg_ln, cge_nn, cge_nl, ce_nn, ce_nl, cn_nn, cn_nl, decide_eq_true_eq, decide_eq_false_iff_not] at hc; omega
                conv => cbv
                constructor
                rotate_left
                · intro h
                  have h' : False := by
                    subst hΩ
                    have h2 : ((if ((ys.drop 0).take n).length = 56 then (12 : Int) else 11) == 12) = false := h
                    rw [hsub] at h2
                    rw [if_pos h56] at h2; exact absurd h2 (by decide)
                  clear hz h56
                  contradiction
                intro _
                conv => cbv
                constructor; (first | exact fun (_ : Unit) => trivial | exact fun (_ : Unit) (_ : Unit) => (by decide)); intro _ _; conv => cbv
                refine hQ () _ _ _ trivial ?_
                subst hΩ
                rfl
            | true =>
              obtain ⟨he, hon⟩ := enc_dec hb hz.symm
              have h56 : ys.length = 56 := by
                have h := hz.symm
                unfold decGood at h
                rw [Bool.and_eq_true] at h
                exact eq_of_beq h.1
              conv => cbv
              constructor
              · exact fun _ => ⟨(show 0 + n ≤ ys.length by omega), trivial⟩
              constructor
              · intro _ _
                subst hΩ
                show Byt ((ys.drop 0).take n) ∧ ((ys.drop 0).take n).length < _
                rw [hsub]
                exact ⟨hb, by omega⟩
              intro y hy
              have hy : y = true := by
                rw [hz]
                subst hΩ
                have h : y = decGood ((ys.drop 0).take n) := hy
                rw [hsub ] at h
                exact h
              subst hy
              conv => cbv
              constructor
              · intro hc
                exfalso
                rw [hΩ] at hc; simp (disch := omega) only [Om.real, nc, Nat.succ_eq_add_one, Int.ofNat_eq_natCast, Int.toNat_natCast, ia_nn, ia_nl, ia_ln, is_nn, is_nl, is_ln, im_nn, im_nl, im_ln, iq_nn, iq_nl, ir_nn, ir_nl, cl_nn, cl_nl, cl_ln, cle_nn, cle_nl, cle_ln, cg_nn, cg_nl, cg_ln, cge_nn, cge_nl, ce_nn, ce_nl, cn_nn, cn_nl, decide_eq_true_eq, decide_eq_false_iff_not] at hc
                omega
              · intro hc
                cbv
                constructor; (first | exact fun (_ : Unit) => trivial | exact fun (_ : Unit) (_ : Unit) => (by decide)); intro _ _; conv => cbv
                constructor
                rotate_left
                · intro h
                  have h' : False := by
                    subst hΩ
                    have h2 : (fbytes (encF (decPt ((ys.drop 0).take n))) == fbytes (encF (decPt ((ys.drop 0).take n)))) = false := h
                    simp at h2
                  clear hz he hon h56
                  contradiction
                intro _
                conv => cbv
                constructor
                · exact fun (_ : Unit) => trivial
                intro x hx
                have hx : x.1 = ys ∧ x.1.length ≤ x.2 := by
                  subst hΩ
                  have h : x.1 = fbytes (encF (decPt ((ys.drop 0).take n))) ∧ x.1.length ≤ x.2 := hx
                  rw [hsub, he] at h
                  exact h
                have hsx : (x.1.drop 0).take x.1.length = ys := by rw [List.drop_zero, List.take_length, hx.1]
                conv => cbv
                constructor
                · exact fun _ => ⟨by subst hΩ; show 0 + x.1.length ≤ x.1.length; omega, (show 0 + n ≤ ys.length by omega), trivial⟩
                constructor
                · intro _ _
                  subst hΩ
                  show ((x.1.drop 0).take x.1.length).length < _ ∧ ((ys.drop 0).take n).length < _
                  rw [hsx, hsub]
                  omega
                intro _ _
                conv => cbv
                constructor
                rotate_left
                · intro h
                  have h' : False := by
                    subst hΩ
                    have h2 : ((x.1.drop 0).take x.1.length == ((ys.drop 0).take n)) = false := h
                    rw [hsx, hsub] at h2; simp at h2
                  clear hz he hon h56 hx hsx
                  contradiction
                intro _
                conv => cbv
                constructor; (first | exact fun (_ : Unit) => trivial | exact fun (_ : Unit) (_ : Unit) => (by decide)); intro _ _; conv => cbv
                refine hQ () _ _ _ trivial ?_
                subst hΩ
                rfl
          · intro hc1
            obtain ⟨n, hn⟩ : ∃ n, Ω.len x1 = n := ⟨_, rfl⟩
            have hnl : n = x1.length := by subst hΩ; exact hn.symm
            conv at hn => lhs; cbv
            obtain ⟨ys, hys⟩ : ∃ ys, ys = x1 := ⟨_, rfl⟩
            conv => cbv
            rw [hn, ← hys]
            rw [← hys] at hxb hxl hnl
            have hl : ys.length ≤ 60 := by omega
            have hsub : (ys.drop 0).take n = ys := by rw [List.drop_zero, hnl, List.take_length]
            have hb : Byt ys := hxb
            clear hn hx hxl hxb hbs
            constructor
            · exact fun _ => ⟨(show 0 + n ≤ ys.length by omega), trivial⟩
            constructor
            · intro _ _
              subst hΩ
              show Byt ((ys.drop 0).take n) ∧ ((ys.drop 0).take n).length < _
              rw [hsub]
              exact ⟨hb, by omega⟩
            intro z hz
            have hz : z = decGood ys := by
              subst hΩ
              have h : z = decGood ((ys.drop 0).take n) := hz
              rw [hsub ] at h
              exact h
            cases z with
            | false =>
              conv => cbv
              constructor
              · exact fun _ => ⟨(show 0 + n ≤ ys.length by omega), trivial⟩
              constructor
              · intro _ _
                subst hΩ
                show Byt ((ys.drop 0).take n) ∧ ((ys.drop 0).take n).length < _
                rw [hsub]
                exact ⟨hb, by omega⟩
              intro y hy
              have hy : y = false := by
                rw [hz]
                subst hΩ
                have h : y = decGood ((ys.drop 0).take n) := hy
                rw [hsub ] at h
                exact h
              subst hy
              conv => cbv
              constructor
              · intro hc
                have h56 : ¬ ys.length = 56 := by rw [hΩ] at hc; simp (disch := omega) only [Om.real, nc, Nat.succ_eq_add_one, Int.ofNat_eq_natCast, Int.toNat_natCast, ia_nn, ia_nl, ia_ln, is_nn, is_nl, is_ln, im_nn, im_nl, im_ln, iq_nn, iq_nl, ir_nn, ir_nl, cl_nn, cl_nl, cl_ln, cle_nn, cle_nl, cle_ln, cg_nn, cg_nl, cg_ln, cge_nn, cge_nl, ce_nn, ce_nl, cn_nn, cn_nl, decide_eq_true_eq, decide_eq_false_iff_not] at hc; omega
                conv => cbv
                constructor
                rotate_left
                · intro h
                  have h' : False := by
                    subst hΩ
                    have h2 : ((if ((ys.drop 0).take n).length = 56 then (12 : Int) else 11) == 11) = false := h
                    rw [hsub] at h2
                    rw [if_neg h56] at h2; exact absurd h2 (by decide)
                  clear hz h56
                  contradiction
                intro _
                conv => cbv
                constructor; (first | exact fun (_ : Unit) => trivial | exact fun (_ : Unit) (_ : Unit) => (by decide)); intro _ _; conv => cbv
                refine hQ () _ _ _ trivial ?_
                subst hΩ
                rfl
              · intro hc
                have h56 : ys.length = 56 := by rw [hΩ] at hc; simp (disch := omega) only [Om.real, nc, Nat.succ_eq_add_one, Int.ofNat_eq_natCast, Int.toNat_natCast, ia_nn, ia_nl, ia_ln, is_nn, is_nl, is_ln, im_nn, im_nl, im_ln, iq_nn, iq_nl, ir_nn, ir_nl, cl_nn, cl_nl, cl_ln, cle_nn, cle_nl, cle_ln, cg_nn, cg_nl, cg_ln, cge_nn, cge_nl, ce_nn, ce_nl, cn_nn, cn_nl, decide_eq_true_eq, decide_eq_false_iff_not] at hc; omega
                conv => cbv
                constructor
                rotate_left
                · intro h
                  have h' : False := by
                    subst hΩ
                    have h2 : ((if ((ys.drop 0).take n).length = 56 then (12 : Int) else 11) == 12) = false := h
                    rw [hsub] at h2
                    rw [if_pos h56] at h2; exact absurd h2 (by decide)
                  clear hz h56
                  contradiction
                intro _
                conv => cbv
                constructor; (first | exact fun (_ : Unit) => trivial | exact fun (_ : Unit) (_ : Unit) => (by decide)); intro _ _; conv => cbv
                refine hQ () _ _ _ trivial ?_
                subst hΩ
                rfl
            | true =>
              obtain ⟨he, hon⟩ := enc_dec hb hz.symm
              have h56 : ys.length = 56 := by
                have h := hz.symm
                unfold decGood at h
                rw [Bool.and_eq_true] at h
                exact eq_of_beq h.1
              conv => cbv
              constructor
              · exact fun _ => ⟨(show 0 + n ≤ ys.length by omega), trivial⟩
              constructor
              · intro _ _
                subst hΩ
                show Byt ((ys.drop 0).take n) ∧ ((ys.drop 0).take n).length < _
                rw [hsub]
                exact ⟨hb, by omega⟩
              intro y hy
              have hy : y = true := by
                rw [hz]
                subst hΩ
                have h : y = decGood ((ys.drop 0).take n) := hy
                rw [hsub ] at h
                exact h
              subst hy
              conv => cbv
              constructor
              · intro hc
                exfalso
                rw [hΩ] at hc; simp (disch := omega) only [Om.real, nc, Nat.succ_eq_add_one, Int.ofNat_eq_natCast, Int.toNat_natCast, ia_nn, ia_nl, ia_ln, is_nn, is_nl, is_ln, im_nn, im_nl, im_ln, iq_nn, iq_nl, ir_nn, ir_nl, cl_nn, cl_nl, cl_ln, cle_nn, cle_nl, cle_ln, cg_nn, cg_nl, cg_ln, cge_nn, cge_nl, ce_nn, ce_nl, cn_nn, cn_nl, decide_eq_true_eq, decide_eq_false_iff_not] at hc
                omega
              · intro hc
                cbv
                constructor; (first | exact fun (_ : Unit) => trivial | exact fun (_ : Unit) (_ : Unit) => (by decide)); intro _ _; conv => cbv
                constructor
                rotate_left
                · intro h
                  have h' : False := by
                    subst hΩ
                    have h2 : (fbytes (encF (decPt ((ys.drop 0).take n))) == fbytes (encF (decPt ((ys.drop 0).take n)))) = false := h
                    simp at h2
                  clear hz he hon h56
                  contradiction
                intro _
                conv => cbv
                constructor
                · exact fun (_ : Unit) => trivial
                intro x hx
                have hx : x.1 = ys ∧ x.1.length ≤ x.2 := by
                  subst hΩ
                  have h : x.1 = fbytes (encF (decPt ((ys.drop 0).take n))) ∧ x.1.length ≤ x.2 := hx
                  rw [hsub, he] at h
                  exact h
                have hsx : (x.1.drop 0).take x.1.length = ys := by rw [List.drop_zero, List.take_length, hx.1]
                conv => cbv
                constructor
                · exact fun _ => ⟨by subst hΩ; show 0 + x.1.length ≤ x.1.length; omega, (show 0 + n ≤ ys.length by omega), trivial⟩
                constructor
                · intro _ _
                  subst hΩ
                  show ((x.1.drop 0).take x.1.length).length < _ ∧ ((ys.drop 0).take n).length < _
                  rw [hsx, hsub]
                  omega
                intro _ _
                conv => cbv
                constructor
                rotate_left
                · intro h
                  have h' : False := by
                    subst hΩ
                    have h2 : ((x.1.drop 0).take x.1.length == ((ys.drop 0).take n)) = false := h
                    rw [hsx, hsub] at h2; simp at h2
                  clear hz he hon h56 hx hsx
                  contradiction
                intro _
                conv => cbv
                constructor; (first | exact fun (_ : Unit) => trivial | exact fun (_ : Unit) (_ : Unit) => (by decide)); intro _ _; conv => cbv
                refine hQ () _ _ _ trivial ?_
                subst hΩ
                rfl
      · intro hc0
        obtain ⟨ys, hys⟩ : ∃ ys, ys = bs := ⟨_, rfl⟩
        rw [← hys] at hbs hl
        have hb : Byt ys := hbs
        subst hys
        conv => cbv
        constructor
        · intro _ _
          subst hΩ
          show Byt ys ∧ ys.length < _

          exact ⟨hb, by omega⟩
        intro z hz
        have hz : z = decGood ys := by
          subst hΩ
          have h : z = decGood ys := hz

          exact h
        cases z with
        | false =>
          conv => cbv
          constructor
          · intro _ _
            subst hΩ
            show Byt ys ∧ ys.length < _

            exact ⟨hb, by omega⟩
          intro y hy
          have hy : y = false := by
            rw [hz]
            subst hΩ
            have h : y = decGood ys := hy

            exact h
          subst hy
          conv => cbv
          constructor
          · intro hc
            have h56 : ¬ ys.length = 56 := by rw [hΩ] at hc; simp (disch := omega) only [Om.real, nc, Nat.succ_eq_add_one, Int.ofNat_eq_natCast, Int.toNat_natCast, ia_nn, ia_nl, ia_ln, is_nn, is_nl, is_ln, im_nn, im_nl, im_ln, iq_nn, iq_nl, ir_nn, ir_nl, cl_nn, cl_nl, cl_ln, cle_nn, cle_nl, cle_ln, cg_nn, cg_nl, cg_ln, cge_nn, cge_nl, ce_nn, ce_nl, cn_nn, cn_nl, decide_eq_true_eq, decide_eq_false_iff_not] at hc; omega
            conv => cbv
            constructor
            rotate_left
            · intro h
              have h' : False := by
                subst hΩ
                have h2 : ((if ys.length = 56 then (12 : Int) else 11) == 11) = false := h
                rw [if_neg h56] at h2; exact absurd h2 (by decide)
              clear hz h56
              contradiction
            intro _
            conv => cbv
            constructor; (first | exact fun (_ : Unit) => trivial | exact fun (_ : Unit) (_ : Unit) => (by decide)); intro _ _; conv => cbv
            refine hQ () _ _ _ trivial ?_
            subst hΩ
            rfl
          · intro hc
            have h56 : ys.length = 56 := by rw [hΩ] at hc; simp (disch := omega) only [Om.real, nc, Nat.succ_eq_add_one, Int.ofNat_eq_natCast, Int.toNat_natCast, ia_nn, ia_nl, ia_ln, is_nn, is_nl, is_ln, im_nn, im_nl, im_ln, iq_nn, iq_nl, ir_nn, ir_nl, cl_nn, cl_nl, cl_ln, cle_nn, cle_nl, cle_ln, cg_nn, cg_nl, cg_ln, cge_nn, cge_nl, ce_nn, ce_nl, cn_nn, cn_nl, decide_eq_true_eq, decide_eq_false_iff_not] at hc; omega
            conv => cbv
            constructor
            rotate_left
            · intro h
              have h' : False := by
                subst hΩ
                have h2 : ((if ys.length = 56 then (12 : Int) else 11) == 12) = false := h
                rw [if_pos h56] at h2; exact absurd h2 (by decide)
              clear hz h56
              contradiction
            intro _
            conv => cbv
            constructor; (first | exact fun (_ : Unit) => trivial | exact fun (_ : Unit) (_ : Unit) => (by decide)); intro _ _; conv => cbv
            refine hQ () _ _ _ trivial ?_
            subst hΩ
            rfl
        | true =>
          obtain ⟨he, hon⟩ := enc_dec hb hz.symm
          have h56 : ys.length = 56 := by
            have h := hz.symm
            unfold decGood at h
            rw [Bool.and_eq_true] at h
            exact eq_of_beq h.1
          conv => cbv
          constructor
          · intro _ _
            subst hΩ
            show Byt ys ∧ ys.length < _

            exact ⟨hb, by omega⟩
          intro y hy
          have hy : y = true := by
            rw [hz]
            subst hΩ
            have h : y = decGood ys := hy

            exact h
          subst hy
          conv => cbv
          constructor
          · intro hc
            exfalso
            rw [hΩ] at hc; simp (disch := omega) only [Om.real, nc, Nat.succ_eq_add_one, Int.ofNat_eq_natCast, Int.toNat_natCast, ia_nn, ia_nl, ia_ln, is_nn, is_nl, is_ln, im_nn, im_nl, im_ln, iq_nn, iq_nl, ir_nn, ir_nl, cl_nn, cl_nl, cl_ln, cle_nn, cle_nl, cle_ln, cg_nn, cg_nl, cg_ln, cge_nn, cge_nl, ce_nn, ce_nl, cn_nn, cn_nl, decide_eq_true_eq, decide_eq_false_iff_not] at hc
            omega
          · intro hc
            cbv
            constructor; (first | exact fun (_ : Unit) => trivial | exact fun (_ : Unit) (_ : Unit) => (by decide)); intro _ _; conv => cbv
            constructor
            rotate_left
            · intro h
              have h' : False := by
                subst hΩ
                have h2 : (fbytes (encF (decPt ys)) == fbytes (encF (decPt ys))) = false := h
                simp at h2
              clear hz he hon h56
              contradiction
            intro _
            conv => cbv
            constructor
            · exact fun (_ : Unit) => trivial
            intro x hx
            have hx : x.1 = ys ∧ x.1.length ≤ x.2 := by
              subst hΩ
              have h : x.1 = fbytes (encF (decPt ys)) ∧ x.1.length ≤ x.2 := hx
              rw [he] at h
              exact h
            have hsx : (x.1.drop 0).take x.1.length = ys := by rw [List.drop_zero, List.take_length, hx.1]
            conv => cbv
            constructor
            · exact fun _ => ⟨by subst hΩ; show 0 + x.1.length ≤ x.1.length; omega, trivial, trivial⟩
            constructor
            · intro _ _
              subst hΩ
              show ((x.1.drop 0).take x.1.length).length < _ ∧ ys.length < _
              rw [hsx]
              omega
            intro _ _
            conv => cbv
            constructor
            rotate_left
            · intro h
              have h' : False := by
                subst hΩ
                have h2 : ((x.1.drop 0).take x.1.length == ys) = false := h
                rw [hsx] at h2; simp at h2
              clear hz he hon h56 hx hsx
              contradiction
            intro _
            conv => cbv
            constructor; (first | exact fun (_ : Unit) => trivial | exact fun (_ : Unit) (_ : Unit) => (by decide)); intro _ _; conv => cbv
            refine hQ () _ _ _ trivial ?_
            subst hΩ
            rfl
end Go.Sx.Tryz
end
section

end
