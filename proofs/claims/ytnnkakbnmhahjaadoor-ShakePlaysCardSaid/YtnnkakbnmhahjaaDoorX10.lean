/-
  Part of the proof of a statement: the means.
-/
import Derived.Test.YtnnkakbnmhahjaaDoorX9
set_option linter.unusedSectionVars false
set_option linter.unusedVariables false
set_option linter.unusedSimpArgs false
set_option linter.deprecated false
section
namespace Go.Sx.Tryd
open Go.Proofs
def s9 : PSpec := fun args => match args with
  | [.rol .u8 xss, .roi .i64 ms] => ⟨∀ _ : Unit, xss.length ≤ 9223372036854775807 ∧ (∀ xs ∈ xss, xs.length ≤ 9223372036854775807 ∧ ∀ a ∈ xs, InB a) ∧ ms.length ≤ 9223372036854775807, Bool, fun b => b = true, fun b => .bs b⟩
  | _ => PR.none
noncomputable def i9 : List (FuncId × Func) := [(27, Tryd.f27)]
set_option maxHeartbeats 4000000 in
theorem c9 : Ctr Tryd.prog T glob 9 s9 := by
  refine ctr_ofM T_ok glob_ids mixed [(23, s23), (24, s24), (25, s25), (19, s19)] i9 [(28, m28), (29, m29)] (c_cons c23 (c_cons c24 (c_cons c25 (c_cons c19 c_nil)))) (i_cons Tryd.call27 Tryd.func27 (by kernel_rfl) i_nil) (m_cons mc28 (m_cons mc29 m_nil)) Tryd.func9 (by rfl) (by kernel_rfl) Tryd.call9 ?_ ?_
  · intro args; unfold s9; split
    · exact good_bool ⟨trivial, trivial, trivial⟩ fun _ => ⟨_, rfl⟩
    · exact PR.good_none
  · intro P Ω hΩ hE hI hm args pr hs hp Q hQ
    unfold s9 at hs
    split at hs <;> subst hs <;> try (exact hp.elim)
    rename_i xss ms
    obtain ⟨lx, ly, lm⟩ := hp ()
    refine ⟨1000, ?_⟩
    cbv
    constructor
    · exact fun _ _ => ⟨lx, fun i hi => (ly _ (getD_mem hi)).1⟩
    intro b hb
    have hb : b = fewB xss := hb
    cbv
    constructor
    · intro h1
      cbv
      constructor
      · exact fun _ => trivial
      intro z hz
      have hz : z = true := hz
      cbv
      refine hQ _ _ _ _ ?_ rfl
      exact hz
    · intro h1
      have hbt : b = true := by
        subst hΩ; cases b
        · exact Bool.noConfusion h1
        · rfl
      have hF := few_facts (hb.symm.trans hbt)
      cbv
      constructor
      · intro h2
        cbv
        constructor
        · exact fun _ => trivial
        intro z hz
        have hz : z = true := hz
        cbv
        refine hQ _ _ _ _ ?_ rfl
        exact hz
      · intro h2
        have k2 : ms.length ≤ 12 := by subst hΩ; have h4 := of_decide_eq_false (show decide ((12 : Int) < (ms.length : Int)) = false from h2); omega
        obtain ⟨L, hL⟩ : ∃ L, L = xss.length := ⟨_, rfl⟩
        have hL2 : Ω.len2 xss = L := by subst hΩ; exact hL.symm
        cbv
        refine loop_inv hE hI hm (fun x : Nat × List Int × List Int × Nat × Nat × List Int × Nat × Nat => (mkT 132 [(0, .rol .u8 xss), (1, .roi .i64 ms), (4, .bl false), (5, .ptr 104 (.l 0)), (6, .sl 153 1 (.l 0) (.s x.2.2.2.2.2.2.1) (.s x.2.2.2.2.2.2.2)), (7, .int .i64 x.1)], [(104, .agg [.row .u64 25 x.2.1, .sl 152 1 (.l 0) (.s x.2.2.2.1) (.s x.2.2.2.2.1), .bs false]), (152, .seq .u8 x.2.2.1), (153, .seq .u8 x.2.2.2.2.2.1)])) (fun x => x.1 ≤ L ∧ x.2.1 = hrdS (xss.take x.1).flatten ∧ x.2.2.1 = hrdR (xss.take x.1).flatten ∧ x.2.2.2.1 = x.2.2.1.length ∧ x.2.2.2.1 ≤ x.2.2.2.2.1 ∧ x.2.2.2.2.2.1 = (xss.take x.1).flatten ∧ x.2.2.2.2.2.2.1 = x.2.2.2.2.2.1.length ∧ x.2.2.2.2.2.2.1 ≤ x.2.2.2.2.2.2.2) (fun x => L - x.1) 1 ⟨(0, List.replicate 25 0, [], 0, 0, [], 0, 0), [none, none], ⟨Nat.zero_le _, hrdS_nil, hrdR_nil, rfl, Nat.le_refl _, rfl, rfl, Nat.le_refl _⟩, by decide, ?_⟩ fun x hj => ⟨1000, ?_⟩
        · cbv
          exact ⟨rfl, trivial⟩
        obtain ⟨i, s, r, R, c, al, la, ca⟩ := x
        obtain ⟨j1, j2, j3, j4, j5, j6, j7, j8⟩ : i ≤ L ∧ s = hrdS (xss.take i).flatten ∧ r = hrdR (xss.take i).flatten ∧ R = r.length ∧ R ≤ c ∧ al = (xss.take i).flatten ∧ la = al.length ∧ la ≤ ca := hj
        have hsub : Ω.sub r 0 R = r := by rw [j4]; subst hΩ; exact List.take_length
        cbv
        constructor
        · intro hc
          cbv
          rw [hΩ] at hc; simp (disch := omega) only [Om.real, nc, Nat.succ_eq_add_one, Int.ofNat_eq_natCast, Int.toNat_natCast, ia_nn, ia_nl, ia_ln, is_nn, is_nl, is_ln, im_nn, im_nl, im_ln, iq_nn, iq_nl, ir_nn, ir_nl, cl_nn, cl_nl, cl_ln, cle_nn, cle_nl, cle_ln, cg_nn, cg_nl, cg_ln, cge_nn, cge_nl, ce_nn, ce_nl, cn_nn, cn_nl, decide_eq_true_eq, decide_eq_false_iff_not] at hc
          repeat (refine ⟨by ((try intro _); (try subst hΩ); simp (disch := omega) only [Om.real, nc, Nat.succ_eq_add_one, Int.ofNat_eq_natCast, Int.toNat_natCast, ia_nn, ia_nl, ia_ln, is_nn, is_nl, is_ln, im_nn, im_nl, im_ln, iq_nn, iq_nl, ir_nn, ir_nl, cl_nn, cl_nl, cl_ln, cle_nn, cle_nl, cle_ln, cg_nn, cg_nl, cg_ln, cge_nn, cge_nl, ce_nn, ce_nl, cn_nn, cn_nl, SN.v]; omega), ?_⟩)
          have hi : i < xss.length := by omega
          have htk : (xss.take (i + 1)).flatten = (xss.take i).flatten ++ xss.getD i [] := by
            rw [List.take_succ_eq_append_getElem hi, List.flatten_append]
            simp [List.getD, hi]
          obtain ⟨bb, hbb⟩ : ∃ bb, bb = xss.getD i [] := ⟨_, rfl⟩
          have h1' : (xss.take (i + 1)).flatten.length ≤ xss.flatten.length := by
            conv => rhs; rw [← List.take_append_drop (i + 1) xss, List.flatten_append, List.length_append]
            omega
          rw [← hbb] at htk
          rw [htk, List.length_append] at h1'
          have hal : al.length = (xss.take i).flatten.length := by rw [j6]
          have hrl : r.length ≤ (xss.take i).flatten.length := by rw [j3]; exact hrdR_le _
          have hAt : Ω.at2 xss (Ω.toN (Int.ofNat i)) = bb := by rw [hbb]; subst hΩ; rfl
          have hLn : Ω.len (Ω.at2 xss (Ω.toN (Int.ofNat i))) = bb.length := by rw [hAt]; subst hΩ; rfl
          constructor
          · exact fun _ => ⟨⟨by show 0 + R ≤ r.length; omega, trivial⟩, trivial, trivial⟩
          constructor
          · exact fun _ _ => ⟨by rw [j2, hrdS_len], by show (Ω.sub r 0 R).length ≤ c; rw [hsub]; omega, fun _ => by show (Ω.sub r 0 R).length + (Ω.at2 xss (Ω.toN (Int.ofNat i))).length ≤ 140737488355328; rw [hsub, hAt]; omega⟩
          intro z hz
          obtain ⟨s2, r2, c2⟩ := z
          obtain ⟨hc2, hs2, hr2⟩ := write_of (M := (xss.take i).flatten) j2 (hsub.trans j3) hz
          have hc2 : r2.length ≤ c2 := hc2
          have hs2 : s2 = hrdS ((xss.take i).flatten ++ Ω.at2 xss (Ω.toN (Int.ofNat i))) := hs2
          have hr2 : r2 = hrdR ((xss.take i).flatten ++ Ω.at2 xss (Ω.toN (Int.ofNat i))) := hr2
          rw [hAt, ← htk] at hs2 hr2
          obtain ⟨R2, hR2⟩ : ∃ R2, R2 = r2.length := ⟨_, rfl⟩
          have hlR2 : Ω.len r2 = R2 := by rw [hR2]; subst hΩ; rfl
          clear hz
          cbv
          constructor
          · intro h
            have h' : False := by (skip); first | done | (subst hΩ; exact Bool.noConfusion (show false = true from h))
            contradiction
          intro _
          cbv
          repeat (refine ⟨by ((try intro _); (try subst hΩ); simp (disch := omega) only [Om.real, nc, Nat.succ_eq_add_one, Int.ofNat_eq_natCast, Int.toNat_natCast, ia_nn, ia_nl, ia_ln, is_nn, is_nl, is_ln, im_nn, im_nl, im_ln, iq_nn, iq_nl, ir_nn, ir_nl, cl_nn, cl_nl, cl_ln, cle_nn, cle_nl, cle_ln, cg_nn, cg_nl, cg_ln, cge_nn, cge_nl, ce_nn, ce_nl, cn_nn, cn_nl, SN.v]; omega), ?_⟩)
          constructor
          · exact fun _ => by show (la + Ω.len (Ω.at2 xss (Ω.toN (Int.ofNat i)))) * 1 ≤ 140737488355328; rw [hLn]; omega
          constructor
          · exact fun _ => ⟨by show 0 + la * 1 ≤ al.length; omega, trivial⟩
          intro cap2 hcap2
          have hcap2 : la + bb.length ≤ cap2 := by rw [← hLn]; exact hcap2
          obtain ⟨a2, ha2⟩ : ∃ a2, a2 = al ++ bb := ⟨_, rfl⟩
          obtain ⟨l2, hl2⟩ : ∃ l2, l2 = la + bb.length := ⟨_, rfl⟩
          have f0 : Ω.nadd la (Ω.len (Ω.at2 xss (Ω.toN (Int.ofNat i)))) = l2 := by rw [hLn, hl2]; subst hΩ; rfl
          have f1 : Ω.cat (Ω.sub al 0 la) (Ω.at2 xss (Ω.toN (Int.ofNat i))) = a2 := by
            rw [hAt, ha2]; subst hΩ
            show (al.drop 0).take la ++ bb = _
            rw [List.drop_zero, j7, List.take_length]
          cbv
          refine ⟨(i + 1, s2, r2, R2, c2, a2, l2, cap2), [some 232, some 288], ⟨by show i + 1 ≤ L; omega, hs2, hr2, hR2, by show R2 ≤ c2; omega, by show a2 = _; rw [ha2, htk, j6], by show l2 = a2.length; rw [ha2, List.length_append, hl2, j7], by show l2 ≤ cap2; omega⟩, by show L - (i + 1) < L - i; omega, by show 2 ≤ 8 * 1; omega, ?_⟩
          cbv
          refine ⟨f0, ?_, hlR2, f1⟩
          subst hΩ
          exact ia_nl i 1 (by show i + 1 < 9223372036854775808; omega)
        · intro hc
          cbv
          rw [hΩ] at hc; simp (disch := omega) only [Om.real, nc, Nat.succ_eq_add_one, Int.ofNat_eq_natCast, Int.toNat_natCast, ia_nn, ia_nl, ia_ln, is_nn, is_nl, is_ln, im_nn, im_nl, im_ln, iq_nn, iq_nl, ir_nn, ir_nl, cl_nn, cl_nl, cl_ln, cle_nn, cle_nl, cle_ln, cg_nn, cg_nl, cg_ln, cge_nn, cge_nl, ce_nn, ce_nl, cn_nn, cn_nl, decide_eq_true_eq, decide_eq_false_iff_not] at hc
          have hiL : i = xss.length := by omega
          rw [hiL, List.take_length] at j2 j3 j6
          have lal : al.length ≤ 4800 := by rw [j6]; exact hF.2
          have hla : Ω.sub al 0 la = al := by rw [j7]; subst hΩ; exact List.take_length
          refine loop_inv hE hI hm (fun x : Nat × List Int × Nat × Nat × List Int × List Int × Nat × Nat × Bool => (mkT 132 [(0, .rol .u8 xss), (1, .roi .i64 ms), (4, .bl false), (5, .ptr 104 (.l 0)), (6, .sl 153 1 (.l 0) (.s la) (.s ca)), (8, .sl 209 1 (.l 0) (.s x.2.2.1) (.s x.2.2.2.1)), (9, .int .i64 x.1)], [(104, .agg [.row .u64 25 x.2.2.2.2.1, .sl 208 1 (.l 0) (.s x.2.2.2.2.2.2.1) (.s x.2.2.2.2.2.2.2.1), .bs x.2.2.2.2.2.2.2.2]), (208, .seq .u8 x.2.2.2.2.2.1), (209, .seq .u8 x.2.1), (153, .seq .u8 al)])) (fun x => x.1 ≤ ms.length ∧ x.2.2.1 = x.2.1.length ∧ x.2.2.1 ≤ x.2.2.2.1 ∧ x.2.1 = tl al x.2.2.1 ∧ HSt al x.2.2.2.2.2.2.2.2 x.2.2.1 x.2.2.2.2.1 x.2.2.2.2.2.1 ∧ x.2.2.2.2.2.2.1 = x.2.2.2.2.2.1.length ∧ x.2.2.2.2.2.2.1 ≤ x.2.2.2.2.2.2.2.1 ∧ x.2.2.1 ≤ 200 * x.1) (fun x => ms.length - x.1) 1 ⟨(0, [], 0, 0, s, r, R, c, false), [some 152, none], ⟨Nat.zero_le _, rfl, Nat.le_refl _, rfl, hst_false (j2.trans (by rw [j6])) (j3.trans (by rw [j6])), j4, j5, Nat.zero_le _⟩, by decide, ?_⟩ fun x hj => ⟨1000, ?_⟩
          · cbv
            exact ⟨rfl, trivial⟩
          obtain ⟨j, out, lo, co, s2, r2, R2, c2, tells⟩ := x
          obtain ⟨q1, q2, q3, q4, q5, q6, q7, q8⟩ : j ≤ ms.length ∧ lo = out.length ∧ lo ≤ co ∧ out = tl al lo ∧ HSt al tells lo s2 r2 ∧ R2 = r2.length ∧ R2 ≤ c2 ∧ lo ≤ 200 * j := hj
          have hsub2 : Ω.sub r2 0 R2 = r2 := by rw [q6]; subst hΩ; exact List.take_length
          cbv
          constructor
          · intro hd
            cbv
            rw [hΩ] at hd; simp (disch := omega) only [Om.real, nc, Nat.succ_eq_add_one, Int.ofNat_eq_natCast, Int.toNat_natCast, ia_nn, ia_nl, ia_ln, is_nn, is_nl, is_ln, im_nn, im_nl, im_ln, iq_nn, iq_nl, ir_nn, ir_nl, cl_nn, cl_nl, cl_ln, cle_nn, cle_nl, cle_ln, cg_nn, cg_nl, cg_ln, cge_nn, cge_nl, ce_nn, ce_nl, cn_nn, cn_nl, decide_eq_true_eq, decide_eq_false_iff_not] at hd
            repeat (refine ⟨by ((try intro _); (try subst hΩ); simp (disch := omega) only [Om.real, nc, Nat.succ_eq_add_one, Int.ofNat_eq_natCast, Int.toNat_natCast, ia_nn, ia_nl, ia_ln, is_nn, is_nl, is_ln, im_nn, im_nl, im_ln, iq_nn, iq_nl, ir_nn, ir_nl, cl_nn, cl_nl, cl_ln, cle_nn, cle_nl, cle_ln, cg_nn, cg_nl, cg_ln, cge_nn, cge_nl, ce_nn, ce_nl, cn_nn, cn_nl, SN.v]; omega), ?_⟩)
            obtain ⟨v, hv⟩ : ∃ v, v = ms.getD j 0 := ⟨_, rfl⟩
            have hV : Ω.at' ms (Ω.toN (Int.ofNat j)) = v := by rw [hv]; subst hΩ; rfl
            constructor
            · intro g1
              cbv
              refine ⟨(j + 1, out, lo, co, s2, r2, R2, c2, tells), [some 208, some 209], ⟨by show j + 1 ≤ ms.length; omega, q2, q3, q4, q5, q6, q7, by show lo ≤ 200 * (j + 1); omega⟩, by show ms.length - (j + 1) < ms.length - j; omega, by show 2 ≤ 8 * 1; omega, ?_⟩
              cbv
              refine ⟨?_, trivial⟩
              subst hΩ
              exact ia_nl j 1 (by show j + 1 < 9223372036854775808; omega)
            · intro g1
              have k3 : 0 ≤ v := by
                have g1 : Ω.cmp .lss (Ω.at' ms (Ω.toN (Int.ofNat j))) 0 = false := g1
                rw [hV] at g1; subst hΩ; have := of_decide_eq_false (show decide (v < 0) = false from g1); omega
              cbv
              repeat (refine ⟨by ((try intro _); (try subst hΩ); simp (disch := omega) only [Om.real, nc, Nat.succ_eq_add_one, Int.ofNat_eq_natCast, Int.toNat_natCast, ia_nn, ia_nl, ia_ln, is_nn, is_nl, is_ln, im_nn, im_nl, im_ln, iq_nn, iq_nl, ir_nn, ir_nl, cl_nn, cl_nl, cl_ln, cle_nn, cle_nl, cle_ln, cg_nn, cg_nl, cg_ln, cge_nn, cge_nl, ce_nn, ce_nl, cn_nn, cn_nl, SN.v]; omega), ?_⟩)
              constructor
              · intro g2
                cbv
                refine ⟨(j + 1, out, lo, co, s2, r2, R2, c2, tells), [some 208, some 209], ⟨by show j + 1 ≤ ms.length; omega, q2, q3, q4, q5, q6, q7, by show lo ≤ 200 * (j + 1); omega⟩, by show ms.length - (j + 1) < ms.length - j; omega, by show 2 ≤ 8 * 1; omega, ?_⟩
                cbv
                refine ⟨?_, trivial⟩
                subst hΩ
                exact ia_nl j 1 (by show j + 1 < 9223372036854775808; omega)
              · intro g2
                have k4 : v ≤ 200 := by
                  have g2 : Ω.cmp .gtr (Ω.at' ms (Ω.toN (Int.ofNat j))) 200 = false := g2
                  rw [hV] at g2; subst hΩ; have := of_decide_eq_false (show decide (200 < v) = false from g2); omega
                have hnb : ¬ badN v := by unfold badN; omega
                cbv
                repeat (refine ⟨by ((try intro _); (try subst hΩ); simp (disch := omega) only [Om.real, nc, Nat.succ_eq_add_one, Int.ofNat_eq_natCast, Int.toNat_natCast, ia_nn, ia_nl, ia_ln, is_nn, is_nl, is_ln, im_nn, im_nl, im_ln, iq_nn, iq_nl, ir_nn, ir_nl, cl_nn, cl_nl, cl_ln, cle_nn, cle_nl, cle_ln, cg_nn, cg_nl, cg_ln, cge_nn, cge_nl, ce_nn, ce_nl, cn_nn, cn_nl, SN.v]; omega), ?_⟩)
                constructor
                · exact fun _ => ⟨⟨by show 0 + R2 ≤ r2.length; omega, trivial⟩, trivial, trivial⟩
                constructor
                · exact fun _ _ => ⟨hst_len q5, fun hb => by show (Ω.sub r2 0 R2).length < 136; rw [hsub2]; exact hst_few q5 hb, by show (Ω.sub r2 0 R2).length ≤ c2; rw [hsub2]; omega⟩
                intro z hz
                obtain ⟨o3, oc3, s3, r3, c3, k3', er3, tl3⟩ := z
                obtain ⟨w1, w2, w3, w4, w5, w6⟩ := read_anyE q5 hsub2 hV hz hnb
                have w1 : er3 = 0 := w1
                have w2 : tl3 = true := w2
                have w3 : o3 = (tl al (lo + v.toNat)).drop lo := w3
                have w4 : HSt al true (lo + v.toNat) s3 r3 := w4
                have w5 : r3.length ≤ c3 := w5
                have ho3 : o3.length = v.toNat := by rw [w3, tl_drop_len]
                have hlo3 : Ω.len o3 = o3.length := by subst hΩ; rfl
                clear hz
                cbv
                repeat (refine ⟨by ((try intro _); (try subst hΩ); simp (disch := omega) only [Om.real, nc, Nat.succ_eq_add_one, Int.ofNat_eq_natCast, Int.toNat_natCast, ia_nn, ia_nl, ia_ln, is_nn, is_nl, is_ln, im_nn, im_nl, im_ln, iq_nn, iq_nl, ir_nn, ir_nl, cl_nn, cl_nl, cl_ln, cle_nn, cle_nl, cle_ln, cg_nn, cg_nl, cg_ln, cge_nn, cge_nl, ce_nn, ce_nl, cn_nn, cn_nl, SN.v]; omega), ?_⟩)
                constructor
                · intro h
                  have h' : False := by (have hV : Ω.at' ms (Ω.toN (Int.ofNat j)) = v := hV; have h : Ω.cmp .neq (Ω.ofN (Ω.len o3)) (Ω.at' ms (Ω.toN (Int.ofNat j))) = true := h; rw [hV, hlo3, ho3] at h; subst hΩ; have h : (((v.toNat : Nat) : Int) != v) = true := h; rw [Int.toNat_of_nonneg k3] at h; simp at h); first | done | (subst hΩ; exact Bool.noConfusion (show false = true from h))
                  contradiction
                intro _
                cbv
                constructor
                · intro h
                  have h' : False := by (rw [w1] at h); first | done | (subst hΩ; exact Bool.noConfusion (show false = true from h))
                  contradiction
                intro _
                constructor
                · exact fun _ => by show (lo + Ω.len o3) * 1 ≤ 140737488355328; omega
                constructor
                · exact fun _ => ⟨by show 0 + lo * 1 ≤ out.length; omega, by show 0 + Ω.len o3 * 1 ≤ o3.length; omega⟩
                intro cap4 hcap4
                have hcap4 : lo + Ω.len o3 ≤ cap4 := hcap4
                obtain ⟨o4, ho4⟩ : ∃ o4, o4 = out ++ o3 := ⟨_, rfl⟩
                obtain ⟨l4, hl4⟩ : ∃ l4, l4 = lo + v.toNat := ⟨_, rfl⟩
                obtain ⟨R3, hR3⟩ : ∃ R3, R3 = r3.length := ⟨_, rfl⟩
                have hlR3 : Ω.len r3 = R3 := by rw [hR3]; subst hΩ; rfl
                have f0 : Ω.nadd lo (Ω.len o3) = l4 := by rw [hlo3, hl4, ho3]; subst hΩ; rfl
                have f1 : Ω.cat (Ω.sub out 0 lo) (Ω.sub o3 0 (Ω.len o3)) = o4 := by
                  rw [hlo3, ho4]; subst hΩ
                  show (out.drop 0).take lo ++ (o3.drop 0).take o3.length = _
                  rw [List.drop_zero, List.drop_zero, List.take_length, q2, List.take_length]
                have f2 : o4 = tl al l4 := by rw [ho4, q4, w3, tl_more, hl4]
                have f3 : HSt al tl3 l4 s3 r3 := by rw [w2, hl4]; exact w4
                cbv
                refine ⟨(j + 1, o4, l4, cap4, s3, r3, R3, c3, tl3), [some 385, some 536], ⟨by show j + 1 ≤ ms.length; omega, by show l4 = o4.length; rw [ho4, List.length_append, hl4, ho3, q2], by show l4 ≤ cap4; omega, f2, f3, hR3, by show R3 ≤ c3; omega, by show l4 ≤ 200 * (j + 1); omega⟩, by show ms.length - (j + 1) < ms.length - j; omega, by show 2 ≤ 8 * 1; omega, ?_⟩
                cbv
                refine ⟨f0, ?_, hlR3, f1, trivial⟩
                subst hΩ
                exact ia_nl j 1 (by show j + 1 < 9223372036854775808; omega)
          · intro hd
            cbv
            rw [hΩ] at hd; simp (disch := omega) only [Om.real, nc, Nat.succ_eq_add_one, Int.ofNat_eq_natCast, Int.toNat_natCast, ia_nn, ia_nl, ia_ln, is_nn, is_nl, is_ln, im_nn, im_nl, im_ln, iq_nn, iq_nl, ir_nn, ir_nl, cl_nn, cl_nl, cl_ln, cle_nn, cle_nl, cle_ln, cg_nn, cg_nl, cg_ln, cge_nn, cge_nl, ce_nn, ce_nl, cn_nn, cn_nl, decide_eq_true_eq, decide_eq_false_iff_not] at hd
            have lt : lo ≤ 2400 := by omega
            have hfa : [Ω.sub al 0 la] = [al] := by rw [hla]
            have hfl : [al].flatten = al := by simp
            constructor
            · exact fun _ => ⟨trivial, ⟨by show 0 + la ≤ al.length; omega, trivial⟩, trivial⟩
            constructor
            · exact fun _ _ => ⟨by show 1 < _; decide, by show [Ω.sub al 0 la].flatten.length ≤ _; rw [hfa, hfl]; omega⟩
            intro z hz
            obtain ⟨o5, oc5, s5, r5, c5, k5, er5, tl5⟩ := z
            obtain ⟨_, hg5⟩ := sum_ofE (n := (lo : Int)) (by subst hΩ; rfl) hfa hz
            obtain ⟨v1, v2, v3⟩ := hg5 (by unfold badN; omega)
            have v1 : er5 = 0 := v1
            have v2 : o5 = tl al lo := by rw [hfl] at v2; exact v2
            have hlo5 : Ω.len o5 = o5.length := by subst hΩ; rfl
            have ho5 : o5.length = lo := by rw [v2, tl_len]
            clear hz hg5
            cbv
            constructor
            · exact fun _ _ => ⟨by omega, by omega⟩
            intro z hz
            obtain ⟨o6, oc6, s6, r6, c6, k6, er6, tl6⟩ := z
            have h5 : Ω.bin .add .i64 (Ω.ofN lo) 5 = ((lo + 5 : Nat) : Int) := by subst hΩ; exact ia_nl lo 5 (by show lo + 5 < 9223372036854775808; omega)
            obtain ⟨_, hg6⟩ := sum_ofE h5 rfl hz
            obtain ⟨u1, u2, u3⟩ := hg6 (by unfold badN; omega)
            have u1 : er6 = 0 := u1
            have u2 : o6 = tl al (lo + 5) := by rw [j6]; exact u2
            have u3 : o6.length ≤ oc6 := u3
            have hlo6 : Ω.len o6 = o6.length := by subst hΩ; rfl
            have ho6 : o6.length = lo + 5 := by rw [u2, tl_len]
            clear hz hg6
            cbv
            constructor
            · intro h
              have h' : False := by (rw [v1] at h); first | done | (subst hΩ; exact Bool.noConfusion (show false = true from h))
              contradiction
            intro _
            cbv
            constructor
            · intro h
              have h' : False := by (rw [u1] at h); first | done | (subst hΩ; exact Bool.noConfusion (show false = true from h))
              contradiction
            intro _
            cbv
            constructor
            · intro h
              have h' : False := by (have h5 : Ω.bin .add .i64 (Ω.ofN lo) 5 = ((lo + 5 : Nat) : Int) := h5; have h : Ω.cmp .neq (Ω.ofN (Ω.len o6)) (Ω.bin .add .i64 (Ω.ofN lo) 5) = true := h; rw [h5, hlo6, ho6] at h; subst hΩ; have h : (((lo + 5 : Nat) : Int) != ((lo + 5 : Nat) : Int)) = true := h; simp at h); first | done | (subst hΩ; exact Bool.noConfusion (show false = true from h))
              contradiction
            intro _
            cbv
            have hso : Ω.sub out 0 lo = tl al lo := by rw [← q4]; subst hΩ; show (out.drop 0).take lo = out; rw [List.drop_zero, List.take_of_length_le (by omega)]
            have hso5 : Ω.sub o5 0 (Ω.len o5) = tl al lo := by rw [← v2]; subst hΩ; exact List.take_length
            have hso6 : Ω.sub o6 0 lo = tl al lo := by
              rw [u2]; subst hΩ
              show ((tl al (lo + 5)).drop 0).take lo = _
              rw [List.drop_zero, tl_take _ (by omega)]
            constructor
            · exact fun _ => ⟨by show 0 + lo ≤ out.length; omega, by show 0 + Ω.len o5 ≤ o5.length; omega, trivial⟩
            constructor
            · exact fun _ _ => ⟨by show (Ω.sub out 0 lo).length < _; rw [hso, tl_len]; omega, by show (Ω.sub o5 0 (Ω.len o5)).length < _; rw [hso5, tl_len]; omega⟩
            intro q hq
            have hq : q = true := by
              have h : q = (Ω.sub out 0 lo == Ω.sub o5 0 (Ω.len o5)) := hq
              rw [h, hso, hso5]; simp
            cbv
            constructor
            rotate_left
            · intro h
              have h' : False := Bool.noConfusion (Eq.trans (Eq.symm (hq)) h)
              contradiction
            intro _
            cbv
            have hnl : Ω.toN (Ω.ofN lo) = lo := by subst hΩ; exact Int.toNat_natCast lo
            have hn0 : 0 ≤ Ω.ofN lo := by subst hΩ; exact Int.natCast_nonneg lo
            have hso7 : Ω.sub o6 0 (Ω.toN (Ω.ofN lo)) = tl al lo := by rw [hnl]; exact hso6
            constructor
            · exact fun _ => ⟨trivial, hn0, trivial, Nat.zero_le _, by show Ω.toN (Ω.ofN lo) ≤ oc6; rw [hnl]; omega, Nat.le_refl _⟩
            constructor
            · exact fun _ => ⟨by show 0 + Ω.toN (Ω.ofN lo) ≤ o6.length; rw [hnl]; omega, by show 0 + lo ≤ out.length; omega, trivial⟩
            constructor
            · exact fun _ _ => ⟨by show (Ω.sub o6 0 (Ω.toN (Ω.ofN lo))).length < _; rw [hso7, tl_len]; omega, by show (Ω.sub out 0 lo).length < _; rw [hso, tl_len]; omega⟩
            intro q2' hq2
            have hq2 : q2' = true := by
              have h : q2' = (Ω.sub o6 0 (Ω.toN (Ω.ofN lo)) == Ω.sub out 0 lo) := hq2
              rw [h, hso, hso7]; simp
            cbv
            constructor
            rotate_left
            · intro h
              have h' : False := Bool.noConfusion (Eq.trans (Eq.symm (hq2)) h)
              contradiction
            intro _
            cbv
            constructor
            · exact fun _ => trivial
            intro w hw
            have hw : w = true := hw
            cbv
            refine hQ _ _ _ _ ?_ rfl
            exact hw
end Go.Sx.Tryd
end
section
namespace Go.Sx.Tryd
open Go.Proofs
theorem pre_rol3 {xss : List (List Int)} {ms : List Int} (h1 : xss.length ≤ maxLen) (h2 : ∀ xs ∈ xss, xs.length ≤ maxLen ∧ ∀ x ∈ xs, isInt .u8 x) (h3 : ms.length ≤ maxLen) : xss.length ≤ 9223372036854775807 ∧ (∀ xs ∈ xss, xs.length ≤ 9223372036854775807 ∧ ∀ a ∈ xs, InB a) ∧ ms.length ≤ 9223372036854775807 :=
  ⟨(pre_rol h1 h2).1, (pre_rol h1 h2).2, len_of h3⟩
end Go.Sx.Tryd
end
