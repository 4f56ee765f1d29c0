/-
  Part of the proof of a statement: the means.
-/
import Derived.Test.YtnnkakbnmhahjaaDoorX11a
import Derived.Test.YtnnkakbnmhahjaaDoorX8
set_option linter.unusedSectionVars false
set_option linter.unusedVariables false
set_option linter.unusedSimpArgs false
set_option linter.deprecated false
section
namespace Go.Sx
theorem good_frp {args : List SVal} {p : Prop} {k : IntKind} {n : Nat} {s : List Int} {b : Bool} {post : List Int × Nat → Prop} (hc : IdsLtL noId args) (h : p → ∃ x, post x) : PR.Good ⟨p, List Int × Nat, post, fun z => .frp [.row k n s, .fr .u8 z.1 z.2, .bs b]⟩ args :=
  ⟨fun _ => ⟨trivial, trivial, trivial, trivial⟩, (fun E x b q hq => by simp [place, place.placeL] at hq; rcases hq with rfl | rfl <;> exact ⟨by simp, by simp⟩), fun _ => hc, h⟩
end Go.Sx
namespace Go.Sx.Tryd
open Go.Proofs
def few3 (xss : List (List Int)) : Bool := decide (∀ i < xss.length, (xss.getD i []).length ≤ 300) && decide (xss.length ≤ 12)
def s30 : PSpec := fun args => match args with
  | [.rop (.agg [.row .u64 25 s, .roi .u8 r, .bs tells]) (.l 0)] => ⟨∀ _ : Unit, s.length = 25 ∧ r.length ≤ 140737488355328, List Int × Nat, fun z => z.1 = r ∧ z.1.length ≤ z.2, fun z => .frp [.row .u64 25 s, .fr .u8 z.1 z.2, .bs tells]⟩
  | _ => PR.none
set_option maxHeartbeats 4000000 in
theorem c30 : Ctr Tryd.prog T glob 30 s30 := by
  refine ctr_of T_ok glob_ids mixed [(54, s54)] [] (c_cons c54 c_nil) i_nil  Tryd.func30 (by rfl) (by kernel_rfl) Tryd.call30 ?_ ?_
  · intro args; unfold s30; split
    · exact good_frp ⟨⟨trivial, trivial, trivial, trivial⟩, trivial⟩ fun _ => ⟨(_, List.length _), rfl, Nat.le_refl _⟩
    · exact PR.good_none
  · intro P Ω hΩ hE hI hm args pr hs hp Q hQ
    unfold s30 at hs
    split at hs <;> subst hs <;> try (exact hp.elim)
    rename_i s r tells
    obtain ⟨ls, lr⟩ := hp ()
    refine ⟨1000, ?_⟩
    cbv
    constructor
    · exact fun _ _ => lr
    intro z hz
    obtain ⟨r2, c2⟩ := z
    obtain ⟨h1, h2⟩ : r2 = r ∧ r2.length ≤ c2 := hz
    have hl2 : Ω.len r2 = r2.length := by subst hΩ; rfl
    cbv
    refine hQ (r2, c2) _ _ _ ⟨h1, h2⟩ ?_
    refine ⟨⟨⟨rfl, rfl, rfl⟩, ⟨rfl, rfl, by show 0 + Ω.len r2 ≤ r2.length; omega, ?_⟩, rfl, trivial⟩, rfl, rfl⟩
    subst hΩ; exact List.take_length.symm
def s39 : PSpec := fun args => match args with
  | [.roi .u8 xs, .roi .u8 ys] => ⟨∀ _ : Unit, xs.length < 4611686018427387904 ∧ ys.length < 4611686018427387904, Bool, fun b => b = (xs == ys), fun b => .bs b⟩
  | _ => PR.none
set_option maxHeartbeats 4000000 in
theorem c39 : Ctr Tryd.prog T glob 39 s39 := by
  refine ctr_of T_ok glob_ids mixed [] [] c_nil i_nil  Tryd.func39 (by rfl) (by kernel_rfl) Tryd.call39 ?_ ?_
  · intro args; unfold s39; split
    · exact good_bool ⟨trivial, trivial, trivial⟩ fun _ => ⟨_, rfl⟩
    · exact PR.good_none
  · intro P Ω hΩ hE hI hm args pr hs hp Q hQ
    unfold s39 at hs
    split at hs <;> subst hs <;> try (exact hp.elim)
    rename_i xs ys
    obtain ⟨lx, ly⟩ := hp ()
    refine ⟨1000, ?_⟩
    cbv
    constructor
    · intro hb
      cbv
      rw [hΩ] at hb; simp (disch := omega) only [Om.real, nc, Nat.succ_eq_add_one, Int.ofNat_eq_natCast, Int.toNat_natCast, ia_nn, ia_nl, ia_ln, is_nn, is_nl, is_ln, im_nn, im_nl, im_ln, iq_nn, iq_nl, ir_nn, ir_nl, cl_nn, cl_nl, cl_ln, cle_nn, cle_nl, cle_ln, cg_nn, cg_nl, cg_ln, cge_nn, cge_nl, ce_nn, ce_nl, cn_nn, cn_nl, decide_eq_true_eq, decide_eq_false_iff_not] at hb
      refine hQ _ _ _ _ ?_ rfl
      show false = (xs == ys)
      cases h3 : xs == ys with
      | false => rfl
      | true => exact absurd (congrArg List.length (eq_of_beq h3)) hb
    · intro hb
      cbv
      rw [hΩ] at hb; simp (disch := omega) only [Om.real, nc, Nat.succ_eq_add_one, Int.ofNat_eq_natCast, Int.toNat_natCast, ia_nn, ia_nl, ia_ln, is_nn, is_nl, is_ln, im_nn, im_nl, im_ln, iq_nn, iq_nl, ir_nn, ir_nl, cl_nn, cl_nl, cl_ln, cle_nn, cle_nl, cle_ln, cg_nn, cg_nl, cg_ln, cge_nn, cge_nl, ce_nn, ce_nl, cn_nn, cn_nl, decide_eq_true_eq, decide_eq_false_iff_not] at hb
      have hlen : xs.length = ys.length := by omega
      refine loop_inv hE hI hm (fun i : Nat => (mkT 26 [(0, .roi .u8 xs), (1, .roi .u8 ys), (5, .int .i64 i)], [])) (fun i => i ≤ xs.length ∧ xs.take i = ys.take i) (fun i => xs.length - i) 0 ⟨0, [], ⟨Nat.zero_le _, rfl⟩, Nat.le_refl _, by cbv⟩ fun i hi => ⟨1000, ?_⟩
      cbv
      constructor
      · intro hc
        cbv
        rw [hΩ] at hc; simp (disch := omega) only [Om.real, nc, Nat.succ_eq_add_one, Int.ofNat_eq_natCast, Int.toNat_natCast, ia_nn, ia_nl, ia_ln, is_nn, is_nl, is_ln, im_nn, im_nl, im_ln, iq_nn, iq_nl, ir_nn, ir_nl, cl_nn, cl_nl, cl_ln, cle_nn, cle_nl, cle_ln, cg_nn, cg_nl, cg_ln, cge_nn, cge_nl, ce_nn, ce_nl, cn_nn, cn_nl, decide_eq_true_eq, decide_eq_false_iff_not] at hc
        repeat (refine ⟨by ((try intro _); (try subst hΩ); simp (disch := omega) only [Om.real, nc, Nat.succ_eq_add_one, Int.ofNat_eq_natCast, Int.toNat_natCast, ia_nn, ia_nl, ia_ln, is_nn, is_nl, is_ln, im_nn, im_nl, im_ln, iq_nn, iq_nl, ir_nn, ir_nl, cl_nn, cl_nl, cl_ln, cle_nn, cle_nl, cle_ln, cg_nn, cg_nl, cg_ln, cge_nn, cge_nl, ce_nn, ce_nl, cn_nn, cn_nl, SN.v]; omega), ?_⟩)
        constructor
        · intro hne
          cbv
          refine hQ _ _ _ _ ?_ rfl
          subst hΩ
          have h1 : (xs.getD i 0 != ys.getD i 0) = true := hne
          show false = (xs == ys)
          cases h3 : xs == ys with
          | false => rfl
          | true => rw [eq_of_beq h3] at h1; simp at h1
        · intro hne
          cbv
          refine ⟨i + 1, [], ⟨hc, ?_⟩, by omega, Nat.zero_le _, ?_⟩
          · subst hΩ
            have h1 : (xs.getD i 0 != ys.getD i 0) = false := hne
            rw [bne_eq_false_iff_eq] at h1
            rw [List.take_succ_eq_append_getElem hc, List.take_succ_eq_append_getElem (by omega), hi.2]
            have e1 : xs.getD i 0 = xs[i] := by simp [List.getD, hc]
            have e2 : ys.getD i 0 = ys[i]'(by omega) := by simp [List.getD, show i < ys.length by omega]
            rw [← e1, ← e2, h1]
          · cbv
            subst hΩ
            simp (disch := omega) only [Om.real, nc, Nat.succ_eq_add_one, Int.ofNat_eq_natCast, Int.toNat_natCast, ia_nn, ia_nl, ia_ln, is_nn, is_nl, is_ln, im_nn, im_nl, im_ln, iq_nn, iq_nl, ir_nn, ir_nl, cl_nn, cl_nl, cl_ln, cle_nn, cle_nl, cle_ln, cg_nn, cg_nl, cg_ln, cge_nn, cge_nl, ce_nn, ce_nl, cn_nn, cn_nl]
      · intro hc
        cbv
        rw [hΩ] at hc; simp (disch := omega) only [Om.real, nc, Nat.succ_eq_add_one, Int.ofNat_eq_natCast, Int.toNat_natCast, ia_nn, ia_nl, ia_ln, is_nn, is_nl, is_ln, im_nn, im_nl, im_ln, iq_nn, iq_nl, ir_nn, ir_nl, cl_nn, cl_nl, cl_ln, cle_nn, cle_nl, cle_ln, cg_nn, cg_nl, cg_ln, cge_nn, cge_nl, ce_nn, ce_nl, cn_nn, cn_nl, decide_eq_true_eq, decide_eq_false_iff_not] at hc
        refine hQ _ _ _ _ ?_ rfl
        have : i = xs.length := by have := hi.1; omega
        subst this
        have h2 := hi.2
        rw [List.take_length, hlen, List.take_length] at h2
        show true = (xs == ys)
        rw [h2]
        simp
def s34 : PSpec := fun args => match args with
  | [.rol .u8 xss] => ⟨∀ _ : Unit, xss.length ≤ 9223372036854775807 ∧ (∀ i < xss.length, (xss.getD i []).length ≤ 9223372036854775807), Bool, fun b => b = few3 xss, fun b => .bs b⟩
  | _ => PR.none
set_option maxHeartbeats 4000000 in
theorem c34 : Ctr Tryd.prog T glob 34 s34 := by
  refine ctr_of T_ok glob_ids mixed [] [] c_nil i_nil  Tryd.func34 (by rfl) (by kernel_rfl) Tryd.call34 ?_ ?_
  · intro args; unfold s34; split
    · exact good_bool ⟨trivial, trivial⟩ fun _ => ⟨_, rfl⟩
    · exact PR.good_none
  · intro P Ω hΩ hE hI hm args pr hs hp Q hQ
    unfold s34 at hs
    split at hs <;> subst hs <;> try (exact hp.elim)
    rename_i xss
    obtain ⟨lx, ly⟩ := hp ()
    refine ⟨1000, ?_⟩
    cbv
    refine loop_inv hE hI hm (fun i : Nat => (mkT 19 [(0, .rol .u8 xss), (3, .int .i64 i)], [])) (fun i => i ≤ xss.length ∧ ∀ j < i, (xss.getD j []).length ≤ 300) (fun i => xss.length - i) 0 ⟨0, [], ⟨Nat.zero_le _, fun _ h => absurd h (Nat.not_lt_zero _)⟩, Nat.le_refl _, by cbv⟩ fun i hi => ⟨1000, ?_⟩
    cbv
    constructor
    · intro hc
      cbv
      rw [hΩ] at hc; simp (disch := omega) only [Om.real, nc, Nat.succ_eq_add_one, Int.ofNat_eq_natCast, Int.toNat_natCast, ia_nn, ia_nl, ia_ln, is_nn, is_nl, is_ln, im_nn, im_nl, im_ln, iq_nn, iq_nl, ir_nn, ir_nl, cl_nn, cl_nl, cl_ln, cle_nn, cle_nl, cle_ln, cg_nn, cg_nl, cg_ln, cge_nn, cge_nl, ce_nn, ce_nl, cn_nn, cn_nl, decide_eq_true_eq, decide_eq_false_iff_not] at hc
      repeat (refine ⟨by ((try intro _); (try subst hΩ); simp (disch := omega) only [Om.real, nc, Nat.succ_eq_add_one, Int.ofNat_eq_natCast, Int.toNat_natCast, ia_nn, ia_nl, ia_ln, is_nn, is_nl, is_ln, im_nn, im_nl, im_ln, iq_nn, iq_nl, ir_nn, ir_nl, cl_nn, cl_nl, cl_ln, cle_nn, cle_nl, cle_ln, cg_nn, cg_nl, cg_ln, cge_nn, cge_nl, ce_nn, ce_nl, cn_nn, cn_nl, SN.v]; omega), ?_⟩)
      constructor
      · intro hg
        cbv
        rw [hΩ] at hg; simp (disch := omega) only [Om.real, nc, Nat.succ_eq_add_one, Int.ofNat_eq_natCast, Int.toNat_natCast, ia_nn, ia_nl, ia_ln, is_nn, is_nl, is_ln, im_nn, im_nl, im_ln, iq_nn, iq_nl, ir_nn, ir_nl, cl_nn, cl_nl, cl_ln, cle_nn, cle_nl, cle_ln, cg_nn, cg_nl, cg_ln, cge_nn, cge_nl, ce_nn, ce_nl, cn_nn, cn_nl, decide_eq_true_eq, decide_eq_false_iff_not] at hg
        refine hQ _ _ _ _ ?_ rfl
        show false = few3 xss
        have : ¬ ∀ i < xss.length, (xss.getD i []).length ≤ 300 := fun h => by have := h i hc; omega
        rw [few3, decide_eq_false this]; rfl
      · intro hg
        cbv
        rw [hΩ] at hg; simp (disch := omega) only [Om.real, nc, Nat.succ_eq_add_one, Int.ofNat_eq_natCast, Int.toNat_natCast, ia_nn, ia_nl, ia_ln, is_nn, is_nl, is_ln, im_nn, im_nl, im_ln, iq_nn, iq_nl, ir_nn, ir_nl, cl_nn, cl_nl, cl_ln, cle_nn, cle_nl, cle_ln, cg_nn, cg_nl, cg_ln, cge_nn, cge_nl, ce_nn, ce_nl, cn_nn, cn_nl, decide_eq_true_eq, decide_eq_false_iff_not] at hg
        refine ⟨i + 1, [], ⟨hc, fun j hj => ?_⟩, by omega, Nat.zero_le _, ?_⟩
        · rcases Nat.lt_succ_iff_lt_or_eq.1 hj with h | h
          · exact hi.2 j h
          · subst h; omega
        · cbv
          subst hΩ
          simp (disch := omega) only [Om.real, nc, Nat.succ_eq_add_one, Int.ofNat_eq_natCast, Int.toNat_natCast, ia_nn, ia_nl, ia_ln, is_nn, is_nl, is_ln, im_nn, im_nl, im_ln, iq_nn, iq_nl, ir_nn, ir_nl, cl_nn, cl_nl, cl_ln, cle_nn, cle_nl, cle_ln, cg_nn, cg_nl, cg_ln, cge_nn, cge_nl, ce_nn, ce_nl, cn_nn, cn_nl]
    · intro hc
      cbv
      rw [hΩ] at hc; simp (disch := omega) only [Om.real, nc, Nat.succ_eq_add_one, Int.ofNat_eq_natCast, Int.toNat_natCast, ia_nn, ia_nl, ia_ln, is_nn, is_nl, is_ln, im_nn, im_nl, im_ln, iq_nn, iq_nl, ir_nn, ir_nl, cl_nn, cl_nl, cl_ln, cle_nn, cle_nl, cle_ln, cg_nn, cg_nl, cg_ln, cge_nn, cge_nl, ce_nn, ce_nl, cn_nn, cn_nl, decide_eq_true_eq, decide_eq_false_iff_not] at hc
      refine hQ _ _ _ _ ?_ rfl
      subst hΩ
      have : ∀ i < xss.length, (xss.getD i []).length ≤ 300 := fun j hj => hi.2 j (by have := hi.1; omega)
      show cmpL .leq (xss.length : Int) 12 = few3 xss
      rw [few3, decide_eq_true this, Bool.true_and]
      exact cle_nl _ 12
def s44 : PSpec := fun args => match args with
  | [.rol .u8 xss] => ⟨∀ _ : Unit, xss.length < 4611686018427387904 ∧ xss.flatten.length ≤ 70368744177664, List Int × Nat, fun z => z.1 = xss.flatten ∧ z.1.length ≤ z.2, fun z => .fr .u8 z.1 z.2⟩
  | _ => PR.none
set_option maxHeartbeats 4000000 in
theorem c44 : Ctr Tryd.prog T glob 44 s44 := by
  refine ctr_of T_ok glob_ids mixed [] [] c_nil i_nil  Tryd.func44 (by rfl) (by kernel_rfl) Tryd.call44 ?_ ?_
  · intro args; unfold s44; split
    · exact good_fr ⟨trivial, trivial⟩ fun _ => ⟨(List.flatten _, (List.flatten _).length), rfl, Nat.le_refl _⟩
    · exact PR.good_none
  · intro P Ω hΩ hE hI hm args pr hs hp Q hQ
    unfold s44 at hs
    split at hs <;> subst hs <;> try (exact hp.elim)
    rename_i xss
    obtain ⟨lx, ly⟩ := hp ()
    refine ⟨1000, ?_⟩
    obtain ⟨L, hL⟩ : ∃ L, L = xss.length := ⟨_, rfl⟩
    have hL2 : Ω.len2 xss = L := by subst hΩ; exact hL.symm
    cbv
    refine loop_inv hE hI hm (fun x : Nat × List Int × Nat × Nat => (mkT 18 [(0, .rol .u8 xss), (2, .val (.slice none 0 0)), (3, .sl 24 1 (.l 0) (.s x.2.2.1) (.s x.2.2.2)), (4, .int .i64 x.1)], [(24, .seq .u8 x.2.1)])) (fun x => x.1 ≤ L ∧ x.2.1 = (xss.take x.1).flatten ∧ x.2.2.1 = x.2.1.length ∧ x.2.2.1 ≤ x.2.2.2) (fun x => L - x.1) 1 ⟨(0, [], 0, 0), [none], ⟨Nat.zero_le _, by simp, rfl, Nat.le_refl _⟩, by decide, ?_⟩ fun x hj => ⟨1000, ?_⟩
    · cbv
    obtain ⟨i, a, la, ca⟩ := x
    obtain ⟨j1, j2, j3, j4⟩ : i ≤ L ∧ a = (xss.take i).flatten ∧ la = a.length ∧ la ≤ ca := hj
    cbv
    constructor
    · intro hc
      cbv
      rw [hΩ] at hc; simp (disch := omega) only [Om.real, nc, Nat.succ_eq_add_one, Int.ofNat_eq_natCast, Int.toNat_natCast, ia_nn, ia_nl, ia_ln, is_nn, is_nl, is_ln, im_nn, im_nl, im_ln, iq_nn, iq_nl, ir_nn, ir_nl, cl_nn, cl_nl, cl_ln, cle_nn, cle_nl, cle_ln, cg_nn, cg_nl, cg_ln, cge_nn, cge_nl, ce_nn, ce_nl, cn_nn, cn_nl, decide_eq_true_eq, decide_eq_false_iff_not] at hc
      repeat (refine ⟨by ((try intro _); (try subst hΩ); simp (disch := omega) only [Om.real, nc, Nat.succ_eq_add_one, Int.ofNat_eq_natCast, Int.toNat_natCast, ia_nn, ia_nl, ia_ln, is_nn, is_nl, is_ln, im_nn, im_nl, im_ln, iq_nn, iq_nl, ir_nn, ir_nl, cl_nn, cl_nl, cl_ln, cle_nn, cle_nl, cle_ln, cg_nn, cg_nl, cg_ln, cge_nn, cge_nl, ce_nn, ce_nl, cn_nn, cn_nl, SN.v]; omega), ?_⟩)
      have hi : i < xss.length := by omega
      have htk : (xss.take (i + 1)).flatten = a ++ xss.getD i [] := by
        rw [List.take_succ_eq_append_getElem hi, List.flatten_append, j2]
        simp [List.getD, hi]
      have h1 : (xss.take (i + 1)).flatten.length ≤ xss.flatten.length := by
        conv => rhs; rw [← List.take_append_drop (i + 1) xss, List.flatten_append, List.length_append]
        omega
      rw [htk, List.length_append] at h1
      obtain ⟨b, hb⟩ : ∃ b, b = xss.getD i [] := ⟨_, rfl⟩
      have hAt : Ω.at2 xss (Ω.toN (Int.ofNat i)) = b := by rw [hb]; subst hΩ; rfl
      have hLn : Ω.len (Ω.at2 xss (Ω.toN (Int.ofNat i))) = b.length := by rw [hAt]; subst hΩ; rfl
      rw [← hb] at h1 htk
      constructor
      · exact fun _ => by show (la + Ω.len (Ω.at2 xss (Ω.toN (Int.ofNat i)))) * 1 ≤ 140737488355328; rw [hLn]; omega
      constructor
      · exact fun _ => ⟨by show 0 + la * 1 ≤ a.length; omega, trivial⟩
      intro cap2 hcap2
      have hcap2 : la + b.length ≤ cap2 := by rw [← hLn]; exact hcap2
      obtain ⟨a2, ha2⟩ : ∃ a2, a2 = a ++ b := ⟨_, rfl⟩
      obtain ⟨l2, hl2⟩ : ∃ l2, l2 = la + b.length := ⟨_, rfl⟩
      have f0 : Ω.nadd la (Ω.len (Ω.at2 xss (Ω.toN (Int.ofNat i)))) = l2 := by rw [hLn, hl2]; subst hΩ; rfl
      have f1 : Ω.cat (Ω.sub a 0 la) (Ω.at2 xss (Ω.toN (Int.ofNat i))) = a2 := by
        rw [hAt, ha2]; subst hΩ
        show (a.drop 0).take la ++ b = _
        rw [List.drop_zero, j3, List.take_length]
      cbv
      refine ⟨(i + 1, a2, l2, cap2), [some 104], ⟨by show i + 1 ≤ L; omega, by show a2 = _; rw [htk, ha2], by show l2 = a2.length; rw [ha2, List.length_append, hl2, j3], by show l2 ≤ cap2; omega⟩, by show L - (i + 1) < L - i; omega, by show 1 ≤ 8 * 1; omega, ?_⟩
      cbv
      refine ⟨f0, ?_, f1⟩
      subst hΩ
      exact ia_nl i 1 (by show i + 1 < 9223372036854775808; omega)
    · intro hc
      cbv
      rw [hΩ] at hc; simp (disch := omega) only [Om.real, nc, Nat.succ_eq_add_one, Int.ofNat_eq_natCast, Int.toNat_natCast, ia_nn, ia_nl, ia_ln, is_nn, is_nl, is_ln, im_nn, im_nl, im_ln, iq_nn, iq_nl, ir_nn, ir_nl, cl_nn, cl_nl, cl_ln, cle_nn, cle_nl, cle_ln, cg_nn, cg_nl, cg_ln, cge_nn, cge_nl, ce_nn, ce_nl, cn_nn, cn_nl, decide_eq_true_eq, decide_eq_false_iff_not] at hc
      have hiL : i = xss.length := by omega
      have ha : a = xss.flatten := by rw [j2, hiL, List.take_length]
      refine hQ (a, ca) _ _ _ ⟨ha, by show a.length ≤ ca; omega⟩ ?_
      refine ⟨rfl, rfl, ?_, ?_⟩
      · show 0 + la ≤ a.length
        omega
      · subst hΩ
        show a = (a.drop 0).take la
        rw [List.drop_zero, List.take_of_length_le (by omega)]
end Go.Sx.Tryd
end
section
namespace Go.Sx.Tryd
open Go.Proofs
theorem sum_nil {n : Int} {xs : List Int} {z : RdRes} (h : (s25 [.int .i64 n, .roi .u8 xs]).post z) (hb : ¬ badN n) : z.er = 0 ∧ z.out = tl [] n.toNat ∧ z.out.length ≤ z.c := by
  have h : if badN n then z.out = [] ∧ z.er = 10 else z.er = 0 ∧ z.out = (tellR (hrdS []) (hrdR []) false ++ sq (tellS (hrdS []) (hrdR []) false) z.k).take n.toNat ∧ n.toNat ≤ 136 + 136 * z.k ∧ z.out.length ≤ z.c := h
  rw [if_neg hb] at h
  exact ⟨h.1, by rw [h.2.1]; exact tail_tl _ h.2.2.1, h.2.2.2⟩
set_option maxRecDepth 20000
def s35 : PSpec := fun args => match args with
  | [] => ⟨True, Bool, fun b => b = true, fun b => .bs b⟩
  | _ => PR.none
noncomputable def i35 : List (FuncId × Func) := [(27, Tryd.f27), (33, Tryd.f33), (37, Tryd.f37), (43, Tryd.f43)]
set_option maxHeartbeats 4000000 in
theorem c35 : Ctr Tryd.prog T glob 35 s35 := by
  refine ctr_ofM T_ok glob_ids mixed [(25, s25), (30, s30), (39, s39)] i35 [(29, m29)] (c_cons c25 (c_cons c30 (c_cons c39 c_nil))) (i_cons Tryd.call27 Tryd.func27 (by kernel_rfl) (i_cons Tryd.call33 Tryd.func33 (by kernel_rfl) (i_cons Tryd.call37 Tryd.func37 (by kernel_rfl) (i_cons Tryd.call43 Tryd.func43 (by kernel_rfl) i_nil)))) (m_cons mc29 m_nil) Tryd.func35 (by rfl) (by kernel_rfl) Tryd.call35 ?_ ?_
  · intro args; unfold s35; split
    · exact good_bool trivial fun _ => ⟨_, rfl⟩
    · exact PR.good_none
  · intro P Ω hΩ hE hI hm args pr hs hp Q hQ
    unfold s35 at hs
    split at hs <;> subst hs <;> try (exact hp.elim)
    refine ⟨1000, ?_⟩
    cbv
    constructor
    · exact fun _ _ => rfl
    intro z hz
    obtain ⟨o1, oc1, s1, r1, c1, k1, er1, tl1⟩ := z
    have hb1 := sum_nil (n := 64) (xs := []) hz (by decide)
    have a1 : er1 = 0 := hb1.1
    have a2 : o1 = tl [] 64 := hb1.2.1
    have a3 : o1.length ≤ oc1 := hb1.2.2
    obtain ⟨w64, hw64⟩ : ∃ w, w = tl [] 64 := ⟨_, rfl⟩
    rw [← hw64] at a2
    clear hb1
    clear hz
    cbv
    constructor
    · exact fun _ _ => rfl
    intro z hz
    obtain ⟨o2, oc2, s2, r2, c2, k2, er2, tl2⟩ := z
    have hb2 := sum_nil (n := 64) (xs := []) hz (by decide)
    have b1 : er2 = 0 := hb2.1
    have b2 : o2 = w64 := hb2.2.1.trans hw64.symm
    have b3 : o2.length ≤ oc2 := hb2.2.2
    clear hb2
    clear hz
    cbv
    constructor
    · exact fun _ => ⟨⟨trivial, trivial, trivial, trivial⟩, trivial⟩
    constructor
    · exact fun _ _ => ⟨rfl, Nat.zero_le _⟩
    intro z hz
    obtain ⟨r3, c3⟩ := z
    obtain ⟨hr3, hc3⟩ : r3 = [] ∧ r3.length ≤ c3 := hz
    have hl0 : Ω.len r3 = 0 := by rw [hr3]; subst hΩ; rfl
    have hs0 : Ω.sub r3 0 (Ω.len r3) = [] := by rw [hr3]; subst hΩ; rfl
    cbv
    constructor
    · exact fun _ => ⟨⟨by show 0 + Ω.len r3 ≤ r3.length; omega, trivial⟩, trivial, trivial⟩
    constructor
    · exact fun _ _ => ⟨rfl, fun _ => by show (Ω.sub r3 0 (Ω.len r3)).length < 136; rw [hs0]; decide, by show (Ω.sub r3 0 (Ω.len r3)).length ≤ c3; rw [hs0]; exact Nat.zero_le _⟩
    intro z hz
    obtain ⟨o4, oc4, s4, r4, c4, k4, er4, tl4⟩ := z
    have hd := read_anyE (M := []) (t := 0) (n := 64) (r := []) (hst_false hrdS_nil hrdR_nil) hs0 rfl hz (by decide)
    have d1 : er4 = 0 := hd.1
    have d2 : o4 = w64 := hd.2.2.1.trans (by rw [hw64]; rfl)
    clear hz hd
    have lw : w64.length = 64 := by rw [hw64, tl_len]
    have lo1 : Ω.len o1 = o1.length := by subst hΩ; rfl
    have lo2 : Ω.len o2 = o2.length := by subst hΩ; rfl
    have lo4 : Ω.len o4 = o4.length := by subst hΩ; rfl
    have so1 : Ω.sub o1 0 (Ω.len o1) = w64 := by rw [← a2]; subst hΩ; exact List.take_length
    have so2 : Ω.sub o2 0 (Ω.len o2) = w64 := by rw [← b2]; subst hΩ; exact List.take_length
    have so4 : Ω.sub o4 0 (Ω.len o4) = w64 := by rw [← d2]; subst hΩ; exact List.take_length
    cbv
    constructor
    rotate_left
    · intro h
      have h' : False := by (rw [a1] at h); first | done | (subst hΩ; exact Bool.noConfusion (show true = false from h))
      contradiction
    intro _
    cbv
    constructor
    rotate_left
    · intro h
      have h' : False := by (rw [b1] at h); first | done | (subst hΩ; exact Bool.noConfusion (show true = false from h))
      contradiction
    intro _
    cbv
    constructor
    rotate_left
    · intro h
      have h' : False := by (rw [d1] at h); first | done | (subst hΩ; exact Bool.noConfusion (show true = false from h))
      contradiction
    intro _
    cbv
    constructor
    rotate_left
    · intro h
      have h' : False := by (have h : Ω.cmp .eql (Ω.ofN (Ω.len o1)) 64 = false := h; rw [lo1, a2, lw] at h; subst hΩ; exact Bool.noConfusion (show true = false from h)); first | done | (subst hΩ; exact Bool.noConfusion (show true = false from h))
      contradiction
    intro _
    cbv
    constructor
    · exact fun _ => ⟨by show 0 + Ω.len o1 ≤ o1.length; omega, by show 0 + Ω.len o2 ≤ o2.length; omega, trivial⟩
    constructor
    · exact fun _ _ => ⟨by show (Ω.sub o1 0 (Ω.len o1)).length < _; rw [so1, lw]; decide, by show (Ω.sub o2 0 (Ω.len o2)).length < _; rw [so2, lw]; decide⟩
    intro q1 hq1
    have hq1 : q1 = true := by
      have h : q1 = (Ω.sub o1 0 (Ω.len o1) == Ω.sub o2 0 (Ω.len o2)) := hq1
      rw [h, so1, so2]; simp
    cbv
    constructor
    rotate_left
    · intro h
      have h' : False := Bool.noConfusion (Eq.trans (Eq.symm (hq1)) h)
      contradiction
    intro _
    cbv
    constructor
    · exact fun _ => ⟨by show 0 + Ω.len o1 ≤ o1.length; omega, by show 0 + Ω.len o4 ≤ o4.length; omega, trivial⟩
    constructor
    · exact fun _ _ => ⟨by show (Ω.sub o1 0 (Ω.len o1)).length < _; rw [so1, lw]; decide, by show (Ω.sub o4 0 (Ω.len o4)).length < _; rw [so4, lw]; decide⟩
    intro q2 hq2
    have hq2 : q2 = true := by
      have h : q2 = (Ω.sub o1 0 (Ω.len o1) == Ω.sub o4 0 (Ω.len o4)) := hq2
      rw [h, so1, so4]; simp
    cbv
    refine hQ _ _ _ _ ?_ rfl
    exact hq2
end Go.Sx.Tryd
end
section
namespace Go.Sx.Tryd
open Go.Proofs
theorem few3_facts {xss : List (List Int)} (h : few3 xss = true) : xss.length ≤ 12 ∧ xss.flatten.length ≤ 3600 := by
  rw [few3, Bool.and_eq_true, decide_eq_true_eq, decide_eq_true_eq] at h
  refine ⟨h.2, ?_⟩
  have key : ∀ l : List (List Int), (∀ x ∈ l, x.length ≤ 300) → l.flatten.length ≤ 300 * l.length := by
    intro l
    induction l with
    | nil => intro _; exact Nat.le_refl _
    | cons a l ih =>
      intro hl
      have h1 := hl a (List.mem_cons_self ..)
      have h2 := ih fun x hx => hl x (List.mem_cons_of_mem _ hx)
      rw [List.flatten_cons, List.length_append, List.length_cons]; omega
  have h3 := key xss fun x hx => by
    obtain ⟨i, hi, rfl⟩ := List.mem_iff_getElem.1 hx
    have := h.1 i hi
    rwa [show xss.getD i [] = xss[i] from by simp [List.getD, hi]] at this
  omega
theorem read64 {M s r r' : List Int} {c : Nat} {z : RdRes} (hs : s = hrdS M) (hr2 : r = hrdR M) (hr : r' = r) (h : (m29 [.row .u64 25 s, .fr .u8 r' c, .bs false] [.int .i64 64]).post z) : z.er = 0 ∧ z.out = tl M 64 := by
  subst hr
  have h1 := read_of hs hr2 h (by decide)
  have e : Int.toNat 64 = 64 := rfl
  rw [e] at h1
  exact ⟨h1.1, h1.2.2.1⟩
theorem ref_of {n' : Int} {m : Nat} {M : List Int} {xss' : List (List Int)} {z : List Int × Nat} (hn : n' = ((m : Nat) : Int)) (hx : xss' = [M]) (h : (s26 [.int .i64 n', .rol .u8 xss']).post z) : z.1 = told M m ∧ z.1.length ≤ z.2 := by
  subst hn; subst hx
  have h : z.1 = told [M].flatten ((m : Int)).toNat ∧ z.1.length ≤ z.2 := h
  rw [Int.toNat_natCast, show [M].flatten = M by simp] at h
  exact h
theorem ref_pre {n' : Int} {m : Nat} {M : List Int} {xss' : List (List Int)} (hn : n' = ((m : Nat) : Int)) (hx : xss' = [M]) (h1 : m ≤ 1099511627776) (h2 : M.length ≤ 70368744177664) : 0 ≤ n' ∧ n' ≤ 1099511627776 ∧ xss'.length < 4611686018427387904 ∧ xss'.flatten.length ≤ 70368744177664 := by
  subst hn; subst hx
  have e : [M].flatten = M := by simp
  rw [e]
  exact ⟨Int.natCast_nonneg _, by omega, by show 1 < _; decide, h2⟩
theorem sum64 {xss xss' : List (List Int)} {z : RdRes} (hx : xss'.flatten = xss.flatten) (h : (s25 [.int .i64 64, .rol .u8 xss']).post z) : z.er = 0 ∧ z.out = tl xss.flatten 64 := by
  have h1 := (sum_of h).2 (by decide)
  have e : Int.toNat 64 = 64 := rfl
  rw [e, hx] at h1
  exact ⟨h1.1, h1.2.1⟩
theorem ref64 {xss : List (List Int)} {z : List Int × Nat} (h : (s26 [.int .i64 64, .rol .u8 xss]).post z) : z.1 = told xss.flatten 64 := by
  have h : z.1 = told xss.flatten (Int.toNat 64) ∧ z.1.length ≤ z.2 := h
  have e : Int.toNat 64 = 64 := rfl
  rw [e] at h
  exact h.1
theorem ref_pre2 {xss : List (List Int)} (h1 : xss.length < 4611686018427387904) (h2 : xss.flatten.length ≤ 70368744177664) : (0 : Int) ≤ 64 ∧ (64 : Int) ≤ 1099511627776 ∧ xss.length < 4611686018427387904 ∧ xss.flatten.length ≤ 70368744177664 := ⟨by decide, by decide, h1, h2⟩
structure PSt where
  i : Nat
  M : List Int
  lM : Nat
  cM : Nat
  s : List Int
  r : List Int
  R : Nat
  c : Nat
  cl : Bool
  K : List Int
  lK : Nat
  cK : Nat
  ks : List Int
  kr : List Int
  kR : Nat
  kc : Nat
/-- What a copy holds. -/
def PK (xss : List (List Int)) (t0 : Int) (i : Nat) (K : List Int) (lK cK : Nat) (ks kr : List Int) (kR kc : Nat) : Prop :=
  ks = hrdS K ∧ kr = hrdR K ∧ kR = kr.length ∧ kR ≤ kc ∧ ∃ i0, i0 < i ∧ (i0 : Int) = t0
def PInv (xss : List (List Int)) (t0 : Int) (x : PSt) : Prop :=
  x.i ≤ xss.length ∧ x.lM = x.M.length ∧ x.lM ≤ x.cM ∧ x.s = hrdS x.M ∧ x.r = hrdR x.M ∧ x.R = x.r.length ∧ x.R ≤ x.c ∧ x.M.length ≤ (xss.take x.i).flatten.length ∧ (∀ a ∈ x.M, InB a) ∧ x.lK = x.K.length ∧ x.lK ≤ x.cK ∧ x.K.length ≤ 3600 ∧ (∀ a ∈ x.K, InB a) ∧
    (x.cl = false → x.K = []) ∧ (x.cl = true → PK xss t0 x.i x.K x.lK x.cK x.ks x.kr x.kR x.kc)
theorem PK_up {xss : List (List Int)} {t0 : Int} {i : Nat} {K : List Int} {lK cK : Nat} {ks kr : List Int} {kR kc : Nat} (h : PK xss t0 i K lK cK ks kr kR kc) : PK xss t0 (i + 1) K lK cK ks kr kR kc := by
  obtain ⟨h1, h2, h3, h4, i0, h5, h6⟩ := h
  exact ⟨h1, h2, h3, h4, i0, by omega, h6⟩
set_option maxRecDepth 20000
def s13 : PSpec := fun args => match args with
  | [.rol .u8 xss, .row .i64 2 tw] => ⟨∀ _ : Unit, xss.length ≤ 9223372036854775807 ∧ (∀ xs ∈ xss, xs.length ≤ 9223372036854775807 ∧ ∀ a ∈ xs, InB a) ∧ tw.length = 2, Bool, fun b => b = true, fun b => .bs b⟩
  | _ => PR.none
noncomputable def i13 : List (FuncId × Func) := [(27, Tryd.f27), (33, Tryd.f33), (36, Tryd.f36), (37, Tryd.f37), (38, Tryd.f38), (40, Tryd.f40), (41, Tryd.f41), (42, Tryd.f42), (43, Tryd.f43), (55, Tryd.f55)]
set_option maxHeartbeats 4000000 in
theorem c13 : Ctr Tryd.prog T glob 13 s13 := by
  refine ctr_ofM T_ok glob_ids mixed [(25, s25), (26, s26), (30, s30), (34, s34), (35, s35), (39, s39), (44, s44)] i13 [(28, m28), (29, m29)] (c_cons c25 (c_cons c26 (c_cons c30 (c_cons c34 (c_cons c35 (c_cons c39 (c_cons c44 c_nil))))))) (i_cons Tryd.call27 Tryd.func27 (by kernel_rfl) (i_cons Tryd.call33 Tryd.func33 (by kernel_rfl) (i_cons Tryd.call36 Tryd.func36 (by kernel_rfl) (i_cons Tryd.call37 Tryd.func37 (by kernel_rfl) (i_cons Tryd.call38 Tryd.func38 (by kernel_rfl) (i_cons Tryd.call40 Tryd.func40 (by kernel_rfl) (i_cons Tryd.call41 Tryd.func41 (by kernel_rfl) (i_cons Tryd.call42 Tryd.func42 (by kernel_rfl) (i_cons Tryd.call43 Tryd.func43 (by kernel_rfl) (i_cons Tryd.call55 Tryd.func55 (by kernel_rfl) i_nil)))))))))) (m_cons mc28 (m_cons mc29 m_nil)) Tryd.func13 (by rfl) (by kernel_rfl) Tryd.call13 ?_ ?_
  · intro args; unfold s13; split
    · exact good_bool ⟨trivial, trivial, trivial⟩ fun _ => ⟨_, rfl⟩
    · exact PR.good_none
  · intro P Ω hΩ hE hI hm args pr hs hp Q hQ
    unfold s13 at hs
    split at hs <;> subst hs <;> try (exact hp.elim)
    rename_i xss tw
    obtain ⟨lx, ly, lt⟩ := hp ()
    refine ⟨1000, ?_⟩
    cbv
    constructor
    · exact fun _ _ => ⟨lx, fun i hi => (ly _ (getD_mem hi)).1⟩
    intro b hb
    have hb : b = few3 xss := hb
    cbv
    constructor
    · intro h1
      cbv
      constructor
      · exact fun _ => trivial
      intro w hw
      have hw : w = true := hw
      cbv
      refine hQ _ _ _ _ ?_ rfl
      exact hw
    · intro h1
      have hbt : b = true := by
        subst hΩ; cases b
        · exact Bool.noConfusion h1
        · rfl
      have hF := few3_facts (hb.symm.trans hbt)
      obtain ⟨L, hL⟩ : ∃ L, L = xss.length := ⟨_, rfl⟩
      have hL2 : Ω.len2 xss = L := by subst hΩ; exact hL.symm
      cbv
      refine loop_inv hE hI hm (fun x : PSt => match x.cl with | false => (mkT 158 [(0, .rol .u8 xss), (3, .ptr 0 (.l 0)), (4, .bl false), (5, .ptr 56 (.l 0)), (6, .sl 193 1 (.l 0) (.s x.lM) (.s x.cM)), (7, .sl 195 1 (.l 0) (.s x.lK) (.s x.cK)), (8, .val (.pointer none)), (9, .int .i64 x.i)], [(192, .agg [.row .u64 25 x.s, .sl 194 1 (.l 0) (.s x.R) (.s x.c), .bs false]), (56, .agg [.agg [.int .i64 x.lM], .ptr 192 (.l 0)]), (0, .row .i64 2 tw), (193, .seq .u8 x.M), (194, .seq .u8 x.r), (195, .seq .u8 x.K)]) | true => (mkT 158 [(0, .rol .u8 xss), (3, .ptr 0 (.l 0)), (4, .bl false), (5, .ptr 56 (.l 0)), (6, .sl 193 1 (.l 0) (.s x.lM) (.s x.cM)), (7, .sl 195 1 (.l 0) (.s x.lK) (.s x.cK)), (8, .ptr 196 (.l 0)), (9, .int .i64 x.i)], [(192, .agg [.row .u64 25 x.s, .sl 194 1 (.l 0) (.s x.R) (.s x.c), .bs false]), (56, .agg [.agg [.int .i64 x.lM], .ptr 192 (.l 0)]), (0, .row .i64 2 tw), (193, .seq .u8 x.M), (194, .seq .u8 x.r), (195, .seq .u8 x.K), (196, .agg [.agg [.int .i64 x.lK], .ptr 197 (.l 0)]), (197, .agg [.row .u64 25 x.ks, .sl 198 1 (.l 0) (.s x.kR) (.s x.kc), .bs false]), (198, .seq .u8 x.kr)])) (fun x => PInv xss (tw.getD 0 0) x) (fun x => L - x.i) 1 ⟨⟨0, [], 0, 0, List.replicate 25 0, [], 0, 0, false, [], 0, 0, [], [], 0, 0⟩, [some 88, none, none, none], ⟨Nat.zero_le _, rfl, Nat.le_refl _, hrdS_nil, hrdR_nil, rfl, Nat.le_refl _, Nat.zero_le _, fun a h => absurd h List.not_mem_nil, rfl, Nat.le_refl _, Nat.zero_le _, fun a h => absurd h List.not_mem_nil, fun _ => rfl, fun h => Bool.noConfusion h⟩, by decide, ?_⟩ fun x hj => ⟨1000, ?_⟩
      · cbv
        exact ⟨rfl, rfl, trivial⟩
      obtain ⟨i, M, lM, cM, s, r, R, c, cl, K, lK, cK, ks, kr, kR, kc⟩ := x
      obtain ⟨j1, j2, j3, j4, j5, j6, j7, j8, j9, k1, k2, k3, k4, k5, k6⟩ : i ≤ xss.length ∧ lM = M.length ∧ lM ≤ cM ∧ s = hrdS M ∧ r = hrdR M ∧ R = r.length ∧ R ≤ c ∧ M.length ≤ (xss.take i).flatten.length ∧ (∀ a ∈ M, InB a) ∧ lK = K.length ∧ lK ≤ cK ∧ K.length ≤ 3600 ∧ (∀ a ∈ K, InB a) ∧ (cl = false → K = []) ∧ (cl = true → PK xss (tw.getD 0 0) i K lK cK ks kr kR kc) := hj
      have hsub : Ω.sub r 0 R = r := by rw [j6]; subst hΩ; exact List.take_length
      cases cl
      · cbv
        constructor
        · intro hc
          cbv
          rw [hΩ] at hc; simp (disch := omega) only [Om.real, nc, Nat.succ_eq_add_one, Int.ofNat_eq_natCast, Int.toNat_natCast, ia_nn, ia_nl, ia_ln, is_nn, is_nl, is_ln, im_nn, im_nl, im_ln, iq_nn, iq_nl, ir_nn, ir_nl, cl_nn, cl_nl, cl_ln, cle_nn, cle_nl, cle_ln, cg_nn, cg_nl, cg_ln, cge_nn, cge_nl, ce_nn, ce_nl, cn_nn, cn_nl, decide_eq_true_eq, decide_eq_false_iff_not] at hc
          repeat (refine ⟨by ((try intro _); (try subst hΩ); simp (disch := omega) only [Om.real, nc, Nat.succ_eq_add_one, Int.ofNat_eq_natCast, Int.toNat_natCast, ia_nn, ia_nl, ia_ln, is_nn, is_nl, is_ln, im_nn, im_nl, im_ln, iq_nn, iq_nl, ir_nn, ir_nl, cl_nn, cl_nl, cl_ln, cle_nn, cle_nl, cle_ln, cg_nn, cg_nl, cg_ln, cge_nn, cge_nl, ce_nn, ce_nl, cn_nn, cn_nl, SN.v]; omega), ?_⟩)
          have hi : i < xss.length := by omega
          have htk : (xss.take (i + 1)).flatten = (xss.take i).flatten ++ xss.getD i [] := by
            rw [List.take_succ_eq_append_getElem hi, List.flatten_append]
            simp [List.getD, hi]
          obtain ⟨bb, hbb⟩ : ∃ bb, bb = xss.getD i [] := ⟨_, rfl⟩
          have h1' : (xss.take (i + 1)).flatten.length ≤ xss.flatten.length := by
            conv => rhs; rw [← List.take_append_drop (i + 1) xss, List.flatten_append, List.length_append]
            omega
          have hbr : ∀ a ∈ bb, InB a := by rw [hbb]; exact (ly _ (getD_mem hi)).2
          rw [← hbb] at htk
          have htl : (xss.take (i + 1)).flatten.length = (xss.take i).flatten.length + bb.length := by rw [htk, List.length_append]
          have hrl : r.length ≤ M.length := by rw [j5]; exact hrdR_le _
          have hAt : Ω.at2 xss (Ω.toN (Int.ofNat i)) = bb := by rw [hbb]; subst hΩ; rfl
          have hLn : Ω.len (Ω.at2 xss (Ω.toN (Int.ofNat i))) = bb.length := by rw [hAt]; subst hΩ; rfl
          constructor
          · exact fun _ => ⟨⟨by show 0 + R ≤ r.length; omega, trivial⟩, trivial, trivial⟩
          constructor
          · exact fun _ _ => ⟨by rw [j4, hrdS_len], by show (Ω.sub r 0 R).length ≤ c; rw [hsub]; omega, fun _ => by show (Ω.sub r 0 R).length + (Ω.at2 xss (Ω.toN (Int.ofNat i))).length ≤ 140737488355328; rw [hsub, hAt]; omega⟩
          intro z hz
          obtain ⟨s2, r2, c2⟩ := z
          obtain ⟨hc2, hs2, hr2⟩ := write_of (M := M) j4 (hsub.trans j5) hz
          have hc2 : r2.length ≤ c2 := hc2
          have hs2 : s2 = hrdS (M ++ Ω.at2 xss (Ω.toN (Int.ofNat i))) := hs2
          have hr2 : r2 = hrdR (M ++ Ω.at2 xss (Ω.toN (Int.ofNat i))) := hr2
          rw [hAt] at hs2 hr2
          obtain ⟨R2, hR2⟩ : ∃ R2, R2 = r2.length := ⟨_, rfl⟩
          have hlR2 : Ω.len r2 = R2 := by rw [hR2]; subst hΩ; rfl
          clear hz
          cbv
          constructor
          · intro h
            have h' : False := by (skip); first | done | (subst hΩ; exact Bool.noConfusion (show false = true from h))
            contradiction
          intro _
          cbv
          repeat (refine ⟨by ((try intro _); (try subst hΩ); simp (disch := omega) only [Om.real, nc, Nat.succ_eq_add_one, Int.ofNat_eq_natCast, Int.toNat_natCast, ia_nn, ia_nl, ia_ln, is_nn, is_nl, is_ln, im_nn, im_nl, im_ln, iq_nn, iq_nl, ir_nn, ir_nl, cl_nn, cl_nl, cl_ln, cle_nn, cle_nl, cle_ln, cg_nn, cg_nl, cg_ln, cge_nn, cge_nl, ce_nn, ce_nl, cn_nn, cn_nl, SN.v]; omega), ?_⟩)
          constructor
          · exact fun _ => by show (lM + Ω.len (Ω.at2 xss (Ω.toN (Int.ofNat i)))) * 1 ≤ 140737488355328; rw [hLn]; omega
          constructor
          · exact fun _ => ⟨by show 0 + lM * 1 ≤ M.length; omega, trivial⟩
          intro cap2 hcap2
          have hcap2 : lM + bb.length ≤ cap2 := by rw [← hLn]; exact hcap2
          obtain ⟨M2, hM2⟩ : ∃ M2, M2 = M ++ bb := ⟨_, rfl⟩
          obtain ⟨l2, hl2⟩ : ∃ l2, l2 = lM + bb.length := ⟨_, rfl⟩
          rw [← hM2] at hs2 hr2
          have hMl : M2.length = l2 := by rw [hM2, List.length_append, hl2, j2]
          have f0 : Ω.nadd lM (Ω.len (Ω.at2 xss (Ω.toN (Int.ofNat i)))) = l2 := by rw [hLn, hl2]; subst hΩ; rfl
          have f1 : Ω.cat (Ω.sub M 0 lM) (Ω.at2 xss (Ω.toN (Int.ofNat i))) = M2 := by
            rw [hAt, hM2]; subst hΩ
            show (M.drop 0).take lM ++ bb = _
            rw [List.drop_zero, j2, List.take_length]
          have f2 : Ω.bin .add .i64 (Int.ofNat lM) (Ω.ofN (Ω.len (Ω.at2 xss (Ω.toN (Int.ofNat i))))) = (l2 : Int) := by
            rw [hLn, hl2]; subst hΩ; exact ia_nn lM bb.length (by omega)
          have hI2 : ∀ a ∈ M2, InB a := fun a ha => by
            rw [hM2] at ha
            rcases List.mem_append.1 ha with h | h
            · exact j9 a h
            · exact hbr a h
          have hr2l : r2.length < 136 := by rw [hr2]; exact hrdR_lt _
          have hl2r : Ω.len r2 = r2.length := by subst hΩ; rfl
          have hsr2 : Ω.sub r2 0 (Ω.len r2) = r2 := by subst hΩ; exact List.take_length
          cbv
          constructor
          · exact fun _ => ⟨⟨trivial, by show 0 + Ω.len r2 ≤ r2.length; omega, trivial, trivial⟩, trivial⟩
          constructor
          · exact fun _ _ => ⟨by rw [hs2, hrdS_len], by show (Ω.sub r2 0 (Ω.len r2)).length ≤ _; rw [hsr2]; omega⟩
          intro z hz
          obtain ⟨r3, c3⟩ := z
          obtain ⟨hr3, hc3⟩ : r3 = Ω.sub r2 0 (Ω.len r2) ∧ r3.length ≤ c3 := hz
          rw [hsr2] at hr3
          have hl3 : Ω.len r3 = r3.length := by subst hΩ; rfl
          have hsr3 : Ω.sub r3 0 (Ω.len r3) = r2 := by rw [← hr3]; subst hΩ; exact List.take_length
          cbv
          constructor
          · exact fun _ => ⟨⟨by show 0 + Ω.len r3 ≤ r3.length; omega, trivial⟩, trivial, trivial⟩
          constructor
          · exact fun _ _ => ⟨by rw [hs2, hrdS_len], fun _ => by show (Ω.sub r3 0 (Ω.len r3)).length < 136; rw [hsr3]; exact hr2l, by show (Ω.sub r3 0 (Ω.len r3)).length ≤ c3; rw [hsr3, ← hr3]; exact hc3⟩
          intro z hz
          obtain ⟨o4, oc4, s4, r4, c4, k4', er4, tl4⟩ := z
          obtain ⟨w, hw⟩ : ∃ w, w = tl M2 64 := ⟨_, rfl⟩
          have hd := read64 hs2 hr2 hsr3 hz
          have d1 : er4 = 0 := hd.1
          have d2 : o4 = w := hd.2.trans hw.symm
          clear hz hd
          have lw : w.length = 64 := by rw [hw, tl_len]
          have lo4 : Ω.len o4 = o4.length := by subst hΩ; rfl
          have so4 : Ω.sub o4 0 (Ω.len o4) = w := by rw [← d2]; subst hΩ; exact List.take_length
          cbv
          constructor
          · intro h
            have h' : False := by (rw [d1] at h); first | done | (subst hΩ; exact Bool.noConfusion (show false = true from h))
            contradiction
          intro _
          cbv
          constructor
          · intro h
            have h' : False := by (have h : Ω.cmp .neq (Ω.bin .add .i64 (Int.ofNat lM) (Ω.ofN (Ω.len (Ω.at2 xss (Ω.toN (Int.ofNat i)))))) (Ω.ofN (Ω.nadd lM (Ω.len (Ω.at2 xss (Ω.toN (Int.ofNat i)))))) = true := h; rw [f2, f0] at h; subst hΩ; have h : ((l2 : Int) != (l2 : Int)) = true := h; simp at h); first | done | (subst hΩ; exact Bool.noConfusion (show false = true from h))
            contradiction
          intro _
          cbv
          constructor
          · intro h
            have h' : False := by (have h : Ω.cmp .neq (Ω.bin .add .i64 (Int.ofNat lM) (Ω.ofN (Ω.len (Ω.at2 xss (Ω.toN (Int.ofNat i)))))) (Ω.bin .add .i64 (Int.ofNat lM) (Ω.ofN (Ω.len (Ω.at2 xss (Ω.toN (Int.ofNat i)))))) = true := h; rw [f2] at h; subst hΩ; have h : ((l2 : Int) != (l2 : Int)) = true := h; simp at h); first | done | (subst hΩ; exact Bool.noConfusion (show false = true from h))
            contradiction
          intro _
          cbv
          have hall : Ω.sub (Ω.cat (Ω.sub M 0 lM) (Ω.at2 xss (Ω.toN (Int.ofNat i)))) 0 (Ω.nadd lM (Ω.len (Ω.at2 xss (Ω.toN (Int.ofNat i))))) = M2 := by rw [f1, f0]; subst hΩ; show (M2.drop 0).take l2 = M2; rw [List.drop_zero, ← hMl, List.take_length]
          have hal1 : [Ω.sub (Ω.cat (Ω.sub M 0 lM) (Ω.at2 xss (Ω.toN (Int.ofNat i)))) 0 (Ω.nadd lM (Ω.len (Ω.at2 xss (Ω.toN (Int.ofNat i)))))] = [M2] := by rw [hall]
          have hM4 : M2.length ≤ 70368744177664 := by omega
          have hin : 0 + Ω.nadd lM (Ω.len (Ω.at2 xss (Ω.toN (Int.ofNat i)))) ≤ (Ω.cat (Ω.sub M 0 lM) (Ω.at2 xss (Ω.toN (Int.ofNat i)))).length := by rw [f0, f1]; omega
          constructor
          · exact fun _ => ⟨trivial, ⟨hin, trivial⟩, trivial⟩
          constructor
          · exact fun _ _ => ref_pre (m := 64) rfl hal1 (by decide) hM4
          intro z hz
          obtain ⟨o6, c6⟩ := z
          have hd6 := ref_of (m := 64) rfl hal1 hz
          have e6 : o6 = w := hd6.1.trans ((tl_told hI2 64).symm.trans hw.symm)
          have lo6 : Ω.len o6 = o6.length := by subst hΩ; rfl
          have so6 : Ω.sub o6 0 (Ω.len o6) = w := by rw [← e6]; subst hΩ; exact List.take_length
          clear hz hd6
          cbv
          constructor
          · exact fun _ => ⟨by show 0 + Ω.len o4 ≤ o4.length; omega, by show 0 + Ω.len o6 ≤ o6.length; omega, trivial⟩
          constructor
          · exact fun _ _ => ⟨by show (Ω.sub o4 0 (Ω.len o4)).length < _; rw [so4, lw]; decide, by show (Ω.sub o6 0 (Ω.len o6)).length < _; rw [so6, lw]; decide⟩
          intro q hq
          have hq : q = true := by
            have h : q = (Ω.sub o4 0 (Ω.len o4) == Ω.sub o6 0 (Ω.len o6)) := hq
            rw [h, so4, so6]; simp
          cbv
          constructor
          · intro h
            have h' : False := by (rw [hq] at h); first | done | (subst hΩ; exact Bool.noConfusion (show false = true from h))
            contradiction
          intro _
          cbv
          have hin1 : Ω.bin .add .i64 (Int.ofNat i) 1 = Int.ofNat (i + 1) := by subst hΩ; exact ia_nl i 1 (by show i + 1 < 9223372036854775808; omega)
          have hM2t : M2.length ≤ (xss.take (i + 1)).flatten.length := by rw [htl, hM2, List.length_append]; omega
          constructor
          · intro e0
            have hi0 : (i : Int) = tw.getD 0 0 := by
              have e0 : Ω.cmp .eql (Int.ofNat i) (Ω.at' tw 0) = true := e0
              subst hΩ
              exact eq_of_beq (show ((i : Int) == tw.getD 0 0) = true from e0)
            cbv
            constructor
            · exact fun _ => ⟨⟨trivial, by show 0 + Ω.len r2 ≤ r2.length; omega, trivial, trivial⟩, trivial⟩
            constructor
            · exact fun _ _ => ⟨by rw [hs2, hrdS_len], by show (Ω.sub r2 0 (Ω.len r2)).length ≤ _; rw [hsr2]; omega⟩
            intro z hz
            obtain ⟨r7, c7⟩ := z
            obtain ⟨hr7, hc7⟩ : r7 = Ω.sub r2 0 (Ω.len r2) ∧ r7.length ≤ c7 := hz
            rw [hsr2] at hr7
            have hl7 : Ω.len r7 = r7.length := by subst hΩ; rfl
            have hK0 : K = [] := k5 rfl
            have hlK : lK = 0 := by rw [k1, hK0]; rfl
            obtain ⟨R7, hR7⟩ : ∃ R7, R7 = r7.length := ⟨_, rfl⟩
            have hlR7 : Ω.len r7 = R7 := by rw [hR7]; exact hl7
            cbv
            constructor
            · exact fun _ => by show (lK + Ω.nadd lM (Ω.len (Ω.at2 xss (Ω.toN (Int.ofNat i))))) * 1 ≤ 140737488355328; rw [f0]; omega
            constructor
            · exact fun _ => ⟨by show 0 + lK * 1 ≤ K.length; omega, by show 0 + Ω.nadd lM (Ω.len (Ω.at2 xss (Ω.toN (Int.ofNat i)))) * 1 ≤ (Ω.cat (Ω.sub M 0 lM) (Ω.at2 xss (Ω.toN (Int.ofNat i)))).length; rw [f0, f1]; omega⟩
            intro cap8 hcap8
            have hcap8 : lK + l2 ≤ cap8 := by rw [← f0]; exact hcap8
            have g0 : Ω.nadd lK (Ω.nadd lM (Ω.len (Ω.at2 xss (Ω.toN (Int.ofNat i))))) = l2 := by rw [f0, hlK]; subst hΩ; show 0 + l2 = l2; omega
            have g1 : Ω.cat (Ω.sub K 0 lK) (Ω.sub (Ω.cat (Ω.sub M 0 lM) (Ω.at2 xss (Ω.toN (Int.ofNat i)))) 0 (Ω.nadd lM (Ω.len (Ω.at2 xss (Ω.toN (Int.ofNat i)))))) = M2 := by rw [hall, hK0, hlK]; subst hΩ; rfl
            have hPK : PK xss (tw.getD 0 0) (i + 1) M2 l2 cap8 s2 r7 R7 c7 := ⟨hs2, hr7.trans hr2, hR7, by omega, i, Nat.lt_succ_self i, hi0⟩
            cbv
            constructor
            · intro e1
              cbv
              refine ⟨⟨i + 1, [], 0, 0, List.replicate 25 0, [], 0, 0, true, M2, l2, cap8, s2, r7, R7, c7⟩, [some 1536, none, none, some 1336, some 1304, some 1288, some 1289], ⟨by show i + 1 ≤ xss.length; omega, rfl, Nat.le_refl _, hrdS_nil, hrdR_nil, rfl, Nat.le_refl _, Nat.zero_le _, fun a h => absurd h List.not_mem_nil, hMl.symm, by show l2 ≤ cap8; omega, by show M2.length ≤ 3600; omega, hI2, fun h => Bool.noConfusion h, fun _ => hPK⟩, by show L - (i + 1) < L - i; omega, by show 7 ≤ 8 * 1; omega, ?_⟩
              cbv
              exact ⟨g0, hin1, rfl, g1, f2, hlR7, trivial⟩
            · intro e1
              cbv
              refine ⟨⟨i + 1, M2, l2, cap2, s2, r2, R2, c2, true, M2, l2, cap8, s2, r7, R7, c7⟩, [some 192, some 648, some 392, some 1336, some 1304, some 1288, some 1289], ⟨by show i + 1 ≤ xss.length; omega, hMl.symm, by show l2 ≤ cap2; omega, hs2, hr2, hR2, by show R2 ≤ c2; omega, hM2t, hI2, hMl.symm, by show l2 ≤ cap8; omega, by show M2.length ≤ 3600; omega, hI2, fun h => Bool.noConfusion h, fun _ => hPK⟩, by show L - (i + 1) < L - i; omega, by show 7 ≤ 8 * 1; omega, ?_⟩
              cbv
              exact ⟨f0, g0, hin1, hlR2, f2, f1, g1, f2, hlR7, trivial⟩
          · intro e0
            cbv
            constructor
            · intro e1
              cbv
              refine ⟨⟨i + 1, [], 0, 0, List.replicate 25 0, [], 0, 0, false, K, lK, cK, ks, kr, kR, kc⟩, [some 1344, none, none, some 195], ⟨by show i + 1 ≤ xss.length; omega, rfl, Nat.le_refl _, hrdS_nil, hrdR_nil, rfl, Nat.le_refl _, Nat.zero_le _, fun a h => absurd h List.not_mem_nil, k1, k2, k3, k4, k5, fun h => Bool.noConfusion h⟩, by show L - (i + 1) < L - i; omega, by show 4 ≤ 8 * 1; omega, ?_⟩
              cbv
              exact ⟨hin1, rfl, trivial⟩
            · intro e1
              cbv
              refine ⟨⟨i + 1, M2, l2, cap2, s2, r2, R2, c2, false, K, lK, cK, ks, kr, kR, kc⟩, [some 192, some 648, some 392, some 195], ⟨by show i + 1 ≤ xss.length; omega, hMl.symm, by show l2 ≤ cap2; omega, hs2, hr2, hR2, by show R2 ≤ c2; omega, hM2t, hI2, k1, k2, k3, k4, k5, fun h => Bool.noConfusion h⟩, by show L - (i + 1) < L - i; omega, by show 4 ≤ 8 * 1; omega, ?_⟩
              cbv
              exact ⟨f0, hin1, hlR2, f2, f1, trivial⟩
        · intro hc
          cbv
          rw [hΩ] at hc; simp (disch := omega) only [Om.real, nc, Nat.succ_eq_add_one, Int.ofNat_eq_natCast, Int.toNat_natCast, ia_nn, ia_nl, ia_ln, is_nn, is_nl, is_ln, im_nn, im_nl, im_ln, iq_nn, iq_nl, ir_nn, ir_nl, cl_nn, cl_nl, cl_ln, cle_nn, cle_nl, cle_ln, cg_nn, cg_nl, cg_ln, cge_nn, cge_nl, ce_nn, ce_nl, cn_nn, cn_nl, decide_eq_true_eq, decide_eq_false_iff_not] at hc
          constructor
          · exact fun _ _ => ⟨by omega, by omega⟩
          intro z hz
          obtain ⟨p1, pc1, ps1, pr1, pc1', pk1, pe1, pt1⟩ := z
          obtain ⟨v, hv⟩ : ∃ v, v = tl xss.flatten 64 := ⟨_, rfl⟩
          have lv : v.length = 64 := by rw [hv, tl_len]
          have hp1 := sum64 rfl hz
          have pe : pe1 = 0 := hp1.1
          have po : p1 = v := hp1.2.trans hv.symm
          clear hz hp1
          have lp1 : Ω.len p1 = p1.length := by subst hΩ; rfl
          have sp1 : Ω.sub p1 0 (Ω.len p1) = v := by rw [← po]; subst hΩ; exact List.take_length
          cbv
          constructor
          · exact fun _ _ => ⟨by omega, by omega⟩
          intro z hz
          obtain ⟨W, cW⟩ := z
          obtain ⟨hW, hcW⟩ : W = xss.flatten ∧ W.length ≤ cW := hz
          have lW : Ω.len W = W.length := by subst hΩ; rfl
          have sW : [Ω.sub W 0 (Ω.len W)] = [xss.flatten] := by rw [hW]; subst hΩ; exact congrArg (fun q => [q]) List.take_length
          cbv
          have fW : [Ω.sub W 0 (Ω.len W)].flatten = xss.flatten := by rw [sW]; simp
          constructor
          · exact fun _ => ⟨trivial, ⟨by show 0 + Ω.len W ≤ W.length; omega, trivial⟩, trivial⟩
          constructor
          · exact fun _ _ => ⟨by show 1 < _; decide, by rw [fW]; omega⟩
          intro z hz
          obtain ⟨q1, qc1, qs1, qr1, qc1', qk1, qe1, qt1⟩ := z
          have hq1 := sum64 fW hz
          have qe : qe1 = 0 := hq1.1
          have qo : q1 = v := hq1.2.trans hv.symm
          clear hz hq1
          have lq1 : Ω.len q1 = q1.length := by subst hΩ; rfl
          have sq1 : Ω.sub q1 0 (Ω.len q1) = v := by rw [← qo]; subst hΩ; exact List.take_length
          cbv
          constructor
          rotate_left
          · intro h
            have h' : False := by (rw [pe] at h); first | done | (subst hΩ; exact Bool.noConfusion (show true = false from h))
            contradiction
          intro _
          cbv
          constructor
          rotate_left
          · intro h
            have h' : False := by (rw [qe] at h); first | done | (subst hΩ; exact Bool.noConfusion (show true = false from h))
            contradiction
          intro _
          cbv
          constructor
          · exact fun _ _ => ref_pre2 (by omega) (by omega)
          intro z hz
          obtain ⟨u1, uc1⟩ := z
          have hu := ref64 hz
          have uo : u1 = v := hu.trans ((tl_told (flat_rng fun xs hx => (ly xs hx).2) 64).symm.trans hv.symm)
          have lu1 : Ω.len u1 = u1.length := by subst hΩ; rfl
          have su1 : Ω.sub u1 0 (Ω.len u1) = v := by rw [← uo]; subst hΩ; exact List.take_length
          clear hz hu
          cbv
          constructor
          · exact fun _ => ⟨by show 0 + Ω.len p1 ≤ p1.length; omega, by show 0 + Ω.len u1 ≤ u1.length; omega, trivial⟩
          constructor
          · exact fun _ _ => ⟨by show (Ω.sub p1 0 (Ω.len p1)).length < _; rw [sp1, lv]; decide, by show (Ω.sub u1 0 (Ω.len u1)).length < _; rw [su1, lv]; decide⟩
          intro b1 hb1
          have hb1 : b1 = true := by
            have h : b1 = (Ω.sub p1 0 (Ω.len p1) == Ω.sub u1 0 (Ω.len u1)) := hb1
            rw [h, sp1, su1]; simp
          cbv
          constructor
          rotate_left
          · intro h
            have h' : False := Bool.noConfusion (Eq.trans (Eq.symm (hb1)) h)
            contradiction
          intro _
          cbv
          constructor
          · exact fun _ => ⟨by show 0 + Ω.len p1 ≤ p1.length; omega, by show 0 + Ω.len q1 ≤ q1.length; omega, trivial⟩
          constructor
          · exact fun _ _ => ⟨by show (Ω.sub p1 0 (Ω.len p1)).length < _; rw [sp1, lv]; decide, by show (Ω.sub q1 0 (Ω.len q1)).length < _; rw [sq1, lv]; decide⟩
          intro b2 hb2
          have hb2 : b2 = true := by
            have h : b2 = (Ω.sub p1 0 (Ω.len p1) == Ω.sub q1 0 (Ω.len q1)) := hb2
            rw [h, sp1, sq1]; simp
          cbv
          constructor
          rotate_left
          · intro h
            have h' : False := Bool.noConfusion (Eq.trans (Eq.symm (hb2)) h)
            contradiction
          intro _
          cbv
          constructor
          · exact fun _ => trivial
          intro w hw
          have hw : w = true := hw
          cbv
          refine hQ _ _ _ _ ?_ rfl
          exact hw
      · cbv
        constructor
        · intro hc
          cbv
          rw [hΩ] at hc; simp (disch := omega) only [Om.real, nc, Nat.succ_eq_add_one, Int.ofNat_eq_natCast, Int.toNat_natCast, ia_nn, ia_nl, ia_ln, is_nn, is_nl, is_ln, im_nn, im_nl, im_ln, iq_nn, iq_nl, ir_nn, ir_nl, cl_nn, cl_nl, cl_ln, cle_nn, cle_nl, cle_ln, cg_nn, cg_nl, cg_ln, cge_nn, cge_nl, ce_nn, ce_nl, cn_nn, cn_nl, decide_eq_true_eq, decide_eq_false_iff_not] at hc
          repeat (refine ⟨by ((try intro _); (try subst hΩ); simp (disch := omega) only [Om.real, nc, Nat.succ_eq_add_one, Int.ofNat_eq_natCast, Int.toNat_natCast, ia_nn, ia_nl, ia_ln, is_nn, is_nl, is_ln, im_nn, im_nl, im_ln, iq_nn, iq_nl, ir_nn, ir_nl, cl_nn, cl_nl, cl_ln, cle_nn, cle_nl, cle_ln, cg_nn, cg_nl, cg_ln, cge_nn, cge_nl, ce_nn, ce_nl, cn_nn, cn_nl, SN.v]; omega), ?_⟩)
          have hi : i < xss.length := by omega
          have htk : (xss.take (i + 1)).flatten = (xss.take i).flatten ++ xss.getD i [] := by
            rw [List.take_succ_eq_append_getElem hi, List.flatten_append]
            simp [List.getD, hi]
          obtain ⟨bb, hbb⟩ : ∃ bb, bb = xss.getD i [] := ⟨_, rfl⟩
          have h1' : (xss.take (i + 1)).flatten.length ≤ xss.flatten.length := by
            conv => rhs; rw [← List.take_append_drop (i + 1) xss, List.flatten_append, List.length_append]
            omega
          have hbr : ∀ a ∈ bb, InB a := by rw [hbb]; exact (ly _ (getD_mem hi)).2
          rw [← hbb] at htk
          have htl : (xss.take (i + 1)).flatten.length = (xss.take i).flatten.length + bb.length := by rw [htk, List.length_append]
          have hrl : r.length ≤ M.length := by rw [j5]; exact hrdR_le _
          have hAt : Ω.at2 xss (Ω.toN (Int.ofNat i)) = bb := by rw [hbb]; subst hΩ; rfl
          have hLn : Ω.len (Ω.at2 xss (Ω.toN (Int.ofNat i))) = bb.length := by rw [hAt]; subst hΩ; rfl
          constructor
          · exact fun _ => ⟨⟨by show 0 + R ≤ r.length; omega, trivial⟩, trivial, trivial⟩
          constructor
          · exact fun _ _ => ⟨by rw [j4, hrdS_len], by show (Ω.sub r 0 R).length ≤ c; rw [hsub]; omega, fun _ => by show (Ω.sub r 0 R).length + (Ω.at2 xss (Ω.toN (Int.ofNat i))).length ≤ 140737488355328; rw [hsub, hAt]; omega⟩
          intro z hz
          obtain ⟨s2, r2, c2⟩ := z
          obtain ⟨hc2, hs2, hr2⟩ := write_of (M := M) j4 (hsub.trans j5) hz
          have hc2 : r2.length ≤ c2 := hc2
          have hs2 : s2 = hrdS (M ++ Ω.at2 xss (Ω.toN (Int.ofNat i))) := hs2
          have hr2 : r2 = hrdR (M ++ Ω.at2 xss (Ω.toN (Int.ofNat i))) := hr2
          rw [hAt] at hs2 hr2
          obtain ⟨R2, hR2⟩ : ∃ R2, R2 = r2.length := ⟨_, rfl⟩
          have hlR2 : Ω.len r2 = R2 := by rw [hR2]; subst hΩ; rfl
          clear hz
          cbv
          constructor
          · intro h
            have h' : False := by (skip); first | done | (subst hΩ; exact Bool.noConfusion (show false = true from h))
            contradiction
          intro _
          cbv
          repeat (refine ⟨by ((try intro _); (try subst hΩ); simp (disch := omega) only [Om.real, nc, Nat.succ_eq_add_one, Int.ofNat_eq_natCast, Int.toNat_natCast, ia_nn, ia_nl, ia_ln, is_nn, is_nl, is_ln, im_nn, im_nl, im_ln, iq_nn, iq_nl, ir_nn, ir_nl, cl_nn, cl_nl, cl_ln, cle_nn, cle_nl, cle_ln, cg_nn, cg_nl, cg_ln, cge_nn, cge_nl, ce_nn, ce_nl, cn_nn, cn_nl, SN.v]; omega), ?_⟩)
          constructor
          · exact fun _ => by show (lM + Ω.len (Ω.at2 xss (Ω.toN (Int.ofNat i)))) * 1 ≤ 140737488355328; rw [hLn]; omega
          constructor
          · exact fun _ => ⟨by show 0 + lM * 1 ≤ M.length; omega, trivial⟩
          intro cap2 hcap2
          have hcap2 : lM + bb.length ≤ cap2 := by rw [← hLn]; exact hcap2
          obtain ⟨M2, hM2⟩ : ∃ M2, M2 = M ++ bb := ⟨_, rfl⟩
          obtain ⟨l2, hl2⟩ : ∃ l2, l2 = lM + bb.length := ⟨_, rfl⟩
          rw [← hM2] at hs2 hr2
          have hMl : M2.length = l2 := by rw [hM2, List.length_append, hl2, j2]
          have f0 : Ω.nadd lM (Ω.len (Ω.at2 xss (Ω.toN (Int.ofNat i)))) = l2 := by rw [hLn, hl2]; subst hΩ; rfl
          have f1 : Ω.cat (Ω.sub M 0 lM) (Ω.at2 xss (Ω.toN (Int.ofNat i))) = M2 := by
            rw [hAt, hM2]; subst hΩ
            show (M.drop 0).take lM ++ bb = _
            rw [List.drop_zero, j2, List.take_length]
          have f2 : Ω.bin .add .i64 (Int.ofNat lM) (Ω.ofN (Ω.len (Ω.at2 xss (Ω.toN (Int.ofNat i))))) = (l2 : Int) := by
            rw [hLn, hl2]; subst hΩ; exact ia_nn lM bb.length (by omega)
          have hI2 : ∀ a ∈ M2, InB a := fun a ha => by
            rw [hM2] at ha
            rcases List.mem_append.1 ha with h | h
            · exact j9 a h
            · exact hbr a h
          have hr2l : r2.length < 136 := by rw [hr2]; exact hrdR_lt _
          have hl2r : Ω.len r2 = r2.length := by subst hΩ; rfl
          have hsr2 : Ω.sub r2 0 (Ω.len r2) = r2 := by subst hΩ; exact List.take_length
          cbv
          constructor
          · exact fun _ => ⟨⟨trivial, by show 0 + Ω.len r2 ≤ r2.length; omega, trivial, trivial⟩, trivial⟩
          constructor
          · exact fun _ _ => ⟨by rw [hs2, hrdS_len], by show (Ω.sub r2 0 (Ω.len r2)).length ≤ _; rw [hsr2]; omega⟩
          intro z hz
          obtain ⟨r3, c3⟩ := z
          obtain ⟨hr3, hc3⟩ : r3 = Ω.sub r2 0 (Ω.len r2) ∧ r3.length ≤ c3 := hz
          rw [hsr2] at hr3
          have hl3 : Ω.len r3 = r3.length := by subst hΩ; rfl
          have hsr3 : Ω.sub r3 0 (Ω.len r3) = r2 := by rw [← hr3]; subst hΩ; exact List.take_length
          cbv
          constructor
          · exact fun _ => ⟨⟨by show 0 + Ω.len r3 ≤ r3.length; omega, trivial⟩, trivial, trivial⟩
          constructor
          · exact fun _ _ => ⟨by rw [hs2, hrdS_len], fun _ => by show (Ω.sub r3 0 (Ω.len r3)).length < 136; rw [hsr3]; exact hr2l, by show (Ω.sub r3 0 (Ω.len r3)).length ≤ c3; rw [hsr3, ← hr3]; exact hc3⟩
          intro z hz
          obtain ⟨o4, oc4, s4, r4, c4, k4', er4, tl4⟩ := z
          obtain ⟨w, hw⟩ : ∃ w, w = tl M2 64 := ⟨_, rfl⟩
          have hd := read64 hs2 hr2 hsr3 hz
          have d1 : er4 = 0 := hd.1
          have d2 : o4 = w := hd.2.trans hw.symm
          clear hz hd
          have lw : w.length = 64 := by rw [hw, tl_len]
          have lo4 : Ω.len o4 = o4.length := by subst hΩ; rfl
          have so4 : Ω.sub o4 0 (Ω.len o4) = w := by rw [← d2]; subst hΩ; exact List.take_length
          cbv
          constructor
          · intro h
            have h' : False := by (rw [d1] at h); first | done | (subst hΩ; exact Bool.noConfusion (show false = true from h))
            contradiction
          intro _
          cbv
          constructor
          · intro h
            have h' : False := by (have h : Ω.cmp .neq (Ω.bin .add .i64 (Int.ofNat lM) (Ω.ofN (Ω.len (Ω.at2 xss (Ω.toN (Int.ofNat i)))))) (Ω.ofN (Ω.nadd lM (Ω.len (Ω.at2 xss (Ω.toN (Int.ofNat i)))))) = true := h; rw [f2, f0] at h; subst hΩ; have h : ((l2 : Int) != (l2 : Int)) = true := h; simp at h); first | done | (subst hΩ; exact Bool.noConfusion (show false = true from h))
            contradiction
          intro _
          cbv
          constructor
          · intro h
            have h' : False := by (have h : Ω.cmp .neq (Ω.bin .add .i64 (Int.ofNat lM) (Ω.ofN (Ω.len (Ω.at2 xss (Ω.toN (Int.ofNat i)))))) (Ω.bin .add .i64 (Int.ofNat lM) (Ω.ofN (Ω.len (Ω.at2 xss (Ω.toN (Int.ofNat i)))))) = true := h; rw [f2] at h; subst hΩ; have h : ((l2 : Int) != (l2 : Int)) = true := h; simp at h); first | done | (subst hΩ; exact Bool.noConfusion (show false = true from h))
            contradiction
          intro _
          cbv
          have hall : Ω.sub (Ω.cat (Ω.sub M 0 lM) (Ω.at2 xss (Ω.toN (Int.ofNat i)))) 0 (Ω.nadd lM (Ω.len (Ω.at2 xss (Ω.toN (Int.ofNat i))))) = M2 := by rw [f1, f0]; subst hΩ; show (M2.drop 0).take l2 = M2; rw [List.drop_zero, ← hMl, List.take_length]
          have hal1 : [Ω.sub (Ω.cat (Ω.sub M 0 lM) (Ω.at2 xss (Ω.toN (Int.ofNat i)))) 0 (Ω.nadd lM (Ω.len (Ω.at2 xss (Ω.toN (Int.ofNat i)))))] = [M2] := by rw [hall]
          have hM4 : M2.length ≤ 70368744177664 := by omega
          have hin : 0 + Ω.nadd lM (Ω.len (Ω.at2 xss (Ω.toN (Int.ofNat i)))) ≤ (Ω.cat (Ω.sub M 0 lM) (Ω.at2 xss (Ω.toN (Int.ofNat i)))).length := by rw [f0, f1]; omega
          constructor
          · exact fun _ => ⟨trivial, ⟨hin, trivial⟩, trivial⟩
          constructor
          · exact fun _ _ => ref_pre (m := 64) rfl hal1 (by decide) hM4
          intro z hz
          obtain ⟨o6, c6⟩ := z
          have hd6 := ref_of (m := 64) rfl hal1 hz
          have e6 : o6 = w := hd6.1.trans ((tl_told hI2 64).symm.trans hw.symm)
          have lo6 : Ω.len o6 = o6.length := by subst hΩ; rfl
          have so6 : Ω.sub o6 0 (Ω.len o6) = w := by rw [← e6]; subst hΩ; exact List.take_length
          clear hz hd6
          cbv
          constructor
          · exact fun _ => ⟨by show 0 + Ω.len o4 ≤ o4.length; omega, by show 0 + Ω.len o6 ≤ o6.length; omega, trivial⟩
          constructor
          · exact fun _ _ => ⟨by show (Ω.sub o4 0 (Ω.len o4)).length < _; rw [so4, lw]; decide, by show (Ω.sub o6 0 (Ω.len o6)).length < _; rw [so6, lw]; decide⟩
          intro q hq
          have hq : q = true := by
            have h : q = (Ω.sub o4 0 (Ω.len o4) == Ω.sub o6 0 (Ω.len o6)) := hq
            rw [h, so4, so6]; simp
          cbv
          constructor
          · intro h
            have h' : False := by (rw [hq] at h); first | done | (subst hΩ; exact Bool.noConfusion (show false = true from h))
            contradiction
          intro _
          cbv
          have hin1 : Ω.bin .add .i64 (Int.ofNat i) 1 = Int.ofNat (i + 1) := by subst hΩ; exact ia_nl i 1 (by show i + 1 < 9223372036854775808; omega)
          have hM2t : M2.length ≤ (xss.take (i + 1)).flatten.length := by rw [htl, hM2, List.length_append]; omega
          constructor
          · intro e0
            have hi0 : (i : Int) = tw.getD 0 0 := by
              have e0 : Ω.cmp .eql (Int.ofNat i) (Ω.at' tw 0) = true := e0
              subst hΩ
              exact eq_of_beq (show ((i : Int) == tw.getD 0 0) = true from e0)
            have h2 : False := by
              obtain ⟨_, _, _, _, i0, hi1, hi2⟩ := k6 rfl
              omega
            contradiction
          · intro e0
            cbv
            constructor
            · intro e1
              cbv
              refine ⟨⟨i + 1, [], 0, 0, List.replicate 25 0, [], 0, 0, true, K, lK, cK, ks, kr, kR, kc⟩, [some 1344, none, none, some 195, some 196, some 197, some 198], ⟨by show i + 1 ≤ xss.length; omega, rfl, Nat.le_refl _, hrdS_nil, hrdR_nil, rfl, Nat.le_refl _, Nat.zero_le _, fun a h => absurd h List.not_mem_nil, k1, k2, k3, k4, fun h => Bool.noConfusion h, fun _ => PK_up (k6 rfl)⟩, by show L - (i + 1) < L - i; omega, by show 7 ≤ 8 * 1; omega, ?_⟩
              cbv
              exact ⟨hin1, rfl, trivial⟩
            · intro e1
              cbv
              refine ⟨⟨i + 1, M2, l2, cap2, s2, r2, R2, c2, true, K, lK, cK, ks, kr, kR, kc⟩, [some 192, some 648, some 392, some 195, some 196, some 197, some 198], ⟨by show i + 1 ≤ xss.length; omega, hMl.symm, by show l2 ≤ cap2; omega, hs2, hr2, hR2, by show R2 ≤ c2; omega, hM2t, hI2, k1, k2, k3, k4, fun h => Bool.noConfusion h, fun _ => PK_up (k6 rfl)⟩, by show L - (i + 1) < L - i; omega, by show 7 ≤ 8 * 1; omega, ?_⟩
              cbv
              exact ⟨f0, hin1, hlR2, f2, f1, trivial⟩
        · intro hc
          cbv
          rw [hΩ] at hc; simp (disch := omega) only [Om.real, nc, Nat.succ_eq_add_one, Int.ofNat_eq_natCast, Int.toNat_natCast, ia_nn, ia_nl, ia_ln, is_nn, is_nl, is_ln, im_nn, im_nl, im_ln, iq_nn, iq_nl, ir_nn, ir_nl, cl_nn, cl_nl, cl_ln, cle_nn, cle_nl, cle_ln, cg_nn, cg_nl, cg_ln, cge_nn, cge_nl, ce_nn, ce_nl, cn_nn, cn_nl, decide_eq_true_eq, decide_eq_false_iff_not] at hc
          obtain ⟨y1, y2, y3, y4, _⟩ := k6 rfl
          have hks : Ω.sub kr 0 kR = kr := by rw [y3]; subst hΩ; exact List.take_length
          have hkl : kr.length < 136 := by rw [y2]; exact hrdR_lt _
          constructor
          · exact fun _ => ⟨⟨trivial, by show 0 + kR ≤ kr.length; omega, trivial, trivial⟩, trivial⟩
          constructor
          · exact fun _ _ => ⟨by rw [y1, hrdS_len], by show (Ω.sub kr 0 kR).length ≤ _; rw [hks]; omega⟩
          intro z hz
          obtain ⟨r3, c3⟩ := z
          obtain ⟨hr3, hc3⟩ : r3 = Ω.sub kr 0 kR ∧ r3.length ≤ c3 := hz
          rw [hks] at hr3
          have hl3 : Ω.len r3 = r3.length := by subst hΩ; rfl
          have hsr3 : Ω.sub r3 0 (Ω.len r3) = kr := by rw [← hr3]; subst hΩ; exact List.take_length
          cbv
          constructor
          · exact fun _ => ⟨⟨by show 0 + Ω.len r3 ≤ r3.length; omega, trivial⟩, trivial, trivial⟩
          constructor
          · exact fun _ _ => ⟨by rw [y1, hrdS_len], fun _ => by show (Ω.sub r3 0 (Ω.len r3)).length < 136; rw [hsr3]; exact hkl, by show (Ω.sub r3 0 (Ω.len r3)).length ≤ c3; rw [hsr3, ← hr3]; exact hc3⟩
          intro z hz
          obtain ⟨o4, oc4, s4, r4, c4, k4', er4, tl4⟩ := z
          obtain ⟨w, hw⟩ : ∃ w, w = tl K 64 := ⟨_, rfl⟩
          have hd := read64 y1 y2 hsr3 hz
          have d1 : er4 = 0 := hd.1
          have d2 : o4 = w := hd.2.trans hw.symm
          clear hz hd
          have lw : w.length = 64 := by rw [hw, tl_len]
          have lo4 : Ω.len o4 = o4.length := by subst hΩ; rfl
          have so4 : Ω.sub o4 0 (Ω.len o4) = w := by rw [← d2]; subst hΩ; exact List.take_length
          cbv
          constructor
          · intro h
            have h' : False := by (rw [d1] at h); first | done | (subst hΩ; exact Bool.noConfusion (show false = true from h))
            contradiction
          intro _
          cbv
          constructor
          · intro h
            have h' : False := by (have h : Ω.cmp .neq (Int.ofNat lK) (Ω.ofN lK) = true := h; subst hΩ; have h : ((lK : Int) != (lK : Int)) = true := h; simp at h); first | done | (subst hΩ; exact Bool.noConfusion (show false = true from h))
            contradiction
          intro _
          cbv
          have hal1 : [Ω.sub K 0 lK] = [K] := by rw [k1]; subst hΩ; exact congrArg (fun q => [q]) List.take_length
          constructor
          · exact fun _ => ⟨trivial, ⟨by show 0 + lK ≤ K.length; omega, trivial⟩, trivial⟩
          constructor
          · exact fun _ _ => ref_pre (m := 64) rfl hal1 (by decide) (by omega)
          intro z hz
          obtain ⟨o6, c6⟩ := z
          have hd6 := ref_of (m := 64) rfl hal1 hz
          have e6 : o6 = w := hd6.1.trans ((tl_told k4 64).symm.trans hw.symm)
          have lo6 : Ω.len o6 = o6.length := by subst hΩ; rfl
          have so6 : Ω.sub o6 0 (Ω.len o6) = w := by rw [← e6]; subst hΩ; exact List.take_length
          clear hz hd6
          cbv
          constructor
          · exact fun _ => ⟨by show 0 + Ω.len o4 ≤ o4.length; omega, by show 0 + Ω.len o6 ≤ o6.length; omega, trivial⟩
          constructor
          · exact fun _ _ => ⟨by show (Ω.sub o4 0 (Ω.len o4)).length < _; rw [so4, lw]; decide, by show (Ω.sub o6 0 (Ω.len o6)).length < _; rw [so6, lw]; decide⟩
          intro q hq
          have hq : q = true := by
            have h : q = (Ω.sub o4 0 (Ω.len o4) == Ω.sub o6 0 (Ω.len o6)) := hq
            rw [h, so4, so6]; simp
          cbv
          constructor
          · intro h
            have h' : False := by (rw [hq] at h); first | done | (subst hΩ; exact Bool.noConfusion (show false = true from h))
            contradiction
          intro _
          cbv
          constructor
          · exact fun _ _ => ⟨by omega, by omega⟩
          intro z hz
          obtain ⟨p1, pc1, ps1, pr1, pc1', pk1, pe1, pt1⟩ := z
          obtain ⟨v, hv⟩ : ∃ v, v = tl xss.flatten 64 := ⟨_, rfl⟩
          have lv : v.length = 64 := by rw [hv, tl_len]
          have hp1 := sum64 rfl hz
          have pe : pe1 = 0 := hp1.1
          have po : p1 = v := hp1.2.trans hv.symm
          clear hz hp1
          have lp1 : Ω.len p1 = p1.length := by subst hΩ; rfl
          have sp1 : Ω.sub p1 0 (Ω.len p1) = v := by rw [← po]; subst hΩ; exact List.take_length
          cbv
          constructor
          · exact fun _ _ => ⟨by omega, by omega⟩
          intro z hz
          obtain ⟨W, cW⟩ := z
          obtain ⟨hW, hcW⟩ : W = xss.flatten ∧ W.length ≤ cW := hz
          have lW : Ω.len W = W.length := by subst hΩ; rfl
          have sW : [Ω.sub W 0 (Ω.len W)] = [xss.flatten] := by rw [hW]; subst hΩ; exact congrArg (fun q => [q]) List.take_length
          cbv
          have fW : [Ω.sub W 0 (Ω.len W)].flatten = xss.flatten := by rw [sW]; simp
          constructor
          · exact fun _ => ⟨trivial, ⟨by show 0 + Ω.len W ≤ W.length; omega, trivial⟩, trivial⟩
          constructor
          · exact fun _ _ => ⟨by show 1 < _; decide, by rw [fW]; omega⟩
          intro z hz
          obtain ⟨q1, qc1, qs1, qr1, qc1', qk1, qe1, qt1⟩ := z
          have hq1 := sum64 fW hz
          have qe : qe1 = 0 := hq1.1
          have qo : q1 = v := hq1.2.trans hv.symm
          clear hz hq1
          have lq1 : Ω.len q1 = q1.length := by subst hΩ; rfl
          have sq1 : Ω.sub q1 0 (Ω.len q1) = v := by rw [← qo]; subst hΩ; exact List.take_length
          cbv
          constructor
          rotate_left
          · intro h
            have h' : False := by (rw [pe] at h); first | done | (subst hΩ; exact Bool.noConfusion (show true = false from h))
            contradiction
          intro _
          cbv
          constructor
          rotate_left
          · intro h
            have h' : False := by (rw [qe] at h); first | done | (subst hΩ; exact Bool.noConfusion (show true = false from h))
            contradiction
          intro _
          cbv
          constructor
          · exact fun _ _ => ref_pre2 (by omega) (by omega)
          intro z hz
          obtain ⟨u1, uc1⟩ := z
          have hu := ref64 hz
          have uo : u1 = v := hu.trans ((tl_told (flat_rng fun xs hx => (ly xs hx).2) 64).symm.trans hv.symm)
          have lu1 : Ω.len u1 = u1.length := by subst hΩ; rfl
          have su1 : Ω.sub u1 0 (Ω.len u1) = v := by rw [← uo]; subst hΩ; exact List.take_length
          clear hz hu
          cbv
          constructor
          · exact fun _ => ⟨by show 0 + Ω.len p1 ≤ p1.length; omega, by show 0 + Ω.len u1 ≤ u1.length; omega, trivial⟩
          constructor
          · exact fun _ _ => ⟨by show (Ω.sub p1 0 (Ω.len p1)).length < _; rw [sp1, lv]; decide, by show (Ω.sub u1 0 (Ω.len u1)).length < _; rw [su1, lv]; decide⟩
          intro b1 hb1
          have hb1 : b1 = true := by
            have h : b1 = (Ω.sub p1 0 (Ω.len p1) == Ω.sub u1 0 (Ω.len u1)) := hb1
            rw [h, sp1, su1]; simp
          cbv
          constructor
          rotate_left
          · intro h
            have h' : False := Bool.noConfusion (Eq.trans (Eq.symm (hb1)) h)
            contradiction
          intro _
          cbv
          constructor
          · exact fun _ => ⟨by show 0 + Ω.len p1 ≤ p1.length; omega, by show 0 + Ω.len q1 ≤ q1.length; omega, trivial⟩
          constructor
          · exact fun _ _ => ⟨by show (Ω.sub p1 0 (Ω.len p1)).length < _; rw [sp1, lv]; decide, by show (Ω.sub q1 0 (Ω.len q1)).length < _; rw [sq1, lv]; decide⟩
          intro b2 hb2
          have hb2 : b2 = true := by
            have h : b2 = (Ω.sub p1 0 (Ω.len p1) == Ω.sub q1 0 (Ω.len q1)) := hb2
            rw [h, sp1, sq1]; simp
          cbv
          constructor
          rotate_left
          · intro h
            have h' : False := Bool.noConfusion (Eq.trans (Eq.symm (hb2)) h)
            contradiction
          intro _
          cbv
          constructor
          · exact fun _ => trivial
          intro w hw
          have hw : w = true := hw
          cbv
          refine hQ _ _ _ _ ?_ rfl
          exact hw
end Go.Sx.Tryd
end
section
namespace Go.Sx.Tryd
open Go.Proofs
theorem pre_rol_two {xss : List (List Int)} {tw : List Int} (h1 : xss.length ≤ maxLen) (h2 : ∀ xs ∈ xss, xs.length ≤ maxLen ∧ ∀ x ∈ xs, isInt .u8 x) (h3 : tw.length = 2) : xss.length ≤ 9223372036854775807 ∧ (∀ xs ∈ xss, xs.length ≤ 9223372036854775807 ∧ ∀ a ∈ xs, InB a) ∧ tw.length = 2 :=
  ⟨(pre_rol h1 h2).1, (pre_rol h1 h2).2, h3⟩
end Go.Sx.Tryd
end
