/-
  Part of the proof of a statement: the means.
-/
import Derived.Test.YtnnkakbnmhahjaaDoorX4
import Derived.Test.YtnnkakbnmhahjaaDoorX3
import Derived.Test.YtnnkakbnmhahjaaDoorX5
set_option linter.unusedSectionVars false
set_option linter.unusedVariables false
set_option linter.unusedSimpArgs false
set_option linter.deprecated false
section
namespace Go.Sx
/-- A contract's text, whose results name no region. -/
theorem good_flat {pr : PR} {args : List SVal} (h : (∀ x, IdsLt noId (pr.res x)) ∧ ∀ E : Env, ∀ x b, (place E b (pr.res x)).2 = []) (hc : IdsLtL noId args) (hx : pr.pre → ∃ x, pr.post x) : PR.Good pr args :=
  ⟨h.1, (fun E x b p hp => by rw [h.2 E x b] at hp; cases hp), fun _ => hc, hx⟩
end Go.Sx
namespace Go.Sx.Tryd
open Go.Proofs
/-- A state whose first bytes are turned. -/
def xorUpTo (s b : List Int) : Nat → List Int
  | 0 => s
  | i + 1 => (xorUpTo s b i).set (i / 8) (binL .xor .u64 ((xorUpTo s b i).getD (i / 8) 0) (binL .shl .u64 (IntKind.u64.wrap (b.getD i 0)) ((8 * (i % 8) : Nat) : Int)))
def xorF (s b : List Int) : List Int × Int := if b.length > 200 then (List.replicate 25 0, 11) else (xorUpTo s b b.length, 0)
theorem xorUpTo_len (s b : List Int) : ∀ n, (xorUpTo s b n).length = s.length
  | 0 => rfl
  | n + 1 => by simp only [xorUpTo, List.length_set]; exact xorUpTo_len s b n
def s17 : PSpec := fun args => match args with
  | [.row .u64 25 s, .roi .u8 b] => ⟨∀ _ : Unit, s.length = 25 ∧ b.length < 9223372036854775808, List Int × Int, fun z => z = xorF s b, fun z => .tup [.row .u64 25 z.1, .int .i64 z.2]⟩
  | _ => PR.none
set_option maxHeartbeats 4000000 in
theorem c17 : Ctr Tryd.prog T glob 17 s17 := by
  refine ctr_of T_ok glob_ids mixed [] [] c_nil i_nil  Tryd.func17 (by rfl) (by kernel_rfl) Tryd.call17 ?_ ?_
  · intro args; unfold s17; split
    · exact good_flat ⟨fun _ => ⟨trivial, trivial, trivial⟩, fun _ _ _ => rfl⟩ ⟨trivial, trivial, trivial⟩ fun _ => ⟨_, rfl⟩
    · exact PR.good_none
  · intro P Ω hΩ hE hI hm args pr hs hp Q hQ
    unfold s17 at hs
    split at hs <;> subst hs <;> try (exact hp.elim)
    rename_i s b
    obtain ⟨ls, lb⟩ := hp ()
    refine ⟨1000, ?_⟩
    cbv
    constructor
    · intro hc
      cbv
      rw [hΩ] at hc; simp (disch := omega) only [Om.real, nc, Nat.succ_eq_add_one, Int.ofNat_eq_natCast, Int.toNat_natCast, ia_nn, ia_nl, ia_ln, is_nn, is_nl, is_ln, im_nn, im_nl, im_ln, iq_nn, iq_nl, ir_nn, ir_nl, cl_nn, cl_nl, cl_ln, cle_nn, cle_nl, cle_ln, cg_nn, cg_nl, cg_ln, cge_nn, cge_nl, ce_nn, ce_nl, cn_nn, cn_nl, decide_eq_true_eq, decide_eq_false_iff_not] at hc
      refine hQ (List.replicate 25 0, 11) _ _ _ ?_ ?_
      · exact (if_pos hc).symm
      · cbv
    · intro hc
      cbv
      rw [hΩ] at hc; simp (disch := omega) only [Om.real, nc, Nat.succ_eq_add_one, Int.ofNat_eq_natCast, Int.toNat_natCast, ia_nn, ia_nl, ia_ln, is_nn, is_nl, is_ln, im_nn, im_nl, im_ln, iq_nn, iq_nl, ir_nn, ir_nl, cl_nn, cl_nl, cl_ln, cle_nn, cle_nl, cle_ln, cg_nn, cg_nl, cg_ln, cge_nn, cge_nl, ce_nn, ce_nl, cn_nn, cn_nl, decide_eq_true_eq, decide_eq_false_iff_not] at hc
      refine loop_inv hE hI hm (fun x : Nat × List Int => (mkT 33 [(2, .ptr 0 (.l 0)), (4, .ptr 8 (.l 0)), (5, .lit .i64 0), (12, .roi .u8 b), (13, .int .i64 (Ω.ofN (Ω.len b))), (14, .int .i64 x.1)], [(8, .row .u64 25 (List.replicate 25 0)), (0, .row .u64 25 x.2)])) (fun x => x.1 ≤ b.length ∧ x.2 = xorUpTo s b x.1) (fun x => b.length - x.1) 0 ⟨(0, s), [], ⟨Nat.zero_le _, rfl⟩, Nat.le_refl _, by cbv; exact ⟨rfl, trivial⟩⟩ fun ⟨i, u⟩ ⟨hi, hu⟩ => ⟨1000, ?_⟩
      dsimp only at hi hu
      cbv
      constructor
      · intro hd
        cbv
        rw [hΩ] at hd; simp (disch := omega) only [Om.real, nc, Nat.succ_eq_add_one, Int.ofNat_eq_natCast, Int.toNat_natCast, ia_nn, ia_nl, ia_ln, is_nn, is_nl, is_ln, im_nn, im_nl, im_ln, iq_nn, iq_nl, ir_nn, ir_nl, cl_nn, cl_nl, cl_ln, cle_nn, cle_nl, cle_ln, cg_nn, cg_nl, cg_ln, cge_nn, cge_nl, ce_nn, ce_nl, cn_nn, cn_nl, decide_eq_true_eq, decide_eq_false_iff_not] at hd
        obtain ⟨u', hu'⟩ : ∃ u', u' = xorUpTo s b (i + 1) := ⟨_, rfl⟩
        repeat (refine ⟨by ((try intro _); (try subst hΩ); simp (disch := omega) only [Om.real, nc, Nat.succ_eq_add_one, Int.ofNat_eq_natCast, Int.toNat_natCast, ia_nn, ia_nl, ia_ln, is_nn, is_nl, is_ln, im_nn, im_nl, im_ln, iq_nn, iq_nl, ir_nn, ir_nl, cl_nn, cl_nl, cl_ln, cle_nn, cle_nl, cle_ln, cg_nn, cg_nl, cg_ln, cge_nn, cge_nl, ce_nn, ce_nl, cn_nn, cn_nl, SN.v]; omega), ?_⟩)
        refine ⟨(i + 1, u'), [], ⟨hd, hu'⟩, by simp only; omega, Nat.zero_le _, ?_⟩
        cbv
        subst hΩ
        simp (disch := omega) only [Om.real, nc, Nat.succ_eq_add_one, Int.ofNat_eq_natCast, Int.toNat_natCast, ia_nn, ia_nl, ia_ln, is_nn, is_nl, is_ln, im_nn, im_nl, im_ln, iq_nn, iq_nl, ir_nn, ir_nl, cl_nn, cl_nl, cl_ln, cle_nn, cle_nl, cle_ln, cg_nn, cg_nl, cg_ln, cge_nn, cge_nl, ce_nn, ce_nl, cn_nn, cn_nl]
        refine ⟨trivial, ?_⟩
        rw [hu', hu]
        rfl
      · intro hd
        cbv
        rw [hΩ] at hd; simp (disch := omega) only [Om.real, nc, Nat.succ_eq_add_one, Int.ofNat_eq_natCast, Int.toNat_natCast, ia_nn, ia_nl, ia_ln, is_nn, is_nl, is_ln, im_nn, im_nl, im_ln, iq_nn, iq_nl, ir_nn, ir_nl, cl_nn, cl_nl, cl_ln, cle_nn, cle_nl, cle_ln, cg_nn, cg_nl, cg_ln, cge_nn, cge_nl, ce_nn, ce_nl, cn_nn, cn_nl, decide_eq_true_eq, decide_eq_false_iff_not] at hd
        refine hQ (u, 0) _ _ _ ?_ ?_
        · have : i = b.length := by omega
          rw [hu, this]
          exact (if_neg hc).symm
        · cbv
end Go.Sx.Tryd
end
section
namespace Go.Sx
theorem good_fr {k : IntKind} {args : List SVal} {p : Prop} {post : List Int × Nat → Prop} (hc : IdsLtL noId args) (h : p → ∃ x, post x) : PR.Good ⟨p, List Int × Nat, post, fun z => .fr k z.1 z.2⟩ args :=
  ⟨fun _ => trivial, (fun E x b q hq => by simp [place] at hq; subst hq; exact ⟨Nat.le_refl _, by simp⟩), fun _ => hc, h⟩
end Go.Sx
namespace Go.Sx.Tryd
open Go.Proofs
/-- A lane's bytes, the first so many. -/
def lbUp (l : Int) : Nat → List Int
  | 0 => []
  | k + 1 => lbUp l k ++ [IntKind.u8.wrap (binL .shr .u64 l ((8 * k : Nat) : Int))]
theorem lbUp_len (l : Int) : ∀ n, (lbUp l n).length = n
  | 0 => rfl
  | n + 1 => by simp [lbUp, lbUp_len l n]
def bytesUp (s : List Int) : Nat → List Int
  | 0 => []
  | i + 1 => bytesUp s i ++ lbUp (s.getD i 0) 8
theorem bytesUp_len (s : List Int) : ∀ n, (bytesUp s n).length = 8 * n
  | 0 => rfl
  | n + 1 => by simp [bytesUp, bytesUp_len s n, lbUp_len]; omega
def s20 : PSpec := fun args => match args with
  | [.row .u64 25 s] => ⟨∀ _ : Unit, s.length = 25, List Int × Nat, fun z => z.1 = bytesUp s 25 ∧ 200 ≤ z.2, fun z => .fr .u8 z.1 z.2⟩
  | _ => PR.none
set_option maxHeartbeats 4000000 in
theorem c20 : Ctr Tryd.prog T glob 20 s20 := by
  refine ctr_of T_ok glob_ids mixed [] [] c_nil i_nil  Tryd.func20 (by rfl) (by kernel_rfl) Tryd.call20 ?_ ?_
  · intro args; unfold s20; split
    · exact good_fr ⟨trivial, trivial⟩ fun _ => ⟨(_, 200), rfl, Nat.le_refl _⟩
    · exact PR.good_none
  · intro P Ω hΩ hE hI hm args pr hs hp Q hQ
    unfold s20 at hs
    split at hs <;> subst hs <;> try (exact hp.elim)
    rename_i s
    have ls := hp ()
    refine ⟨1000, ?_⟩
    cbv
    refine loop_inv hE hI hm (fun x : Nat × Nat × Nat × List Int => (mkT 25 [(3, .sl 40 1 (.l 0) (.s x.2.1) (.s x.2.2.1)), (7, .row .u64 25 s), (8, .int .i64 x.1)], [(40, .seq .u8 x.2.2.2)])) (fun x => x.1 ≤ 25 ∧ x.2.1 = 8 * x.1 ∧ x.2.2.2 = bytesUp s x.1 ∧ x.2.1 ≤ x.2.2.1) (fun x => 25 - x.1) 1 ⟨(0, 0, 0, []), [none], ⟨Nat.zero_le _, rfl, rfl, Nat.le_refl _⟩, by decide, ?_⟩ fun ⟨i, len, cap, out⟩ ⟨hi, hl, ho, hc⟩ => ⟨1000, ?_⟩
    · cbv
    dsimp only at hi hl ho hc
    cbv
    constructor
    · intro hd
      cbv
      rw [hΩ] at hd; simp (disch := omega) only [Om.real, nc, Nat.succ_eq_add_one, Int.ofNat_eq_natCast, Int.toNat_natCast, ia_nn, ia_nl, ia_ln, is_nn, is_nl, is_ln, im_nn, im_nl, im_ln, iq_nn, iq_nl, ir_nn, ir_nl, cl_nn, cl_nl, cl_ln, cle_nn, cle_nl, cle_ln, cg_nn, cg_nl, cg_ln, cge_nn, cge_nl, ce_nn, ce_nl, cn_nn, cn_nl, decide_eq_true_eq, decide_eq_false_iff_not] at hd
      repeat (refine ⟨by ((try intro _); (try subst hΩ); simp (disch := omega) only [Om.real, nc, Nat.succ_eq_add_one, Int.ofNat_eq_natCast, Int.toNat_natCast, ia_nn, ia_nl, ia_ln, is_nn, is_nl, is_ln, im_nn, im_nl, im_ln, iq_nn, iq_nl, ir_nn, ir_nl, cl_nn, cl_nl, cl_ln, cle_nn, cle_nl, cle_ln, cg_nn, cg_nl, cg_ln, cge_nn, cge_nl, ce_nn, ce_nl, cn_nn, cn_nl, SN.v]; omega), ?_⟩)
      obtain ⟨l, hll⟩ : ∃ l, l = s.getD i 0 := ⟨_, rfl⟩
      refine loop_inv hE hI hm (fun x : Nat × Nat × Nat × List Int => (mkT 25 [(3, .sl 80 1 (.l 0) (.s x.2.1) (.s x.2.2.1)), (5, .int .u64 l), (7, .row .u64 25 s), (8, .int .i64 i), (11, .int .i64 x.1)], [(80, .seq .u8 x.2.2.2)])) (fun x => x.1 ≤ 8 ∧ x.2.1 = 8 * i + x.1 ∧ x.2.2.2 = bytesUp s i ++ lbUp l x.1 ∧ x.2.1 ≤ x.2.2.1) (fun x => 8 - x.1) 1 ⟨(0, len, cap, out), [some 40], ⟨Nat.zero_le _, hl, by rw [ho]; exact (List.append_nil _).symm, hc⟩, by decide, ?_⟩ fun ⟨k, len', cap', out'⟩ ⟨hk, hl', ho', hc'⟩ => ⟨1000, ?_⟩
      · cbv
        subst hΩ
        simp (disch := omega) only [Om.real, nc, Nat.succ_eq_add_one, Int.ofNat_eq_natCast, Int.toNat_natCast, ia_nn, ia_nl, ia_ln, is_nn, is_nl, is_ln, im_nn, im_nl, im_ln, iq_nn, iq_nl, ir_nn, ir_nl, cl_nn, cl_nl, cl_ln, cle_nn, cle_nl, cle_ln, cg_nn, cg_nl, cg_ln, cge_nn, cge_nl, ce_nn, ce_nl, cn_nn, cn_nl]
        exact ⟨hll.symm, rfl, trivial⟩
      dsimp only at hk hl' ho' hc'
      have hol : out'.length = len' := by rw [ho', List.length_append, bytesUp_len, lbUp_len, hl']
      cbv
      constructor
      · intro he
        cbv
        rw [hΩ] at he; simp (disch := omega) only [Om.real, nc, Nat.succ_eq_add_one, Int.ofNat_eq_natCast, Int.toNat_natCast, ia_nn, ia_nl, ia_ln, is_nn, is_nl, is_ln, im_nn, im_nl, im_ln, iq_nn, iq_nl, ir_nn, ir_nl, cl_nn, cl_nl, cl_ln, cle_nn, cle_nl, cle_ln, cg_nn, cg_nl, cg_ln, cge_nn, cge_nl, ce_nn, ce_nl, cn_nn, cn_nl, decide_eq_true_eq, decide_eq_false_iff_not] at he
        repeat (refine ⟨by ((try intro _); (try subst hΩ); simp (disch := omega) only [Om.real, nc, Nat.succ_eq_add_one, Int.ofNat_eq_natCast, Int.toNat_natCast, ia_nn, ia_nl, ia_ln, is_nn, is_nl, is_ln, im_nn, im_nl, im_ln, iq_nn, iq_nl, ir_nn, ir_nl, cl_nn, cl_nl, cl_ln, cle_nn, cle_nl, cle_ln, cg_nn, cg_nl, cg_ln, cge_nn, cge_nl, ce_nn, ce_nl, cn_nn, cn_nl, SN.v]; omega), ?_⟩)
        refine ⟨(fun _ => ⟨(show 0 + len' * 1 ≤ out'.length by omega), (show 0 + 1 * 1 ≤ 1 by omega)⟩), fun cap2 hcap2 => ?_⟩; simp only [SN.v] at hcap2
        obtain ⟨o2, ho2⟩ : ∃ o2, o2 = bytesUp s i ++ lbUp l (k + 1) := ⟨_, rfl⟩
        obtain ⟨l2, hl2⟩ : ∃ l2, l2 = len' + 1 := ⟨_, rfl⟩
        cbv
        refine ⟨(k + 1, l2, cap2, o2), [some 168], ⟨by dsimp only; omega, by dsimp only; omega, ho2, by dsimp only; omega⟩, by dsimp only; omega, by simp, ?_⟩
        cbv
        subst hΩ
        simp (disch := omega) only [Om.real, nc, Nat.succ_eq_add_one, Int.ofNat_eq_natCast, Int.toNat_natCast, ia_nn, ia_nl, ia_ln, is_nn, is_nl, is_ln, im_nn, im_nl, im_ln, iq_nn, iq_nl, ir_nn, ir_nl, cl_nn, cl_nl, cl_ln, cle_nn, cle_nl, cle_ln, cg_nn, cg_nl, cg_ln, cge_nn, cge_nl, ce_nn, ce_nl, cn_nn, cn_nl]
        refine ⟨hl2.symm, trivial, ?_⟩
        rw [ho2, lbUp, ← List.append_assoc, ← ho', List.drop_zero, List.take_of_length_le (by omega)]
      · intro he
        cbv
        rw [hΩ] at he; simp (disch := omega) only [Om.real, nc, Nat.succ_eq_add_one, Int.ofNat_eq_natCast, Int.toNat_natCast, ia_nn, ia_nl, ia_ln, is_nn, is_nl, is_ln, im_nn, im_nl, im_ln, iq_nn, iq_nl, ir_nn, ir_nl, cl_nn, cl_nl, cl_ln, cle_nn, cle_nl, cle_ln, cg_nn, cg_nl, cg_ln, cge_nn, cge_nl, ce_nn, ce_nl, cn_nn, cn_nl, decide_eq_true_eq, decide_eq_false_iff_not] at he
        have hk8 : k = 8 := by omega
        refine ⟨(i + 1, len', cap', out'), [some 80], ⟨by dsimp only; omega, by dsimp only; omega, by dsimp only; rw [ho', hk8, hll]; rfl, by dsimp only; omega⟩, by dsimp only; omega, by simp, ?_⟩
        cbv
        subst hΩ
        simp (disch := omega) only [Om.real, nc, Nat.succ_eq_add_one, Int.ofNat_eq_natCast, Int.toNat_natCast, ia_nn, ia_nl, ia_ln, is_nn, is_nl, is_ln, im_nn, im_nl, im_ln, iq_nn, iq_nl, ir_nn, ir_nl, cl_nn, cl_nl, cl_ln, cle_nn, cle_nl, cle_ln, cg_nn, cg_nl, cg_ln, cge_nn, cge_nl, ce_nn, ce_nl, cn_nn, cn_nl]
        exact ⟨trivial, trivial⟩
    · intro hd
      cbv
      rw [hΩ] at hd; simp (disch := omega) only [Om.real, nc, Nat.succ_eq_add_one, Int.ofNat_eq_natCast, Int.toNat_natCast, ia_nn, ia_nl, ia_ln, is_nn, is_nl, is_ln, im_nn, im_nl, im_ln, iq_nn, iq_nl, ir_nn, ir_nl, cl_nn, cl_nl, cl_ln, cle_nn, cle_nl, cle_ln, cg_nn, cg_nl, cg_ln, cge_nn, cge_nl, ce_nn, ce_nl, cn_nn, cn_nl, decide_eq_true_eq, decide_eq_false_iff_not] at hd
      have hi25 : i = 25 := by omega
      subst hi25
      have hol : out.length = len := by rw [ho, bytesUp_len, hl]
      refine hQ (out, cap) _ _ _ ⟨ho, by dsimp only; omega⟩ ?_
      refine ⟨rfl, rfl, ?_, ?_⟩
      · show 0 + len ≤ out.length
        omega
      · subst hΩ
        show out = (out.drop 0).take len
        rw [List.drop_zero, List.take_of_length_le (by omega)]
end Go.Sx.Tryd
end
section
namespace Go.Sx.Tryd
open Go.Proofs
/-- A lane's bytes by division, and what is left. -/
def rbUp (l : Int) : Nat → List Int × Int
  | 0 => ([], l)
  | k + 1 => ((rbUp l k).1 ++ [IntKind.u8.wrap (binL .rem .u64 (rbUp l k).2 256)], binL .quo .u64 (rbUp l k).2 256)
theorem rbUp_len (l : Int) : ∀ n, (rbUp l n).1.length = n
  | 0 => rfl
  | n + 1 => by simp [rbUp, rbUp_len l n]
def refBytesUp (s : List Int) : Nat → List Int
  | 0 => []
  | i + 1 => refBytesUp s i ++ (rbUp (s.getD i 0) 8).1
theorem refBytesUp_len (s : List Int) : ∀ n, (refBytesUp s n).length = 8 * n
  | 0 => rfl
  | n + 1 => by simp [refBytesUp, refBytesUp_len s n, rbUp_len]; omega
def s18 : PSpec := fun args => match args with
  | [.row .u64 25 s] => ⟨∀ _ : Unit, s.length = 25, List Int × Nat, fun z => z.1 = refBytesUp s 25 ∧ 200 ≤ z.2, fun z => .fr .u8 z.1 z.2⟩
  | _ => PR.none
set_option maxHeartbeats 4000000 in
theorem c18 : Ctr Tryd.prog T glob 18 s18 := by
  refine ctr_of T_ok glob_ids mixed [] [] c_nil i_nil  Tryd.func18 (by rfl) (by kernel_rfl) Tryd.call18 ?_ ?_
  · intro args; unfold s18; split
    · exact good_fr ⟨trivial, trivial⟩ fun _ => ⟨(_, 200), rfl, Nat.le_refl _⟩
    · exact PR.good_none
  · intro P Ω hΩ hE hI hm args pr hs hp Q hQ
    unfold s18 at hs
    split at hs <;> subst hs <;> try (exact hp.elim)
    rename_i s
    have ls := hp ()
    refine ⟨1000, ?_⟩
    cbv
    refine loop_inv hE hI hm (fun x : Nat × Nat × Nat × List Int => (mkT 27 [(1, .ptr 0 (.l 0)), (3, .sl 32 1 (.l 0) (.s x.2.1) (.s x.2.2.1)), (4, .int .i64 x.1)], [(32, .seq .u8 x.2.2.2), (0, .row .u64 25 s)])) (fun x => x.1 ≤ 25 ∧ x.2.1 = 8 * x.1 ∧ x.2.2.2 = refBytesUp s x.1 ∧ x.2.1 ≤ x.2.2.1) (fun x => 25 - x.1) 1 ⟨(0, 0, 0, []), [none], ⟨Nat.zero_le _, rfl, rfl, Nat.le_refl _⟩, by decide, ?_⟩ fun ⟨i, len, cap, out⟩ ⟨hi, hl, ho, hc⟩ => ⟨1000, ?_⟩
    · cbv
      exact ⟨rfl, trivial⟩
    dsimp only at hi hl ho hc
    cbv
    constructor
    · intro hd
      cbv
      rw [hΩ] at hd; simp (disch := omega) only [Om.real, nc, Nat.succ_eq_add_one, Int.ofNat_eq_natCast, Int.toNat_natCast, ia_nn, ia_nl, ia_ln, is_nn, is_nl, is_ln, im_nn, im_nl, im_ln, iq_nn, iq_nl, ir_nn, ir_nl, cl_nn, cl_nl, cl_ln, cle_nn, cle_nl, cle_ln, cg_nn, cg_nl, cg_ln, cge_nn, cge_nl, ce_nn, ce_nl, cn_nn, cn_nl, decide_eq_true_eq, decide_eq_false_iff_not] at hd
      repeat (refine ⟨by ((try intro _); (try subst hΩ); simp (disch := omega) only [Om.real, nc, Nat.succ_eq_add_one, Int.ofNat_eq_natCast, Int.toNat_natCast, ia_nn, ia_nl, ia_ln, is_nn, is_nl, is_ln, im_nn, im_nl, im_ln, iq_nn, iq_nl, ir_nn, ir_nl, cl_nn, cl_nl, cl_ln, cle_nn, cle_nl, cle_ln, cg_nn, cg_nl, cg_ln, cge_nn, cge_nl, ce_nn, ce_nl, cn_nn, cn_nl, SN.v]; omega), ?_⟩)
      obtain ⟨l, hll⟩ : ∃ l, l = s.getD i 0 := ⟨_, rfl⟩
      refine loop_inv hE hI hm (fun x : Nat × Nat × Nat × Int × List Int => (mkT 27 [(1, .ptr 0 (.l 0)), (3, .sl 96 1 (.l 0) (.s x.2.1) (.s x.2.2.1)), (4, .int .i64 i), (5, .int .u64 x.2.2.2.1), (6, .int .i64 x.1)], [(96, .seq .u8 x.2.2.2.2), (0, .row .u64 25 s)])) (fun x => x.1 ≤ 8 ∧ x.2.1 = 8 * i + x.1 ∧ x.2.2.2.1 = (rbUp l x.1).2 ∧ x.2.2.2.2 = refBytesUp s i ++ (rbUp l x.1).1 ∧ x.2.1 ≤ x.2.2.1) (fun x => 8 - x.1) 1 ⟨(0, len, cap, l, out), [some 32], ⟨Nat.zero_le _, hl, rfl, by rw [ho]; exact (List.append_nil _).symm, hc⟩, by decide, ?_⟩ fun ⟨k, len', cap', r, out'⟩ ⟨hk, hl', hr, ho', hc'⟩ => ⟨1000, ?_⟩
      · cbv
        subst hΩ
        simp (disch := omega) only [Om.real, nc, Nat.succ_eq_add_one, Int.ofNat_eq_natCast, Int.toNat_natCast, ia_nn, ia_nl, ia_ln, is_nn, is_nl, is_ln, im_nn, im_nl, im_ln, iq_nn, iq_nl, ir_nn, ir_nl, cl_nn, cl_nl, cl_ln, cle_nn, cle_nl, cle_ln, cg_nn, cg_nl, cg_ln, cge_nn, cge_nl, ce_nn, ce_nl, cn_nn, cn_nl]
        exact ⟨hll.symm, rfl, trivial⟩
      dsimp only at hk hl' hr ho' hc'
      have hol : out'.length = len' := by rw [ho', List.length_append, refBytesUp_len, rbUp_len, hl']
      cbv
      constructor
      · intro he
        cbv
        rw [hΩ] at he; simp (disch := omega) only [Om.real, nc, Nat.succ_eq_add_one, Int.ofNat_eq_natCast, Int.toNat_natCast, ia_nn, ia_nl, ia_ln, is_nn, is_nl, is_ln, im_nn, im_nl, im_ln, iq_nn, iq_nl, ir_nn, ir_nl, cl_nn, cl_nl, cl_ln, cle_nn, cle_nl, cle_ln, cg_nn, cg_nl, cg_ln, cge_nn, cge_nl, ce_nn, ce_nl, cn_nn, cn_nl, decide_eq_true_eq, decide_eq_false_iff_not] at he
        repeat (refine ⟨by ((try intro _); (try subst hΩ); simp (disch := omega) only [Om.real, nc, Nat.succ_eq_add_one, Int.ofNat_eq_natCast, Int.toNat_natCast, ia_nn, ia_nl, ia_ln, is_nn, is_nl, is_ln, im_nn, im_nl, im_ln, iq_nn, iq_nl, ir_nn, ir_nl, cl_nn, cl_nl, cl_ln, cle_nn, cle_nl, cle_ln, cg_nn, cg_nl, cg_ln, cge_nn, cge_nl, ce_nn, ce_nl, cn_nn, cn_nl, SN.v]; omega), ?_⟩)
        refine ⟨(fun _ => ⟨(show 0 + len' * 1 ≤ out'.length by omega), (show 0 + 1 * 1 ≤ 1 by omega)⟩), fun cap2 hcap2 => ?_⟩; simp only [SN.v] at hcap2
        obtain ⟨o2, ho2⟩ : ∃ o2, o2 = refBytesUp s i ++ (rbUp l (k + 1)).1 := ⟨_, rfl⟩
        obtain ⟨r2, hr2⟩ : ∃ r2, r2 = (rbUp l (k + 1)).2 := ⟨_, rfl⟩
        obtain ⟨l2, hl2⟩ : ∃ l2, l2 = len' + 1 := ⟨_, rfl⟩
        cbv
        refine ⟨(k + 1, l2, cap2, r2, o2), [some 160], ⟨by dsimp only; omega, by dsimp only; omega, hr2, ho2, by dsimp only; omega⟩, by dsimp only; omega, by simp, ?_⟩
        cbv
        subst hΩ
        simp (disch := omega) only [Om.real, nc, Nat.succ_eq_add_one, Int.ofNat_eq_natCast, Int.toNat_natCast, ia_nn, ia_nl, ia_ln, is_nn, is_nl, is_ln, im_nn, im_nl, im_ln, iq_nn, iq_nl, ir_nn, ir_nl, cl_nn, cl_nl, cl_ln, cle_nn, cle_nl, cle_ln, cg_nn, cg_nl, cg_ln, cge_nn, cge_nl, ce_nn, ce_nl, cn_nn, cn_nl]
        refine ⟨hl2.symm, by rw [hr2, rbUp, ← hr], trivial, ?_, trivial⟩
        rw [ho2, rbUp, ← List.append_assoc, ← ho', List.drop_zero, List.take_of_length_le (by omega), ← hr]
      · intro he
        cbv
        rw [hΩ] at he; simp (disch := omega) only [Om.real, nc, Nat.succ_eq_add_one, Int.ofNat_eq_natCast, Int.toNat_natCast, ia_nn, ia_nl, ia_ln, is_nn, is_nl, is_ln, im_nn, im_nl, im_ln, iq_nn, iq_nl, ir_nn, ir_nl, cl_nn, cl_nl, cl_ln, cle_nn, cle_nl, cle_ln, cg_nn, cg_nl, cg_ln, cge_nn, cge_nl, ce_nn, ce_nl, cn_nn, cn_nl, decide_eq_true_eq, decide_eq_false_iff_not] at he
        have hk8 : k = 8 := by omega
        refine ⟨(i + 1, len', cap', out'), [some 96], ⟨by dsimp only; omega, by dsimp only; omega, by dsimp only; rw [ho', hk8, hll]; rfl, by dsimp only; omega⟩, by dsimp only; omega, by simp, ?_⟩
        cbv
        subst hΩ
        simp (disch := omega) only [Om.real, nc, Nat.succ_eq_add_one, Int.ofNat_eq_natCast, Int.toNat_natCast, ia_nn, ia_nl, ia_ln, is_nn, is_nl, is_ln, im_nn, im_nl, im_ln, iq_nn, iq_nl, ir_nn, ir_nl, cl_nn, cl_nl, cl_ln, cle_nn, cle_nl, cle_ln, cg_nn, cg_nl, cg_ln, cge_nn, cge_nl, ce_nn, ce_nl, cn_nn, cn_nl]
        exact ⟨trivial, trivial⟩
    · intro hd
      cbv
      rw [hΩ] at hd; simp (disch := omega) only [Om.real, nc, Nat.succ_eq_add_one, Int.ofNat_eq_natCast, Int.toNat_natCast, ia_nn, ia_nl, ia_ln, is_nn, is_nl, is_ln, im_nn, im_nl, im_ln, iq_nn, iq_nl, ir_nn, ir_nl, cl_nn, cl_nl, cl_ln, cle_nn, cle_nl, cle_ln, cg_nn, cg_nl, cg_ln, cge_nn, cge_nl, ce_nn, ce_nl, cn_nn, cn_nl, decide_eq_true_eq, decide_eq_false_iff_not] at hd
      have hi25 : i = 25 := by omega
      subst hi25
      have hol : out.length = len := by rw [ho, refBytesUp_len, hl]
      refine hQ (out, cap) _ _ _ ⟨ho, by dsimp only; omega⟩ ?_
      refine ⟨rfl, rfl, ?_, ?_⟩
      · show 0 + len ≤ out.length
        omega
      · subst hΩ
        show out = (out.drop 0).take len
        rw [List.drop_zero, List.take_of_length_le (by omega)]
end Go.Sx.Tryd
end
section
namespace Go.Sx.Tryd
open Go.Proofs
def s19 : PSpec := fun args => match args with
  | [.roi .u8 xs, .roi .u8 ys] => ⟨∀ _ : Unit, xs.length < 4611686018427387904 ∧ ys.length < 4611686018427387904, Bool, fun b => b = (xs == ys), fun b => .bs b⟩
  | _ => PR.none
set_option maxHeartbeats 4000000 in
theorem c19 : Ctr Tryd.prog T glob 19 s19 := by
  refine ctr_of T_ok glob_ids mixed [] [] c_nil i_nil  Tryd.func19 (by rfl) (by kernel_rfl) Tryd.call19 ?_ ?_
  · intro args; unfold s19; split
    · exact good_bool ⟨trivial, trivial, trivial⟩ fun _ => ⟨_, rfl⟩
    · exact PR.good_none
  · intro P Ω hΩ hE hI hm args pr hs hp Q hQ
    unfold s19 at hs
    split at hs <;> subst hs <;> try (exact hp.elim)
    rename_i xs ys
    obtain ⟨lx, ly⟩ := hp ()
    refine ⟨1000, ?_⟩
    cbv
    constructor
    · intro hb
      cbv
      rw [hΩ] at hb; simp (disch := omega) only [Om.real, nc, Nat.succ_eq_add_one, Int.ofNat_eq_natCast, Int.toNat_natCast, ia_nn, ia_nl, ia_ln, is_nn, is_nl, is_ln, im_nn, im_nl, im_ln, iq_nn, iq_nl, ir_nn, ir_nl, cl_nn, cl_nl, cl_ln, cle_nn, cle_nl, cle_ln, cg_nn, cg_nl, cg_ln, cge_nn, cge_nl, ce_nn, ce_nl, cn_nn, cn_nl, decide_eq_true_eq, decide_eq_false_iff_not] at hb
      refine hQ _ _ _ _ ?_ rfl
      show false = (xs == ys)
      cases h3 : xs == ys with
      | false => rfl
      | true => exact absurd (congrArg List.length (eq_of_beq h3)) hb
    · intro hb
      cbv
      rw [hΩ] at hb; simp (disch := omega) only [Om.real, nc, Nat.succ_eq_add_one, Int.ofNat_eq_natCast, Int.toNat_natCast, ia_nn, ia_nl, ia_ln, is_nn, is_nl, is_ln, im_nn, im_nl, im_ln, iq_nn, iq_nl, ir_nn, ir_nl, cl_nn, cl_nl, cl_ln, cle_nn, cle_nl, cle_ln, cg_nn, cg_nl, cg_ln, cge_nn, cge_nl, ce_nn, ce_nl, cn_nn, cn_nl, decide_eq_true_eq, decide_eq_false_iff_not] at hb
      have hlen : xs.length = ys.length := by omega
      refine loop_inv hE hI hm (fun i : Nat => (mkT 26 [(0, .roi .u8 xs), (1, .roi .u8 ys), (5, .int .i64 i)], [])) (fun i => i ≤ xs.length ∧ xs.take i = ys.take i) (fun i => xs.length - i) 0 ⟨0, [], ⟨Nat.zero_le _, rfl⟩, Nat.le_refl _, by cbv⟩ fun i hi => ⟨1000, ?_⟩
      cbv
      constructor
      · intro hc
        cbv
        rw [hΩ] at hc; simp (disch := omega) only [Om.real, nc, Nat.succ_eq_add_one, Int.ofNat_eq_natCast, Int.toNat_natCast, ia_nn, ia_nl, ia_ln, is_nn, is_nl, is_ln, im_nn, im_nl, im_ln, iq_nn, iq_nl, ir_nn, ir_nl, cl_nn, cl_nl, cl_ln, cle_nn, cle_nl, cle_ln, cg_nn, cg_nl, cg_ln, cge_nn, cge_nl, ce_nn, ce_nl, cn_nn, cn_nl, decide_eq_true_eq, decide_eq_false_iff_not] at hc
        repeat (refine ⟨by ((try intro _); (try subst hΩ); simp (disch := omega) only [Om.real, nc, Nat.succ_eq_add_one, Int.ofNat_eq_natCast, Int.toNat_natCast, ia_nn, ia_nl, ia_ln, is_nn, is_nl, is_ln, im_nn, im_nl, im_ln, iq_nn, iq_nl, ir_nn, ir_nl, cl_nn, cl_nl, cl_ln, cle_nn, cle_nl, cle_ln, cg_nn, cg_nl, cg_ln, cge_nn, cge_nl, ce_nn, ce_nl, cn_nn, cn_nl, SN.v]; omega), ?_⟩)
        constructor
        · intro hne
          cbv
          refine hQ _ _ _ _ ?_ rfl
          subst hΩ
          have h1 : (xs.getD i 0 != ys.getD i 0) = true := hne
          show false = (xs == ys)
          cases h3 : xs == ys with
          | false => rfl
          | true => rw [eq_of_beq h3] at h1; simp at h1
        · intro hne
          cbv
          refine ⟨i + 1, [], ⟨hc, ?_⟩, by omega, Nat.zero_le _, ?_⟩
          · subst hΩ
            have h1 : (xs.getD i 0 != ys.getD i 0) = false := hne
            rw [bne_eq_false_iff_eq] at h1
            rw [List.take_succ_eq_append_getElem hc, List.take_succ_eq_append_getElem (by omega), hi.2]
            have e1 : xs.getD i 0 = xs[i] := by simp [List.getD, hc]
            have e2 : ys.getD i 0 = ys[i]'(by omega) := by simp [List.getD, show i < ys.length by omega]
            rw [← e1, ← e2, h1]
          · cbv
            subst hΩ
            simp (disch := omega) only [Om.real, nc, Nat.succ_eq_add_one, Int.ofNat_eq_natCast, Int.toNat_natCast, ia_nn, ia_nl, ia_ln, is_nn, is_nl, is_ln, im_nn, im_nl, im_ln, iq_nn, iq_nl, ir_nn, ir_nl, cl_nn, cl_nl, cl_ln, cle_nn, cle_nl, cle_ln, cg_nn, cg_nl, cg_ln, cge_nn, cge_nl, ce_nn, ce_nl, cn_nn, cn_nl]
      · intro hc
        cbv
        rw [hΩ] at hc; simp (disch := omega) only [Om.real, nc, Nat.succ_eq_add_one, Int.ofNat_eq_natCast, Int.toNat_natCast, ia_nn, ia_nl, ia_ln, is_nn, is_nl, is_ln, im_nn, im_nl, im_ln, iq_nn, iq_nl, ir_nn, ir_nl, cl_nn, cl_nl, cl_ln, cle_nn, cle_nl, cle_ln, cg_nn, cg_nl, cg_ln, cge_nn, cge_nl, ce_nn, ce_nl, cn_nn, cn_nl, decide_eq_true_eq, decide_eq_false_iff_not] at hc
        refine hQ _ _ _ _ ?_ rfl
        have : i = xs.length := by have := hi.1; omega
        subst this
        have h2 := hi.2
        rw [List.take_length, hlen, List.take_length] at h2
        show true = (xs == ys)
        rw [h2]
        simp
def ofF (b : List Int) : List Int × Int := if b.length ≠ 200 then (List.replicate 25 0, 11) else xorF (List.replicate 25 0) b
def s21 : PSpec := fun args => match args with
  | [.roi .u8 b] => ⟨∀ _ : Unit, b.length < 9223372036854775808, List Int × Int, fun z => z = ofF b, fun z => .tup [.row .u64 25 z.1, .int .i64 z.2]⟩
  | _ => PR.none
set_option maxHeartbeats 4000000 in
theorem c21 : Ctr Tryd.prog T glob 21 s21 := by
  refine ctr_of T_ok glob_ids mixed [(17, s17)] [] (c_cons c17 c_nil) i_nil  Tryd.func21 (by rfl) (by kernel_rfl) Tryd.call21 ?_ ?_
  · intro args; unfold s21; split
    · exact good_flat ⟨fun _ => ⟨trivial, trivial, trivial⟩, fun _ _ _ => rfl⟩ ⟨trivial, trivial⟩ fun _ => ⟨_, rfl⟩
    · exact PR.good_none
  · intro P Ω hΩ hE hI hm args pr hs hp Q hQ
    unfold s21 at hs
    split at hs <;> subst hs <;> try (exact hp.elim)
    rename_i b
    have lb := hp ()
    refine ⟨1000, ?_⟩
    cbv
    constructor
    · intro hc
      cbv
      rw [hΩ] at hc; simp (disch := omega) only [Om.real, nc, Nat.succ_eq_add_one, Int.ofNat_eq_natCast, Int.toNat_natCast, ia_nn, ia_nl, ia_ln, is_nn, is_nl, is_ln, im_nn, im_nl, im_ln, iq_nn, iq_nl, ir_nn, ir_nl, cl_nn, cl_nl, cl_ln, cle_nn, cle_nl, cle_ln, cg_nn, cg_nl, cg_ln, cge_nn, cge_nl, ce_nn, ce_nl, cn_nn, cn_nl, decide_eq_true_eq, decide_eq_false_iff_not] at hc
      refine hQ (List.replicate 25 0, 11) _ _ _ ?_ ?_
      · exact (if_pos hc).symm
      · cbv
    · intro hc
      cbv
      rw [hΩ] at hc; simp (disch := omega) only [Om.real, nc, Nat.succ_eq_add_one, Int.ofNat_eq_natCast, Int.toNat_natCast, ia_nn, ia_nl, ia_ln, is_nn, is_nl, is_ln, im_nn, im_nl, im_ln, iq_nn, iq_nl, ir_nn, ir_nl, cl_nn, cl_nl, cl_ln, cle_nn, cle_nl, cle_ln, cg_nn, cg_nl, cg_ln, cge_nn, cge_nl, ce_nn, ce_nl, cn_nn, cn_nl, decide_eq_true_eq, decide_eq_false_iff_not] at hc
      constructor
      · exact fun _ _ => ⟨rfl, lb⟩
      intro z hz
      cbv
      refine hQ z _ _ _ ?_ ?_
      · exact hz.trans (if_neg hc).symm
      · cbv
/-- A lane of bytes, the last of them first. -/
def inUp (b u : List Int) (i : Nat) : Nat → List Int
  | 0 => u
  | m + 1 => (inUp b u i m).set i (binL .add .u64 (binL .mul .u64 ((inUp b u i m).getD i 0) 256) (IntKind.u64.wrap (b.getD (8 * i + (7 - m)) 0)))
def refOfUp (b : List Int) : Nat → List Int
  | 0 => List.replicate 25 0
  | n + 1 => inUp b (refOfUp b n) (24 - n) 8
theorem inUp_len (b u : List Int) (i : Nat) : ∀ n, (inUp b u i n).length = u.length
  | 0 => rfl
  | n + 1 => by simp [inUp, inUp_len b u i n]
theorem refOfUp_len (b : List Int) : ∀ n, (refOfUp b n).length = 25
  | 0 => rfl
  | n + 1 => by simp [refOfUp, inUp_len, refOfUp_len b n]
def s22 : PSpec := fun args => match args with
  | [.roi .u8 b] => ⟨∀ _ : Unit, b.length = 200, List Int, fun z => z = refOfUp b 25, fun z => .row .u64 25 z⟩
  | _ => PR.none
set_option maxHeartbeats 4000000 in
theorem c22 : Ctr Tryd.prog T glob 22 s22 := by
  refine ctr_of T_ok glob_ids mixed [] [] c_nil i_nil  Tryd.func22 (by rfl) (by kernel_rfl) Tryd.call22 ?_ ?_
  · intro args; unfold s22; split
    · exact good_row ⟨trivial, trivial⟩ fun _ => ⟨_, rfl⟩
    · exact PR.good_none
  · intro P Ω hΩ hE hI hm args pr hs hp Q hQ
    unfold s22 at hs
    split at hs <;> subst hs <;> try (exact hp.elim)
    rename_i b
    have lb := hp ()
    refine ⟨1000, ?_⟩
    cbv
    refine loop_inv hE hI hm (fun x : Nat × Int × List Int => (mkT 30 [(0, .roi .u8 b), (2, .ptr 0 (.l 0)), (3, .ptr 8 (.l 0)), (4, .int .i64 x.2.1)], [(8, .row .u64 25 x.2.2), (0, .row .u64 25 (List.replicate 25 0))])) (fun x => x.1 ≤ 25 ∧ x.2.1 = 24 - (x.1 : Int) ∧ x.2.2 = refOfUp b x.1) (fun x => 25 - x.1) 0 ⟨(0, 24, List.replicate 25 0), [], ⟨Nat.zero_le _, rfl, rfl⟩, by decide, ?_⟩ fun x hj => ⟨1000, ?_⟩
    · cbv
    obtain ⟨n, i, u⟩ := x
    cbv
    obtain ⟨hn, hi, hu⟩ : n ≤ 25 ∧ i = 24 - (n : Int) ∧ u = refOfUp b n := hj
    constructor
    · intro hd
      have hd' : 0 ≤ i := by subst hΩ; exact of_decide_eq_true (show decide (0 ≤ i) = true from hd)
      obtain ⟨p, hp'⟩ : ∃ p : Nat, i = p := ⟨24 - n, by omega⟩
      subst hp'
      have hpn : p + n = 24 := by omega
      clear hi hd'
      cbv
      refine loop_inv hE hI hm (fun x : Nat × Int × List Int => (mkT 30 [(0, .roi .u8 b), (2, .ptr 0 (.l 0)), (3, .ptr 8 (.l 0)), (4, .int .i64 p), (5, .int .i64 x.2.1)], [(8, .row .u64 25 x.2.2), (0, .row .u64 25 (List.replicate 25 0))])) (fun x => x.1 ≤ 8 ∧ x.2.1 = 7 - (x.1 : Int) ∧ x.2.2 = inUp b u p x.1) (fun x => 8 - x.1) 0 ⟨(0, 7, u), [], ⟨Nat.zero_le _, rfl, rfl⟩, by decide, ?_⟩ fun x hj' => ⟨1000, ?_⟩
      · cbv
      obtain ⟨m, k, v⟩ := x
      cbv
      obtain ⟨hm', hk, hv⟩ : m ≤ 8 ∧ k = 7 - (m : Int) ∧ v = inUp b u p m := hj'
      constructor
      · intro he
        have he' : 0 ≤ k := by subst hΩ; exact of_decide_eq_true (show decide (0 ≤ k) = true from he)
        obtain ⟨q, hq'⟩ : ∃ q : Nat, k = q := ⟨7 - m, by omega⟩
        subst hq'
        have hqm : q + m = 7 := by omega
        clear hk he'
        cbv
        repeat (refine ⟨by ((try intro _); (try subst hΩ); simp (disch := omega) only [Om.real, nc, Nat.succ_eq_add_one, Int.ofNat_eq_natCast, Int.toNat_natCast, ia_nn, ia_nl, ia_ln, is_nn, is_nl, is_ln, im_nn, im_nl, im_ln, iq_nn, iq_nl, ir_nn, ir_nl, cl_nn, cl_nl, cl_ln, cle_nn, cle_nl, cle_ln, cg_nn, cg_nl, cg_ln, cge_nn, cge_nl, ce_nn, ce_nl, cn_nn, cn_nl, SN.v]; omega), ?_⟩)
        obtain ⟨v2, hv2⟩ : ∃ v2, v2 = inUp b u p (m + 1) := ⟨_, rfl⟩
        obtain ⟨k2, hk2⟩ : ∃ k2 : Int, k2 = (q : Int) - 1 := ⟨_, rfl⟩
        refine ⟨(m + 1, k2, v2), [], ⟨by dsimp only; omega, by show k2 = 7 - ((m + 1 : Nat) : Int); omega, hv2⟩, by dsimp only; omega, by simp, ?_⟩
        cbv
        subst hΩ
        simp (disch := omega) only [Om.real, nc, Nat.succ_eq_add_one, Int.ofNat_eq_natCast, Int.toNat_natCast, ia_nn, ia_nl, ia_ln, is_nn, is_nl, is_ln, im_nn, im_nl, im_ln, iq_nn, iq_nl, ir_nn, ir_nl, cl_nn, cl_nl, cl_ln, cle_nn, cle_nl, cle_ln, cg_nn, cg_nl, cg_ln, cge_nn, cge_nl, ce_nn, ce_nl, cn_nn, cn_nl]
        have e1 : binL .sub .i64 (q : Int) 1 = q - 1 := wrap_i64_id (by omega) (by omega)
        have e2 : q = 7 - m := by omega
        refine ⟨by rw [hk2, e1], ?_, trivial⟩
        rw [hv2, inUp, ← hv, ← e2]
      · intro he
        have he' : ¬ 0 ≤ k := by subst hΩ; exact of_decide_eq_false (show decide (0 ≤ k) = false from he)
        have hm8 : m = 8 := by omega
        clear hk he'
        cbv
        obtain ⟨k2, hk2⟩ : ∃ k2 : Int, k2 = p - 1 := ⟨_, rfl⟩
        have hpn' : p = 24 - n := by omega
        refine ⟨(n + 1, k2, v), [], ⟨by dsimp only; omega, by show k2 = 24 - ((n + 1 : Nat) : Int); omega, by dsimp only; rw [hv, hm8, refOfUp, ← hu, ← hpn']⟩, by dsimp only; omega, by simp, ?_⟩
        cbv
        subst hΩ
        simp (disch := omega) only [Om.real, nc, Nat.succ_eq_add_one, Int.ofNat_eq_natCast, Int.toNat_natCast, ia_nn, ia_nl, ia_ln, is_nn, is_nl, is_ln, im_nn, im_nl, im_ln, iq_nn, iq_nl, ir_nn, ir_nl, cl_nn, cl_nl, cl_ln, cle_nn, cle_nl, cle_ln, cg_nn, cg_nl, cg_ln, cge_nn, cge_nl, ce_nn, ce_nl, cn_nn, cn_nl]
        have e1 : binL .sub .i64 (p : Int) 1 = p - 1 := wrap_i64_id (by omega) (by omega)
        exact ⟨by rw [hk2, e1], trivial⟩
    · intro hd
      have hd' : ¬ 0 ≤ i := by subst hΩ; exact of_decide_eq_false (show decide (0 ≤ i) = false from hd)
      have hn25 : n = 25 := by omega
      clear hi hd'
      cbv
      refine hQ u _ _ _ (by rw [← hn25]; exact hu) ?_
      cbv
end Go.Sx.Tryd
end
section
namespace Go.Sx.Tryd
open Go.Proofs
/-- A byte of a lane. -/
def byo (x : BitVec 64) (k : Nat) : BitVec 8 := x.extractLsb' (8 * k) 8
theorem byo_bit (x : BitVec 64) (k i : Nat) (hi : i < 8) : (byo x k).getLsbD i = x.getLsbD (8 * k + i) := by
  simp [byo, BitVec.getLsbD_extractLsb', hi]
theorem lane_ext {x y : BitVec 64} (h : ∀ k, k < 8 → byo x k = byo y k) : x = y := by
  apply BitVec.eq_of_getLsbD_eq
  intro i hi
  have h1 := congrArg (fun z : BitVec 8 => z.getLsbD (i % 8)) (h (i / 8) (by omega))
  simp only [byo_bit _ _ _ (Nat.mod_lt i (by omega : 0 < 8))] at h1
  have h2 : 8 * (i / 8) + i % 8 = i := by omega
  rwa [h2] at h1
theorem wrap8 (n : Nat) : IntKind.u8.wrap (n : Int) = ((n % 256 : Nat) : Int) := by
  rw [IntKind.wrap_u8]; omega
theorem shr_byte {a : Int} (h : InR a) (k : Nat) (hk : k < 8) : IntKind.u8.wrap (binL .shr .u64 a ((8 * k : Nat) : Int)) = ((byo (lb a) k).toNat : Int) := by
  have h1 : binL .shr .u64 a ((8 * k : Nat) : Int) = a.fdiv (2 ^ (8 * k)) := by
    show a.fdiv (2 ^ (min (((8 * k : Nat) : Int)).toNat 64)) = _
    rw [Int.toNat_natCast, Nat.min_eq_left (by omega)]
  obtain ⟨h0, h2⟩ := h
  obtain ⟨n, rfl⟩ := Int.eq_ofNat_of_zero_le h0
  rw [h1]
  have h3 : (2 : Int) ^ (8 * k) = ((2 ^ (8 * k) : Nat) : Int) := by simp
  rw [h3, Int.fdiv_eq_ediv_of_nonneg _ (Int.natCast_nonneg _), ← Int.natCast_ediv, wrap8]
  congr 1
  simp only [byo, lb, BitVec.extractLsb'_toNat, BitVec.ofInt_natCast, BitVec.toNat_ofNat, Nat.shiftRight_eq_div_pow]
  rw [Nat.mod_eq_of_lt (by omega : n < 2 ^ 64)]
theorem div_byte {n : Nat} (k : Nat) (h : n < 18446744073709551616) : IntKind.u8.wrap (binL .rem .u64 ((n / 256 ^ k : Nat) : Int) 256) = ((byo (lb (n : Int)) k).toNat : Int) := by
  have h1 : binL .rem .u64 ((n / 256 ^ k : Nat) : Int) 256 = ((n / 256 ^ k % 256 : Nat) : Int) := by
    show ((n / 256 ^ k : Nat) : Int).tmod 256 = _
    rw [Int.tmod_eq_emod_of_nonneg (Int.natCast_nonneg _)]
    rfl
  rw [h1, wrap8, Nat.mod_mod]
  simp only [byo, lb, BitVec.extractLsb'_toNat, BitVec.ofInt_natCast, BitVec.toNat_ofNat, Nat.shiftRight_eq_div_pow]
  rw [Nat.mod_eq_of_lt (by omega : n < 2 ^ 64), Nat.pow_mul]
theorem rbUp_div {n : Nat} (h : n < 18446744073709551616) : ∀ k, (rbUp (n : Int) k).2 = ((n / 256 ^ k : Nat) : Int)
  | 0 => by simp [rbUp]
  | k + 1 => by
    simp only [rbUp, rbUp_div h k]
    show IntKind.u64.wrap (((n / 256 ^ k : Nat) : Int).tdiv 256) = _
    rw [Int.tdiv_eq_ediv_of_nonneg (Int.natCast_nonneg _)]
    have h1 : ((n / 256 ^ k : Nat) : Int) / 256 = ((n / 256 ^ k / 256 : Nat) : Int) := rfl
    have h2 : n / 256 ^ k / 256 ≤ n := Nat.le_trans (Nat.div_le_self _ _) (Nat.div_le_self _ _)
    rw [h1, wrap_u64_id (Int.natCast_nonneg _) (by omega), Nat.div_div_eq_div_mul, Nat.pow_succ]
theorem rb_lb {a : Int} (h : InR a) : ∀ k, k ≤ 8 → (rbUp a k).1 = lbUp a k
  | 0, _ => rfl
  | k + 1, hk => by
    obtain ⟨n, rfl⟩ := Int.eq_ofNat_of_zero_le h.1
    have h2 : n < 18446744073709551616 := by have := h.2; omega
    simp only [rbUp, lbUp]
    rw [rb_lb h k (by omega), rbUp_div h2 k, div_byte k h2, shr_byte h k (by omega)]
/-- The reference's bytes are the program's. -/
theorem refBytes_is {s : List Int} (hs : ∀ a ∈ s, InR a) : ∀ n, refBytesUp s n = bytesUp s n
  | 0 => rfl
  | n + 1 => by simp only [refBytesUp, bytesUp, refBytes_is hs n, rb_lb (inR_getD hs n) 8 (Nat.le_refl _)]
theorem getD_appl {l m : List Int} {j : Nat} (h : j < l.length) : (l ++ m).getD j 0 = l.getD j 0 := by
  simp only [List.getD_eq_getElem?_getD]
  rw [List.getElem?_append_left h]
theorem getD_appr {l m : List Int} {j : Nat} (h : l.length ≤ j) : (l ++ m).getD j 0 = m.getD (j - l.length) 0 := by
  simp only [List.getD_eq_getElem?_getD]
  rw [List.getElem?_append_right h]
theorem lbUp_getD {a : Int} (h : InR a) : ∀ n, n ≤ 8 → ∀ k, k < n → (lbUp a n).getD k 0 = ((byo (lb a) k).toNat : Int)
  | n + 1, hn, k, hk => by
    rw [lbUp]
    by_cases h1 : k < n
    · rw [getD_appl (by rw [lbUp_len]; exact h1), lbUp_getD h n (by omega) k h1]
    · have : k = n := by omega
      subst this
      rw [getD_appr (by rw [lbUp_len]; exact Nat.le_refl _), lbUp_len, Nat.sub_self, List.getD_cons_zero, shr_byte h k (by omega)]
theorem bytes_getD {s : List Int} (hs : ∀ a ∈ s, InR a) : ∀ n j, j < 8 * n → (bytesUp s n).getD j 0 = ((byo (lb (s.getD (j / 8) 0)) (j % 8)).toNat : Int)
  | n + 1, j, hj => by
    rw [bytesUp]
    by_cases h1 : j < 8 * n
    · rw [getD_appl (by rw [bytesUp_len]; exact h1), bytes_getD hs n j h1]
    · have e1 : j / 8 = n := by omega
      have e2 : j - 8 * n = j % 8 := by omega
      rw [getD_appr (by rw [bytesUp_len]; omega), bytesUp_len, e2, lbUp_getD (inR_getD hs n) 8 (Nat.le_refl _) _ (by omega), e1]
/-- A byte. -/
def InB (a : Int) : Prop := 0 ≤ a ∧ a < 256
def b8 (a : Int) : BitVec 8 := BitVec.ofInt 8 a
theorem b8_toNat {a : Int} (h : InB a) : ((b8 a).toNat : Int) = a := by
  unfold InB at h
  simp only [b8, BitVec.toNat_ofInt]
  omega
theorem b8_inj {a b : Int} (ha : InB a) (hb : InB b) (h : b8 a = b8 b) : a = b := by rw [← b8_toNat ha, ← b8_toNat hb, h]
theorem b8_nat (x : BitVec 8) : b8 (x.toNat : Int) = x := by
  apply BitVec.eq_of_toNat_eq
  simp [b8]
theorem inB_nat (x : BitVec 8) : InB (x.toNat : Int) := ⟨Int.natCast_nonneg _, by have := x.isLt; omega⟩
theorem lb_byte {a : Int} (h : InB a) : lb (IntKind.u64.wrap a) = (b8 a).setWidth 64 := by
  rw [lb, ofInt_wrap]
  apply BitVec.eq_of_toNat_eq
  have h1 := b8_toNat h
  unfold InB at h
  rw [BitVec.toNat_setWidth, Nat.mod_eq_of_lt (by have := (b8 a).isLt; omega), BitVec.toNat_ofInt]
  omega
theorem byo_xor (x : BitVec 64) (c : BitVec 8) (m k : Nat) (hm : m < 8) (hk : k < 8) : byo (x ^^^ (c.setWidth 64 <<< (8 * m))) k = if k = m then byo x k ^^^ c else byo x k := by
  apply BitVec.eq_of_getLsbD_eq
  intro i hi
  rw [byo_bit _ _ _ hi, BitVec.getLsbD_xor, BitVec.getLsbD_shiftLeft, BitVec.getLsbD_setWidth]
  have h1 : 8 * k + i < 64 := by omega
  by_cases h : k = m
  · subst h
    have h3 : 8 * k + i - 8 * k = i := by omega
    rw [if_pos rfl, BitVec.getLsbD_xor, byo_bit _ _ _ hi, h3]
    have h2 : ¬ 8 * k + i < 8 * k := by omega
    simp [h1, h2, show i < 64 by omega]
  · rw [if_neg h, byo_bit _ _ _ hi]
    by_cases h2 : 8 * k + i < 8 * m
    · simp [h2]
    · have : 8 ≤ 8 * k + i - 8 * m := by omega
      simp [BitVec.getLsbD_of_ge c _ this]
/-- A state's byte. -/
def sb (s : List Int) (j : Nat) : BitVec 8 := byo (lb (s.getD (j / 8) 0)) (j % 8)
theorem state_ext {s t : List Int} (ls : s.length = 25) (lt : t.length = 25) (hs : ∀ a ∈ s, InR a) (ht : ∀ a ∈ t, InR a) (h : ∀ j, j < 200 → sb s j = sb t j) : s = t := by
  apply List.ext_getElem (by omega)
  intro i h1 h2
  have e1 : s.getD i 0 = s[i] := by simp [List.getD, h1]
  have e2 : t.getD i 0 = t[i] := by simp [List.getD, h2]
  rw [← e1, ← e2]
  refine lb_inj (inR_getD hs i) (inR_getD ht i) (lane_ext fun k hk => ?_)
  have := h (8 * i + k) (by omega)
  unfold sb at this
  have e3 : (8 * i + k) / 8 = i := by omega
  have e4 : (8 * i + k) % 8 = k := by omega
  rwa [e3, e4] at this
theorem xorUpTo_rng {s b : List Int} (hs : ∀ a ∈ s, InR a) : ∀ n, ∀ a ∈ xorUpTo s b n, InR a
  | 0 => hs
  | n + 1 => fun a ha => by
    rcases List.mem_or_eq_of_mem_set ha with h | h
    · exact xorUpTo_rng hs n a h
    · rw [h]; exact inR_wrap _
theorem getD_set (l : List Int) (i j : Nat) (x : Int) (hi : i < l.length) : (l.set i x).getD j 0 = if i = j then x else l.getD j 0 := by
  simp only [List.getD_eq_getElem?_getD, List.getElem?_set]
  split
  · simp_all
  · rfl
theorem inB_getD {b : List Int} (hb : ∀ a ∈ b, InB a) (i : Nat) : InB (b.getD i 0) := by
  rw [List.getD_eq_getElem?_getD]
  cases h : b[i]? with
  | none => exact ⟨Int.le_refl _, by decide⟩
  | some a => exact hb a (List.mem_of_getElem? h)
theorem xor_sb {s b : List Int} (ls : s.length = 25) (hb : ∀ a ∈ b, InB a) : ∀ n, n ≤ 200 → ∀ j, j < 200 → sb (xorUpTo s b n) j = if j < n then sb s j ^^^ b8 (b.getD j 0) else sb s j
  | 0, _, j, hj => by simp [xorUpTo]
  | n + 1, hn, j, hj => by
    have ih := xor_sb ls hb n (by omega) j hj
    simp only [sb, xorUpTo]
    rw [getD_set _ _ _ _ (by rw [xorUpTo_len]; omega)]
    by_cases h : n / 8 = j / 8
    · rw [if_pos h]
      have h1 := lb_xo ((xorUpTo s b n).getD (n / 8) 0) (binL .shl .u64 (IntKind.u64.wrap (b.getD n 0)) ((8 * (n % 8) : Nat) : Int))
      rw [xo] at h1
      rw [h1, lb_shl _ _ (by omega), lb_byte (inB_getD hb n), byo_xor _ _ _ _ (by omega) (by omega)]
      unfold sb at ih
      rw [h, ih]
      by_cases h2 : j % 8 = n % 8
      · have : j = n := by omega
        subst this
        rw [if_pos h2, if_neg (by omega), if_pos (by omega)]
      · rw [if_neg h2]
        by_cases h3 : j < n
        · rw [if_pos h3, if_pos (by omega)]
        · rw [if_neg h3, if_neg (by omega)]
    · rw [if_neg h]
      unfold sb at ih
      rw [ih]
      by_cases h3 : j < n
      · rw [if_pos h3, if_pos (by omega)]
      · rw [if_neg h3, if_neg (by omega)]
theorem bytes_sb {s : List Int} (hs : ∀ a ∈ s, InR a) (j : Nat) (hj : j < 200) : (bytesUp s 25).getD j 0 = ((sb s j).toNat : Int) := bytes_getD hs 25 j hj
theorem bytes_rng {s : List Int} (hs : ∀ a ∈ s, InR a) : ∀ a ∈ bytesUp s 25, InB a := mem_map fun i hi => by
  rw [bytesUp_len] at hi
  rw [bytes_sb hs i hi]
  exact inB_nat _
theorem zeros_rng : ∀ a ∈ List.replicate 25 (0 : Int), InR a := fun a ha => by
  rw [List.eq_of_mem_replicate ha]; exact ⟨Int.le_refl _, by decide⟩
theorem zeros_sb (j : Nat) : sb (List.replicate 25 0) j = 0#8 := by
  unfold sb
  have : (List.replicate 25 (0 : Int)).getD (j / 8) 0 = 0 := by
    simp only [List.getD_eq_getElem?_getD, List.getElem?_replicate]
    split <;> rfl
  rw [this]
  apply BitVec.eq_of_getLsbD_eq
  intro i hi
  rw [byo_bit _ _ _ hi]
  have : lb 0 = 0#64 := rfl
  rw [this]
  simp
/-- Bytes of a state are those of the state. -/
theorem of_bytes {s : List Int} (ls : s.length = 25) (hs : ∀ a ∈ s, InR a) : ofF (bytesUp s 25) = (s, 0) := by
  unfold ofF xorF
  rw [if_neg (by rw [bytesUp_len]; decide), if_neg (by rw [bytesUp_len]; decide), bytesUp_len]
  refine congrArg (·, (0 : Int)) (state_ext (by rw [xorUpTo_len]; rfl) ls (xorUpTo_rng zeros_rng _) hs fun j hj => ?_)
  rw [xor_sb rfl (bytes_rng hs) _ (by omega) j hj, if_pos (by omega), zeros_sb, bytes_sb hs j hj, b8_nat]
  simp
theorem bytes_ext {b c : List Int} (hl : b.length = c.length) (h : ∀ j, j < b.length → b.getD j 0 = c.getD j 0) : b = c := by
  apply List.ext_getElem hl
  intro i h1 h2
  have := h i h1
  simpa [List.getD, h1, h2] using this
theorem bytes_of {b : List Int} (lb' : b.length = 200) (hb : ∀ a ∈ b, InB a) : bytesUp (ofF b).1 25 = b := by
  have e : (ofF b).1 = xorUpTo (List.replicate 25 0) b 200 := by
    unfold ofF xorF
    rw [if_neg (by omega), if_neg (by omega), lb']
  rw [e]
  refine bytes_ext (by rw [bytesUp_len, lb']) fun j hj => ?_
  rw [bytesUp_len] at hj
  rw [bytes_sb (xorUpTo_rng zeros_rng _) j hj, xor_sb rfl hb _ (Nat.le_refl _) j hj, if_pos (by omega), zeros_sb]
  rw [BitVec.zero_xor, b8_toNat (inB_getD hb j)]
end Go.Sx.Tryd
end
section
namespace Go.Sx.Tryd
open Go.Proofs
theorem lb_add (a b : Int) : lb (binL .add .u64 a b) = lb a + lb b := by
  show lb (IntKind.u64.wrap (a + b)) = _
  rw [lb, ofInt_wrap, BitVec.ofInt_add]; rfl
theorem lb_mul (a b : Int) : lb (binL .mul .u64 a b) = lb a * lb b := by
  show lb (IntKind.u64.wrap (a * b)) = _
  rw [lb, ofInt_wrap, BitVec.ofInt_mul]; rfl
theorem horner (x : BitVec 64) (c : BitVec 8) : x * lb 256 + c.setWidth 64 = x <<< 8 ||| c.setWidth 64 := by
  have h1 : x * lb 256 = x <<< 8 := by
    rw [BitVec.shiftLeft_eq_mul_twoPow]; rfl
  rw [h1]
  apply BitVec.add_eq_or_of_and_eq_zero
  apply BitVec.eq_of_getLsbD_eq
  intro i hi
  simp only [BitVec.getLsbD_and, BitVec.getLsbD_shiftLeft, BitVec.getLsbD_setWidth, BitVec.getLsbD_zero]
  by_cases h : i < 8
  · simp [h]
  · simp [BitVec.getLsbD_of_ge c i (by omega)]
theorem byo_horner (x : BitVec 64) (c : BitVec 8) (k : Nat) (hk : k < 8) : byo (x * lb 256 + c.setWidth 64) k = if k = 0 then c else byo x (k - 1) := by
  rw [horner]
  apply BitVec.eq_of_getLsbD_eq
  intro i hi
  rw [byo_bit _ _ _ hi, BitVec.getLsbD_or, BitVec.getLsbD_shiftLeft, BitVec.getLsbD_setWidth]
  by_cases h : k = 0
  · subst h
    simp [hi, show i < 64 by omega]
  · rw [if_neg h, byo_bit _ _ _ hi]
    have e1 : 8 * k + i - 8 = 8 * (k - 1) + i := by omega
    rw [e1, BitVec.getLsbD_of_ge c _ (by omega)]
    simp [show 8 * k + i < 64 by omega, show ¬ 8 * k + i < 8 by omega]
theorem inUp_other (b u : List Int) (i j : Nat) (hi : i < u.length) (hij : i ≠ j) : ∀ m, (inUp b u i m).getD j 0 = u.getD j 0
  | 0 => rfl
  | m + 1 => by
    rw [inUp, getD_set _ _ _ _ (by rw [inUp_len]; exact hi), if_neg hij, inUp_other b u i j hi hij m]
theorem inUp_lane {b u : List Int} (hb : ∀ a ∈ b, InB a) (i : Nat) (hi : i < u.length) (h0 : u.getD i 0 = 0) : ∀ m, m ≤ 8 → ∀ k, k < 8 → byo (lb ((inUp b u i m).getD i 0)) k = if k < m then b8 (b.getD (8 * i + (8 - m + k)) 0) else 0#8
  | 0, _, k, hk => by
    rw [inUp, h0, if_neg (by omega)]
    apply BitVec.eq_of_getLsbD_eq
    intro i hi
    rw [byo_bit _ _ _ hi]
    have : lb 0 = 0#64 := rfl
    rw [this]
    simp
  | m + 1, hm, k, hk => by
    rw [inUp, getD_set _ _ _ _ (by rw [inUp_len]; exact hi), if_pos rfl, lb_add, lb_mul, lb_byte (inB_getD hb _), byo_horner _ _ _ hk]
    by_cases h : k = 0
    · subst h
      rw [if_pos rfl, if_pos (by omega)]
      congr 2; omega
    · rw [if_neg h, inUp_lane hb i hi h0 m (by omega) (k - 1) (by omega)]
      by_cases h2 : k < m + 1
      · rw [if_pos h2, if_pos (by omega)]
        congr 2; omega
      · rw [if_neg h2, if_neg (by omega)]
theorem refOf_zero (b : List Int) : ∀ n, n ≤ 25 → ∀ j, j < 25 - n → (refOfUp b n).getD j 0 = 0
  | 0, _, j, hj => by
    rw [refOfUp]
    simp only [List.getD_eq_getElem?_getD, List.getElem?_replicate]
    split <;> rfl
  | n + 1, hn, j, hj => by
    rw [refOfUp, inUp_other _ _ _ _ (by rw [refOfUp_len]; omega) (by omega), refOf_zero b n (by omega) j (by omega)]
theorem refOf_lane {b : List Int} (hb : ∀ a ∈ b, InB a) : ∀ n, n ≤ 25 → ∀ j, 25 - n ≤ j → j < 25 → ∀ k, k < 8 → byo (lb ((refOfUp b n).getD j 0)) k = b8 (b.getD (8 * j + k) 0)
  | 0, _, j, h1, h2, k, hk => by omega
  | n + 1, hn, j, h1, h2, k, hk => by
    rw [refOfUp]
    by_cases h : 24 - n = j
    · rw [h, inUp_lane hb j (by rw [refOfUp_len]; omega) (refOf_zero b n (by omega) j (by omega)) 8 (Nat.le_refl _) k hk, if_pos hk]
      congr 2; omega
    · rw [inUp_other _ _ _ _ (by rw [refOfUp_len]; omega) h, refOf_lane hb n (by omega) j (by omega) h2 k hk]
theorem inUp_rng {b u : List Int} (hu : ∀ a ∈ u, InR a) (i : Nat) : ∀ m, ∀ a ∈ inUp b u i m, InR a
  | 0 => hu
  | m + 1 => fun a ha => by
    rcases List.mem_or_eq_of_mem_set ha with h | h
    · exact inUp_rng hu i m a h
    · rw [h]; exact inR_wrap _
theorem refOf_rng (b : List Int) : ∀ n, ∀ a ∈ refOfUp b n, InR a
  | 0 => zeros_rng
  | n + 1 => inUp_rng (refOf_rng b n) _ 8
/-- The reference's state of bytes is the program's. -/
theorem refOf_is {b : List Int} (lb' : b.length = 200) (hb : ∀ a ∈ b, InB a) : ofF b = (refOfUp b 25, 0) := by
  unfold ofF xorF
  rw [if_neg (by omega), if_neg (by omega), lb']
  refine congrArg (·, (0 : Int)) (state_ext (by rw [xorUpTo_len]; rfl) (refOfUp_len b 25) (xorUpTo_rng zeros_rng _) (refOf_rng b 25) fun j hj => ?_)
  rw [xor_sb rfl hb _ (Nat.le_refl _) j hj, if_pos hj, zeros_sb, BitVec.zero_xor]
  unfold sb
  rw [refOf_lane hb 25 (Nat.le_refl _) (j / 8) (by omega) (by omega) (j % 8) (by omega)]
  congr 2; omega
/-- Turned twice, a state is what it was. -/
theorem xor_twice {s b : List Int} (ls : s.length = 25) (hs : ∀ a ∈ s, InR a) (hb : ∀ a ∈ b, InB a) (lb' : b.length ≤ 200) : xorF (xorF s b).1 b = (s, 0) := by
  have e : xorF s b = (xorUpTo s b b.length, 0) := if_neg (by omega)
  rw [e]
  have e2 : xorF (xorUpTo s b b.length) b = (xorUpTo (xorUpTo s b b.length) b b.length, 0) := if_neg (by omega)
  rw [e2]
  refine congrArg (·, (0 : Int)) (state_ext (by rw [xorUpTo_len, xorUpTo_len]; exact ls) ls (xorUpTo_rng (xorUpTo_rng hs _) _) hs fun j hj => ?_)
  rw [xor_sb (by rw [xorUpTo_len]; exact ls) hb _ lb' j hj, xor_sb ls hb _ lb' j hj]
  split
  · rw [BitVec.xor_assoc, BitVec.xor_self, BitVec.xor_zero]
  · rfl
end Go.Sx.Tryd
end
