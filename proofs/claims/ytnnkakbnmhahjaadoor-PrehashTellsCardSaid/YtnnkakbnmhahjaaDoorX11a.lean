/-
  Part of the proof of a statement: the means.
-/
import Derived.Test.YtnnkakbnmhahjaaDoorX9a
set_option linter.unusedSectionVars false
set_option linter.unusedVariables false
set_option linter.unusedSimpArgs false
set_option linter.deprecated false
section
namespace Go.Sx.Tryd
open Go.Proofs
def fairB (bss : List (List Int)) (ns : List Int) (n : Nat) : Bool := decide (∀ i < n, (bss.getD i []).length ≤ 400 ∧ ¬ (400 < ns.getD i 0 ∧ ns.getD i 0 ≤ 65536)) && decide (n ≤ 25)
theorem not_fair {bss : List (List Int)} {ns : List Int} {n i : Nat} (hi : i < n) (h : 400 < (bss.getD i []).length ∨ (400 < ns.getD i 0 ∧ ns.getD i 0 ≤ 65536)) : fairB bss ns n = false := by
  have : ¬ ∀ i < n, (bss.getD i []).length ≤ 400 ∧ ¬ (400 < ns.getD i 0 ∧ ns.getD i 0 ≤ 65536) := fun h2 => by
    have h3 := h2 i hi
    rcases h with h | h
    · omega
    · exact h3.2 h
  rw [fairB, decide_eq_false this]; rfl
def s31 : PSpec := fun args => match args with
  | [.roe [.ints .i64 ak, .byts bss, .ints .i64 ns] n] => ⟨∀ _ : Unit, n ≤ 9223372036854775807, Bool, fun b => b = fairB bss ns n, fun b => .bs b⟩
  | _ => PR.none
set_option maxHeartbeats 4000000 in
theorem c31 : Ctr Tryd.prog T glob 31 s31 := by
  refine ctr_of T_ok glob_ids mixed [] [] c_nil i_nil  Tryd.func31 (by rfl) (by kernel_rfl) Tryd.call31 ?_ ?_
  · intro args; unfold s31; split
    · exact good_bool ⟨trivial, trivial⟩ fun _ => ⟨_, rfl⟩
    · exact PR.good_none
  · intro P Ω hΩ hE hI hm args pr hs hp Q hQ
    unfold s31 at hs
    split at hs <;> subst hs <;> try (exact hp.elim)
    rename_i ak bss ns n
    have ln := hp ()
    refine ⟨1000, ?_⟩
    cbv
    refine loop_inv hE hI hm (fun i : Nat => (mkT 36 [(0, .roe [.ints .i64 ak, .byts bss, .ints .i64 ns] n), (3, .int .i64 i)], [])) (fun i => i ≤ n ∧ ∀ j < i, (bss.getD j []).length ≤ 400 ∧ ¬ (400 < ns.getD j 0 ∧ ns.getD j 0 ≤ 65536)) (fun i => n - i) 0 ⟨0, [], ⟨Nat.zero_le _, fun _ h => absurd h (Nat.not_lt_zero _)⟩, Nat.le_refl _, by cbv⟩ fun i hi => ⟨1000, ?_⟩
    obtain ⟨hi1, hi2⟩ := hi
    cbv
    constructor
    · intro hc
      cbv
      rw [hΩ] at hc; simp (disch := omega) only [Om.real, nc, Nat.succ_eq_add_one, Int.ofNat_eq_natCast, Int.toNat_natCast, ia_nn, ia_nl, ia_ln, is_nn, is_nl, is_ln, im_nn, im_nl, im_ln, iq_nn, iq_nl, ir_nn, ir_nl, cl_nn, cl_nl, cl_ln, cle_nn, cle_nl, cle_ln, cg_nn, cg_nl, cg_ln, cge_nn, cge_nl, ce_nn, ce_nl, cn_nn, cn_nl, decide_eq_true_eq, decide_eq_false_iff_not] at hc
      repeat (refine ⟨by ((try intro _); (try subst hΩ); simp (disch := omega) only [Om.real, nc, Nat.succ_eq_add_one, Int.ofNat_eq_natCast, Int.toNat_natCast, ia_nn, ia_nl, ia_ln, is_nn, is_nl, is_ln, im_nn, im_nl, im_ln, iq_nn, iq_nl, ir_nn, ir_nl, cl_nn, cl_nl, cl_ln, cle_nn, cle_nl, cle_ln, cg_nn, cg_nl, cg_ln, cge_nn, cge_nl, ce_nn, ce_nl, cn_nn, cn_nl, SN.v]; omega), ?_⟩)
      have hAt2 : Ω.at2 bss (Ω.toN (Int.ofNat i)) = bss.getD i [] := by subst hΩ; rfl
      have hAt : Ω.at' ns (Ω.toN (Int.ofNat i)) = ns.getD i 0 := by subst hΩ; rfl
      constructor
      · intro g1
        have k1 : 400 < (bss.getD i []).length := by
          have g1 : Ω.cmp .gtr (Ω.ofN (Ω.len (Ω.at2 bss (Ω.toN (Int.ofNat i))))) 400 = true := g1
          rw [hAt2] at g1; subst hΩ; have := of_decide_eq_true (show decide ((400 : Int) < ((bss.getD i []).length : Int)) = true from g1); omega
        cbv
        refine hQ _ _ _ _ ?_ rfl
        exact (not_fair (by omega) (.inl k1)).symm
      · intro g1
        have k1 : (bss.getD i []).length ≤ 400 := by
          have g1 : Ω.cmp .gtr (Ω.ofN (Ω.len (Ω.at2 bss (Ω.toN (Int.ofNat i))))) 400 = false := g1
          rw [hAt2] at g1; subst hΩ; have := of_decide_eq_false (show decide ((400 : Int) < ((bss.getD i []).length : Int)) = false from g1); omega
        cbv
        repeat (refine ⟨by ((try intro _); (try subst hΩ); simp (disch := omega) only [Om.real, nc, Nat.succ_eq_add_one, Int.ofNat_eq_natCast, Int.toNat_natCast, ia_nn, ia_nl, ia_ln, is_nn, is_nl, is_ln, im_nn, im_nl, im_ln, iq_nn, iq_nl, ir_nn, ir_nl, cl_nn, cl_nl, cl_ln, cle_nn, cle_nl, cle_ln, cg_nn, cg_nl, cg_ln, cge_nn, cge_nl, ce_nn, ce_nl, cn_nn, cn_nl, SN.v]; omega), ?_⟩)
        constructor
        · intro g2
          have k2 : 400 < ns.getD i 0 := by
            have g2 : Ω.cmp .gtr (Ω.at' ns (Ω.toN (Int.ofNat i))) 400 = true := g2
            rw [hAt] at g2; subst hΩ; exact of_decide_eq_true (show decide ((400 : Int) < ns.getD i 0) = true from g2)
          cbv
          repeat (refine ⟨by ((try intro _); (try subst hΩ); simp (disch := omega) only [Om.real, nc, Nat.succ_eq_add_one, Int.ofNat_eq_natCast, Int.toNat_natCast, ia_nn, ia_nl, ia_ln, is_nn, is_nl, is_ln, im_nn, im_nl, im_ln, iq_nn, iq_nl, ir_nn, ir_nl, cl_nn, cl_nl, cl_ln, cle_nn, cle_nl, cle_ln, cg_nn, cg_nl, cg_ln, cge_nn, cge_nl, ce_nn, ce_nl, cn_nn, cn_nl, SN.v]; omega), ?_⟩)
          constructor
          · intro g3
            have k3 : ns.getD i 0 ≤ 65536 := by
              have g3 : Ω.cmp .leq (Ω.at' ns (Ω.toN (Int.ofNat i))) 65536 = true := g3
              rw [hAt] at g3; subst hΩ; exact of_decide_eq_true (show decide (ns.getD i 0 ≤ (65536 : Int)) = true from g3)
            cbv
            refine hQ _ _ _ _ ?_ rfl
            exact (not_fair (by omega) (.inr ⟨k2, k3⟩)).symm
          · intro g3
            have k3 : 65536 < ns.getD i 0 := by
              have g3 : Ω.cmp .leq (Ω.at' ns (Ω.toN (Int.ofNat i))) 65536 = false := g3
              rw [hAt] at g3; subst hΩ; have := of_decide_eq_false (show decide (ns.getD i 0 ≤ (65536 : Int)) = false from g3); omega
            cbv
            refine ⟨i + 1, [], ⟨by omega, fun j hj => ?_⟩, by omega, Nat.zero_le _, ?_⟩
            · rcases Nat.lt_succ_iff_lt_or_eq.1 hj with h | h
              · exact hi2 j h
              · subst h; omega
            cbv
            subst hΩ
            exact ia_nl i 1 (by show i + 1 < 9223372036854775808; omega)
        · intro g2
          have k2 : ns.getD i 0 ≤ 400 := by
            have g2 : Ω.cmp .gtr (Ω.at' ns (Ω.toN (Int.ofNat i))) 400 = false := g2
            rw [hAt] at g2; subst hΩ; have := of_decide_eq_false (show decide ((400 : Int) < ns.getD i 0) = false from g2); omega
          cbv
          refine ⟨i + 1, [], ⟨by omega, fun j hj => ?_⟩, by omega, Nat.zero_le _, ?_⟩
          · rcases Nat.lt_succ_iff_lt_or_eq.1 hj with h | h
            · exact hi2 j h
            · subst h; omega
          cbv
          subst hΩ
          exact ia_nl i 1 (by show i + 1 < 9223372036854775808; omega)
    · intro hc
      cbv
      rw [hΩ] at hc; simp (disch := omega) only [Om.real, nc, Nat.succ_eq_add_one, Int.ofNat_eq_natCast, Int.toNat_natCast, ia_nn, ia_nl, ia_ln, is_nn, is_nl, is_ln, im_nn, im_nl, im_ln, iq_nn, iq_nl, ir_nn, ir_nl, cl_nn, cl_nl, cl_ln, cle_nn, cle_nl, cle_ln, cg_nn, cg_nl, cg_ln, cge_nn, cge_nl, ce_nn, ce_nl, cn_nn, cn_nl, decide_eq_true_eq, decide_eq_false_iff_not] at hc
      refine hQ _ _ _ _ ?_ rfl
      have e : decide (∀ i < n, (bss.getD i []).length ≤ 400 ∧ ¬ (400 < ns.getD i 0 ∧ ns.getD i 0 ≤ 65536)) = true := decide_eq_true fun j hj => hi2 j (by omega)
      subst hΩ
      show decide ((n : Int) ≤ 25) = fairB bss ns n
      rw [fairB, e, Bool.true_and]
      congr 1
      exact propext ⟨fun h => by omega, fun h => by omega⟩
def s54 : PSpec := fun args => match args with
  | [.roi .u8 xs] => ⟨∀ _ : Unit, xs.length ≤ 140737488355328, List Int × Nat, fun z => z.1 = xs ∧ z.1.length ≤ z.2, fun z => .fr .u8 z.1 z.2⟩
  | _ => PR.none
set_option maxHeartbeats 4000000 in
theorem c54 : Ctr Tryd.prog T glob 54 s54 := by
  refine ctr_of T_ok glob_ids mixed [] [] c_nil i_nil  Tryd.func54 (by rfl) (by kernel_rfl) Tryd.call54 ?_ ?_
  · intro args; unfold s54; split
    · exact good_fr ⟨trivial, trivial⟩ fun _ => ⟨(_, List.length _), rfl, Nat.le_refl _⟩
    · exact PR.good_none
  · intro P Ω hΩ hE hI hm args pr hs hp Q hQ
    unfold s54 at hs
    split at hs <;> subst hs <;> try (exact hp.elim)
    rename_i xs
    have lx := hp ()
    refine ⟨1000, ?_⟩
    cbv
    intro q hq
    cbv
    constructor
    · intro h
      cbv
      refine hQ ([], 0) _ _ _ ⟨(hq h).symm, Nat.le_refl _⟩ ?_
      exact ⟨rfl, rfl⟩
    · intro h
      cbv
      constructor
      · exact fun _ => by show (0 + Ω.len xs) * 1 ≤ 140737488355328; subst hΩ; show (0 + xs.length) * 1 ≤ _; omega
      constructor
      · exact fun _ => ⟨by show 0 + 0 ≤ 0; omega, trivial⟩
      intro cap hcap
      cbv
      have hcap : 0 + Ω.len xs ≤ cap := hcap
      have e : Ω.len xs = xs.length := by subst hΩ; rfl
      have hle : xs.length ≤ cap := by omega
      have hcx : Ω.cat [] xs = xs := by subst hΩ; rfl
      refine hQ (xs, cap) _ _ _ ⟨rfl, hle⟩ ?_
      refine ⟨rfl, rfl, ?_, ?_⟩
      · show 0 + Ω.len xs ≤ (Ω.cat [] xs).length
        rw [hcx]; subst hΩ; show 0 + xs.length ≤ _; omega
      · show xs = Ω.sub (Ω.cat [] xs) 0 (Ω.len xs)
        rw [hcx]; subst hΩ; exact List.take_length.symm
end Go.Sx.Tryd
end
