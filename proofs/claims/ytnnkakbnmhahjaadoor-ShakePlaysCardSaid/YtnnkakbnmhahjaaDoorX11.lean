/-
  Part of the proof of a statement: the means.
-/
import Derived.Test.YtnnkakbnmhahjaaDoorX9
import Derived.Test.YtnnkakbnmhahjaaDoorX8
import Derived.Test.YtnnkakbnmhahjaaDoorX10
set_option linter.unusedSectionVars false
set_option linter.unusedVariables false
set_option linter.unusedSimpArgs false
set_option linter.deprecated false
section
namespace Go.Sx.Tryd
open Go.Proofs
def fairB (bss : List (List Int)) (ns : List Int) (n : Nat) : Bool := decide (∀ i < n, (bss.getD i []).length ≤ 400 ∧ ¬ (400 < ns.getD i 0 ∧ ns.getD i 0 ≤ 65536)) && decide (n ≤ 25)
theorem not_fair {bss : List (List Int)} {ns : List Int} {n i : Nat} (hi : i < n) (h : 400 < (bss.getD i []).length ∨ (400 < ns.getD i 0 ∧ ns.getD i 0 ≤ 65536)) : fairB bss ns n = false := by
  have : ¬ ∀ i < n, (bss.getD i []).length ≤ 400 ∧ ¬ (400 < ns.getD i 0 ∧ ns.getD i 0 ≤ 65536) := fun h2 => by
    have h3 := h2 i hi
    rcases h with h | h
    · omega
    · exact h3.2 h
  rw [fairB, decide_eq_false this]; rfl
def s31 : PSpec := fun args => match args with
  | [.roe [.ints .i64 ak, .byts bss, .ints .i64 ns] n] => ⟨∀ _ : Unit, n ≤ 9223372036854775807, Bool, fun b => b = fairB bss ns n, fun b => .bs b⟩
  | _ => PR.none
set_option maxHeartbeats 4000000 in
theorem c31 : Ctr Tryd.prog T glob 31 s31 := by
  refine ctr_of T_ok glob_ids mixed [] [] c_nil i_nil  Tryd.func31 (by rfl) (by kernel_rfl) Tryd.call31 ?_ ?_
  · intro args; unfold s31; split
    · exact good_bool ⟨trivial, trivial⟩ fun _ => ⟨_, rfl⟩
    · exact PR.good_none
  · intro P Ω hΩ hE hI hm args pr hs hp Q hQ
    unfold s31 at hs
    split at hs <;> subst hs <;> try (exact hp.elim)
    rename_i ak bss ns n
    have ln := hp ()
    refine ⟨1000, ?_⟩
    cbv
    refine loop_inv hE hI hm (fun i : Nat => (mkT 36 [(0, .roe [.ints .i64 ak, .byts bss, .ints .i64 ns] n), (3, .int .i64 i)], [])) (fun i => i ≤ n ∧ ∀ j < i, (bss.getD j []).length ≤ 400 ∧ ¬ (400 < ns.getD j 0 ∧ ns.getD j 0 ≤ 65536)) (fun i => n - i) 0 ⟨0, [], ⟨Nat.zero_le _, fun _ h => absurd h (Nat.not_lt_zero _)⟩, Nat.le_refl _, by cbv⟩ fun i hi => ⟨1000, ?_⟩
    obtain ⟨hi1, hi2⟩ := hi
    cbv
    constructor
    · intro hc
      cbv
      rw [hΩ] at hc; simp (disch := omega) only [Om.real, nc, Nat.succ_eq_add_one, Int.ofNat_eq_natCast, Int.toNat_natCast, ia_nn, ia_nl, ia_ln, is_nn, is_nl, is_ln, im_nn, im_nl, im_ln, iq_nn, iq_nl, ir_nn, ir_nl, cl_nn, cl_nl, cl_ln, cle_nn, cle_nl, cle_ln, cg_nn, cg_nl, cg_ln, cge_nn, cge_nl, ce_nn, ce_nl, cn_nn, cn_nl, decide_eq_true_eq, decide_eq_false_iff_not] at hc
      repeat (refine ⟨by ((try intro _); (try subst hΩ); simp (disch := omega) only [Om.real, nc, Nat.succ_eq_add_one, Int.ofNat_eq_natCast, Int.toNat_natCast, ia_nn, ia_nl, ia_ln, is_nn, is_nl, is_ln, im_nn, im_nl, im_ln, iq_nn, iq_nl, ir_nn, ir_nl, cl_nn, cl_nl, cl_ln, cle_nn, cle_nl, cle_ln, cg_nn, cg_nl, cg_ln, cge_nn, cge_nl, ce_nn, ce_nl, cn_nn, cn_nl, SN.v]; omega), ?_⟩)
      have hAt2 : Ω.at2 bss (Ω.toN (Int.ofNat i)) = bss.getD i [] := by subst hΩ; rfl
      have hAt : Ω.at' ns (Ω.toN (Int.ofNat i)) = ns.getD i 0 := by subst hΩ; rfl
      constructor
      · intro g1
        have k1 : 400 < (bss.getD i []).length := by
          have g1 : Ω.cmp .gtr (Ω.ofN (Ω.len (Ω.at2 bss (Ω.toN (Int.ofNat i))))) 400 = true := g1
          rw [hAt2] at g1; subst hΩ; have := of_decide_eq_true (show decide ((400 : Int) < ((bss.getD i []).length : Int)) = true from g1); omega
        cbv
        refine hQ _ _ _ _ ?_ rfl
        exact (not_fair (by omega) (.inl k1)).symm
      · intro g1
        have k1 : (bss.getD i []).length ≤ 400 := by
          have g1 : Ω.cmp .gtr (Ω.ofN (Ω.len (Ω.at2 bss (Ω.toN (Int.ofNat i))))) 400 = false := g1
          rw [hAt2] at g1; subst hΩ; have := of_decide_eq_false (show decide ((400 : Int) < ((bss.getD i []).length : Int)) = false from g1); omega
        cbv
        repeat (refine ⟨by ((try intro _); (try subst hΩ); simp (disch := omega) only [Om.real, nc, Nat.succ_eq_add_one, Int.ofNat_eq_natCast, Int.toNat_natCast, ia_nn, ia_nl, ia_ln, is_nn, is_nl, is_ln, im_nn, im_nl, im_ln, iq_nn, iq_nl, ir_nn, ir_nl, cl_nn, cl_nl, cl_ln, cle_nn, cle_nl, cle_ln, cg_nn, cg_nl, cg_ln, cge_nn, cge_nl, ce_nn, ce_nl, cn_nn, cn_nl, SN.v]; omega), ?_⟩)
        constructor
        · intro g2
          have k2 : 400 < ns.getD i 0 := by
            have g2 : Ω.cmp .gtr (Ω.at' ns (Ω.toN (Int.ofNat i))) 400 = true := g2
            rw [hAt] at g2; subst hΩ; exact of_decide_eq_true (show decide ((400 : Int) < ns.getD i 0) = true from g2)
          cbv
          repeat (refine ⟨by ((try intro _); (try subst hΩ); simp (disch := omega) only [Om.real, nc, Nat.succ_eq_add_one, Int.ofNat_eq_natCast, Int.toNat_natCast, ia_nn, ia_nl, ia_ln, is_nn, is_nl, is_ln, im_nn, im_nl, im_ln, iq_nn, iq_nl, ir_nn, ir_nl, cl_nn, cl_nl, cl_ln, cle_nn, cle_nl, cle_ln, cg_nn, cg_nl, cg_ln, cge_nn, cge_nl, ce_nn, ce_nl, cn_nn, cn_nl, SN.v]; omega), ?_⟩)
          constructor
          · intro g3
            have k3 : ns.getD i 0 ≤ 65536 := by
              have g3 : Ω.cmp .leq (Ω.at' ns (Ω.toN (Int.ofNat i))) 65536 = true := g3
              rw [hAt] at g3; subst hΩ; exact of_decide_eq_true (show decide (ns.getD i 0 ≤ (65536 : Int)) = true from g3)
            cbv
            refine hQ _ _ _ _ ?_ rfl
            exact (not_fair (by omega) (.inr ⟨k2, k3⟩)).symm
          · intro g3
            have k3 : 65536 < ns.getD i 0 := by
              have g3 : Ω.cmp .leq (Ω.at' ns (Ω.toN (Int.ofNat i))) 65536 = false := g3
              rw [hAt] at g3; subst hΩ; have := of_decide_eq_false (show decide (ns.getD i 0 ≤ (65536 : Int)) = false from g3); omega
            cbv
            refine ⟨i + 1, [], ⟨by omega, fun j hj => ?_⟩, by omega, Nat.zero_le _, ?_⟩
            · rcases Nat.lt_succ_iff_lt_or_eq.1 hj with h | h
              · exact hi2 j h
              · subst h; omega
            cbv
            subst hΩ
            exact ia_nl i 1 (by show i + 1 < 9223372036854775808; omega)
        · intro g2
          have k2 : ns.getD i 0 ≤ 400 := by
            have g2 : Ω.cmp .gtr (Ω.at' ns (Ω.toN (Int.ofNat i))) 400 = false := g2
            rw [hAt] at g2; subst hΩ; have := of_decide_eq_false (show decide ((400 : Int) < ns.getD i 0) = false from g2); omega
          cbv
          refine ⟨i + 1, [], ⟨by omega, fun j hj => ?_⟩, by omega, Nat.zero_le _, ?_⟩
          · rcases Nat.lt_succ_iff_lt_or_eq.1 hj with h | h
            · exact hi2 j h
            · subst h; omega
          cbv
          subst hΩ
          exact ia_nl i 1 (by show i + 1 < 9223372036854775808; omega)
    · intro hc
      cbv
      rw [hΩ] at hc; simp (disch := omega) only [Om.real, nc, Nat.succ_eq_add_one, Int.ofNat_eq_natCast, Int.toNat_natCast, ia_nn, ia_nl, ia_ln, is_nn, is_nl, is_ln, im_nn, im_nl, im_ln, iq_nn, iq_nl, ir_nn, ir_nl, cl_nn, cl_nl, cl_ln, cle_nn, cle_nl, cle_ln, cg_nn, cg_nl, cg_ln, cge_nn, cge_nl, ce_nn, ce_nl, cn_nn, cn_nl, decide_eq_true_eq, decide_eq_false_iff_not] at hc
      refine hQ _ _ _ _ ?_ rfl
      have e : decide (∀ i < n, (bss.getD i []).length ≤ 400 ∧ ¬ (400 < ns.getD i 0 ∧ ns.getD i 0 ≤ 65536)) = true := decide_eq_true fun j hj => hi2 j (by omega)
      subst hΩ
      show decide ((n : Int) ≤ 25) = fairB bss ns n
      rw [fairB, e, Bool.true_and]
      congr 1
      exact propext ⟨fun h => by omega, fun h => by omega⟩
def s54 : PSpec := fun args => match args with
  | [.roi .u8 xs] => ⟨∀ _ : Unit, xs.length ≤ 140737488355328, List Int × Nat, fun z => z.1 = xs ∧ z.1.length ≤ z.2, fun z => .fr .u8 z.1 z.2⟩
  | _ => PR.none
set_option maxHeartbeats 4000000 in
theorem c54 : Ctr Tryd.prog T glob 54 s54 := by
  refine ctr_of T_ok glob_ids mixed [] [] c_nil i_nil  Tryd.func54 (by rfl) (by kernel_rfl) Tryd.call54 ?_ ?_
  · intro args; unfold s54; split
    · exact good_fr ⟨trivial, trivial⟩ fun _ => ⟨(_, List.length _), rfl, Nat.le_refl _⟩
    · exact PR.good_none
  · intro P Ω hΩ hE hI hm args pr hs hp Q hQ
    unfold s54 at hs
    split at hs <;> subst hs <;> try (exact hp.elim)
    rename_i xs
    have lx := hp ()
    refine ⟨1000, ?_⟩
    cbv
    intro q hq
    cbv
    constructor
    · intro h
      cbv
      refine hQ ([], 0) _ _ _ ⟨(hq h).symm, Nat.le_refl _⟩ ?_
      exact ⟨rfl, rfl⟩
    · intro h
      cbv
      constructor
      · exact fun _ => by show (0 + Ω.len xs) * 1 ≤ 140737488355328; subst hΩ; show (0 + xs.length) * 1 ≤ _; omega
      constructor
      · exact fun _ => ⟨by show 0 + 0 ≤ 0; omega, trivial⟩
      intro cap hcap
      cbv
      have hcap : 0 + Ω.len xs ≤ cap := hcap
      have e : Ω.len xs = xs.length := by subst hΩ; rfl
      have hle : xs.length ≤ cap := by omega
      have hcx : Ω.cat [] xs = xs := by subst hΩ; rfl
      refine hQ (xs, cap) _ _ _ ⟨rfl, hle⟩ ?_
      refine ⟨rfl, rfl, ?_, ?_⟩
      · show 0 + Ω.len xs ≤ (Ω.cat [] xs).length
        rw [hcx]; subst hΩ; show 0 + xs.length ≤ _; omega
      · show xs = Ω.sub (Ω.cat [] xs) 0 (Ω.len xs)
        rw [hcx]; subst hΩ; exact List.take_length.symm
end Go.Sx.Tryd
end
section
namespace Go.Sx.Tryd
open Go.Proofs
theorem fair_facts {bss : List (List Int)} {ns : List Int} {n : Nat} (h : fairB bss ns n = true) : n ≤ 25 ∧ ∀ i < n, (bss.getD i []).length ≤ 400 ∧ (badN (ns.getD i 0) ∨ (0 ≤ ns.getD i 0 ∧ ns.getD i 0 ≤ 400)) := by
  rw [fairB, Bool.and_eq_true, decide_eq_true_eq, decide_eq_true_eq] at h
  refine ⟨h.2, fun i hi => ⟨(h.1 i hi).1, ?_⟩⟩
  have := (h.1 i hi).2
  unfold badN
  omega
theorem write_ofE {M s r r' b b' : List Int} {c : Nat} {z : List Int × List Int × Nat} (hs : s = hrdS M) (hr : r' = r) (hr2 : r = hrdR M) (hb : b' = b) (h : (m28 [.row .u64 25 s, .fr .u8 r' c, .bs false] [.roi .u8 b']).post z) :
    z.2.1.length ≤ z.2.2 ∧ z.1 = hrdS (M ++ b) ∧ z.2.1 = hrdR (M ++ b) := by
  subst hr; subst hb; exact write_of hs hr2 h
theorem write_told {s r r' b : List Int} {c : Nat} {z : List Int × List Int × Nat} (hr : r' = r) (h : (m28 [.row .u64 25 s, .fr .u8 r' c, .bs true] [.roi .u8 b]).post z) : z.2.1.length ≤ z.2.2 ∧ z.1 = s ∧ z.2.1 = r := by
  subst hr; exact h
theorem hst_f {M s r : List Int} {t : Nat} (h : HSt M false t s r) : s = hrdS M ∧ r = hrdR M ∧ t = 0 := by
  rw [HSt, if_neg (by decide)] at h; exact h
theorem read_badE {s r r' : List Int} {c : Nat} {b : Bool} {n n' : Int} {o s3 r3 : List Int} {oc c3 k : Nat} {er : Int} {tl3 : Bool} (hr : r' = r) (hn' : n' = n) (h : (m29 [.row .u64 25 s, .fr .u8 r' c, .bs b] [.int .i64 n']).post ⟨o, oc, s3, r3, c3, k, er, tl3⟩) (hn : badN n) :
    o = [] ∧ s3 = s ∧ r3 = r ∧ c3 = c ∧ er = 10 ∧ tl3 = b := by
  subst hr; subst hn'
  obtain ⟨h1, _, h2, h3, h4, h5, h6⟩ := m29_bad h hn
  exact ⟨h1, h2, h3, h4, h5, h6⟩
theorem wr_facts {s r b : List Int} {c : Nat} {tells : Bool} {z : List Int × List Int × Nat} (h : (m28 [.row .u64 25 s, .fr .u8 r c, .bs tells] [.roi .u8 b]).post z) : z.2.1.length ≤ z.2.2 ∧ z.1.length = s.length ∧ (tells = false → z.2.1.length < 136) := by
  have h : z.2.1.length ≤ z.2.2 ∧ z.1 = (if tells then s else absUp s (r ++ b) ((r ++ b).length / 136)) ∧ z.2.1 = (if tells then r else (r ++ b).drop (136 * ((r ++ b).length / 136))) := h
  obtain ⟨h1, h2, h3⟩ := h
  refine ⟨h1, ?_, fun ht => ?_⟩
  · rw [h2]; split
    · rfl
    · rw [absUp_len]
  · rw [h3, if_neg (by rw [ht]; decide), List.length_drop]; omega
theorem ref_of {n' : Int} {m : Nat} {M : List Int} {xss' : List (List Int)} {z : List Int × Nat} (hn : n' = ((m : Nat) : Int)) (hx : xss' = [M]) (h : (s26 [.int .i64 n', .rol .u8 xss']).post z) : z.1 = told M m ∧ z.1.length ≤ z.2 := by
  subst hn; subst hx
  have h : z.1 = told [M].flatten ((m : Int)).toNat ∧ z.1.length ≤ z.2 := h
  rw [Int.toNat_natCast, show [M].flatten = M by simp] at h
  exact h
theorem ref_pre {n' : Int} {m : Nat} {M : List Int} {xss' : List (List Int)} (hn : n' = ((m : Nat) : Int)) (hx : xss' = [M]) (h1 : m ≤ 1099511627776) (h2 : M.length ≤ 70368744177664) : 0 ≤ n' ∧ n' ≤ 1099511627776 ∧ xss'.length < 4611686018427387904 ∧ xss'.flatten.length ≤ 70368744177664 := by
  subst hn; subst hx
  have e : [M].flatten = M := by simp
  rw [e]
  exact ⟨Int.natCast_nonneg _, by omega, by show 1 < _; decide, h2⟩
set_option maxRecDepth 20000
def s11 : PSpec := fun args => match args with
  | [.roe [.ints .i64 ak, .byts bss, .ints .i64 ns] n] => ⟨∀ _ : Unit, n ≤ 9223372036854775807 ∧ (∀ i < n, ∀ a ∈ bss.getD i [], InB a), Bool, fun b => b = true, fun b => .bs b⟩
  | _ => PR.none
noncomputable def i11 : List (FuncId × Func) := [(27, Tryd.f27), (30, Tryd.f30)]
set_option maxHeartbeats 4000000 in
theorem c11 : Ctr Tryd.prog T glob 11 s11 := by
  refine ctr_ofM T_ok glob_ids mixed [(24, s24), (26, s26), (19, s19), (31, s31), (54, s54)] i11 [(28, m28), (29, m29), (32, m32)] (c_cons c24 (c_cons c26 (c_cons c19 (c_cons c31 (c_cons c54 c_nil))))) (i_cons Tryd.call27 Tryd.func27 (by kernel_rfl) (i_cons Tryd.call30 Tryd.func30 (by kernel_rfl) i_nil)) (m_cons mc28 (m_cons mc29 (m_cons mc32 m_nil))) Tryd.func11 (by rfl) (by kernel_rfl) Tryd.call11 ?_ ?_
  · intro args; unfold s11; split
    · exact good_bool ⟨trivial, trivial⟩ fun _ => ⟨_, rfl⟩
    · exact PR.good_none
  · intro P Ω hΩ hE hI hm args pr hs hp Q hQ
    unfold s11 at hs
    split at hs <;> subst hs <;> try (exact hp.elim)
    rename_i ak bss ns n
    obtain ⟨ln, lb⟩ := hp ()
    refine ⟨1000, ?_⟩
    cbv
    constructor
    · exact fun _ _ => ln
    intro b hb
    have hb : b = fairB bss ns n := hb
    cbv
    constructor
    · intro h1
      cbv
      constructor
      · exact fun _ => trivial
      intro w hw
      have hw : w = true := hw
      cbv
      refine hQ _ _ _ _ ?_ rfl
      exact hw
    · intro h1
      have hbt : b = true := by
        subst hΩ; cases b
        · exact Bool.noConfusion h1
        · rfl
      obtain ⟨hn, hF⟩ := fair_facts (hb.symm.trans hbt)
      cbv
      refine loop_inv hE hI hm (fun x : Nat × List Int × Nat × Nat × Nat × Bool × List Int × List Int × Nat × Nat => (mkT 155 [(0, .roe [.ints .i64 ak, .byts bss, .ints .i64 ns] n), (2, .bl false), (3, .ptr 128 (.l 0)), (4, .sl 129 1 (.l 0) (.s x.2.2.1) (.s x.2.2.2.1)), (5, .int .i64 x.2.2.2.2.1), (6, .bs x.2.2.2.2.2.1), (7, .int .i64 x.1)], [(128, .agg [.row .u64 25 x.2.2.2.2.2.2.1, .sl 130 1 (.l 0) (.s x.2.2.2.2.2.2.2.2.1) (.s x.2.2.2.2.2.2.2.2.2), .bs x.2.2.2.2.2.1]), (129, .seq .u8 x.2.1), (130, .seq .u8 x.2.2.2.2.2.2.2.1)])) (fun x => x.1 ≤ n ∧ x.2.2.1 = x.2.1.length ∧ x.2.2.1 ≤ x.2.2.2.1 ∧ HSt x.2.1 x.2.2.2.2.2.1 x.2.2.2.2.1 x.2.2.2.2.2.2.1 x.2.2.2.2.2.2.2.1 ∧ x.2.2.2.2.2.2.2.2.1 = x.2.2.2.2.2.2.2.1.length ∧ x.2.2.2.2.2.2.2.2.1 ≤ x.2.2.2.2.2.2.2.2.2 ∧ x.2.2.1 ≤ 400 * x.1 ∧ x.2.2.2.2.1 ≤ 400 * x.1 ∧ ∀ a ∈ x.2.1, InB a) (fun x => n - x.1) 1 ⟨(0, [], 0, 0, 0, false, List.replicate 25 0, [], 0, 0), [some 64, none, none], ⟨Nat.zero_le _, rfl, Nat.le_refl _, hst_false hrdS_nil hrdR_nil, rfl, Nat.le_refl _, Nat.zero_le _, Nat.zero_le _, fun a h => absurd h List.not_mem_nil⟩, by decide, ?_⟩ fun x hj => ⟨1000, ?_⟩
      · cbv
        exact ⟨rfl, rfl, trivial⟩
      obtain ⟨i, M, lM, cM, t, tells, s, r, R, c⟩ := x
      obtain ⟨j1, j2, j3, j4, j5, j6, j7, j8, j9⟩ : i ≤ n ∧ lM = M.length ∧ lM ≤ cM ∧ HSt M tells t s r ∧ R = r.length ∧ R ≤ c ∧ lM ≤ 400 * i ∧ t ≤ 400 * i ∧ ∀ a ∈ M, InB a := hj
      have hsub : Ω.sub r 0 R = r := by rw [j5]; subst hΩ; exact List.take_length
      cbv
      constructor
      · intro hc
        cbv
        rw [hΩ] at hc; simp (disch := omega) only [Om.real, nc, Nat.succ_eq_add_one, Int.ofNat_eq_natCast, Int.toNat_natCast, ia_nn, ia_nl, ia_ln, is_nn, is_nl, is_ln, im_nn, im_nl, im_ln, iq_nn, iq_nl, ir_nn, ir_nl, cl_nn, cl_nl, cl_ln, cle_nn, cle_nl, cle_ln, cg_nn, cg_nl, cg_ln, cge_nn, cge_nl, ce_nn, ce_nl, cn_nn, cn_nl, decide_eq_true_eq, decide_eq_false_iff_not] at hc
        repeat (refine ⟨by ((try intro _); (try subst hΩ); simp (disch := omega) only [Om.real, nc, Nat.succ_eq_add_one, Int.ofNat_eq_natCast, Int.toNat_natCast, ia_nn, ia_nl, ia_ln, is_nn, is_nl, is_ln, im_nn, im_nl, im_ln, iq_nn, iq_nl, ir_nn, ir_nl, cl_nn, cl_nl, cl_ln, cle_nn, cle_nl, cle_ln, cg_nn, cg_nl, cg_ln, cge_nn, cge_nl, ce_nn, ce_nl, cn_nn, cn_nl, SN.v]; omega), ?_⟩)
        constructor
        · intro d0
          cases tells
          · cbv
            repeat (refine ⟨by ((try intro _); (try subst hΩ); simp (disch := omega) only [Om.real, nc, Nat.succ_eq_add_one, Int.ofNat_eq_natCast, Int.toNat_natCast, ia_nn, ia_nl, ia_ln, is_nn, is_nl, is_ln, im_nn, im_nl, im_ln, iq_nn, iq_nl, ir_nn, ir_nl, cl_nn, cl_nl, cl_ln, cle_nn, cle_nl, cle_ln, cg_nn, cg_nl, cg_ln, cge_nn, cge_nl, ce_nn, ce_nl, cn_nn, cn_nl, SN.v]; omega), ?_⟩)
            have hB0 : Ω.at2 bss (Ω.toN (Int.ofNat i)) = bss.getD i [] := by subst hΩ; rfl
            have hBl := (hF i hc).1
            have hBr := lb i hc
            obtain ⟨B, hBB⟩ : ∃ B, B = bss.getD i [] := ⟨_, rfl⟩
            rw [← hBB] at hB0 hBl hBr
            have hBn : Ω.len (Ω.at2 bss (Ω.toN (Int.ofNat i))) = B.length := by rw [hB0]; subst hΩ; rfl
            constructor
            · exact fun _ => by show (0 + Ω.len (Ω.at2 bss (Ω.toN (Int.ofNat i)))) * 1 ≤ 140737488355328; rw [hBn]; omega
            constructor
            · exact fun _ => ⟨trivial, trivial⟩
            intro cp1 hcp1
            have hsB : Ω.sub (Ω.at2 bss (Ω.toN (Int.ofNat i))) 0 (Ω.len (Ω.at2 bss (Ω.toN (Int.ofNat i)))) = B := by rw [hBn, hB0]; subst hΩ; show (B.drop 0).take B.length = B; rw [List.drop_zero, List.take_length]
            cbv
            constructor
            · exact fun _ => ⟨⟨by show 0 + R ≤ r.length; omega, trivial⟩, ⟨by show 0 + Ω.len (Ω.at2 bss (Ω.toN (Int.ofNat i))) ≤ (Ω.at2 bss (Ω.toN (Int.ofNat i))).length; rw [hBn, hB0]; omega, trivial⟩⟩
            constructor
            · exact fun _ _ => ⟨hst_len j4, by show (Ω.sub r 0 R).length ≤ c; rw [hsub]; omega, fun _ => by show (Ω.sub r 0 R).length + (Ω.sub (Ω.at2 bss (Ω.toN (Int.ofNat i))) 0 (Ω.len (Ω.at2 bss (Ω.toN (Int.ofNat i))))).length ≤ 140737488355328; rw [hsub, hsB]; have := hst_few j4 rfl; omega⟩
            intro z hz
            obtain ⟨s2, r2, c2⟩ := z
            obtain ⟨js, jr, jt⟩ := hst_f j4
            obtain ⟨hc2, hs2, hr2⟩ := write_ofE js hsub jr hsB hz
            have hc2 : r2.length ≤ c2 := hc2
            have hs2 : s2 = hrdS (M ++ B) := hs2
            have hr2 : r2 = hrdR (M ++ B) := hr2
            obtain ⟨R2, hR2⟩ : ∃ R2, R2 = r2.length := ⟨_, rfl⟩
            have hlR2 : Ω.len r2 = R2 := by rw [hR2]; subst hΩ; rfl
            clear hz
            cbv
            constructor
            · intro h
              have h' : False := by (skip); first | done | (subst hΩ; exact Bool.noConfusion (show false = true from h))
              contradiction
            intro _
            cbv
            constructor
            rotate_left
            · intro h
              have h' : False := by (skip); first | done | (subst hΩ; exact Bool.noConfusion (show true = false from h))
              contradiction
            intro _
            cbv
            constructor
            · intro h
              have h' : False := by (skip); first | done | (subst hΩ; exact Bool.noConfusion (show false = true from h))
              contradiction
            intro _
            cbv
            obtain ⟨LB, hLB⟩ : ∃ LB, LB = B.length := ⟨_, rfl⟩
            rw [← hLB] at hBn
            refine loop_inv hE hI hm (fun x : Nat × List Int => (mkT 155 [(0, .roe [.ints .i64 ak, .byts bss, .ints .i64 ns] n), (2, .bl false), (3, .ptr 128 (.l 0)), (4, .sl 129 1 (.l 0) (.s lM) (.s cM)), (5, .int .i64 t), (6, .bs false), (7, .int .i64 i), (8, .sl 280 1 (.l 0) (.s LB) (.s cp1)), (10, .int .i64 x.1)], [(312, .seq .u8 r2), (280, .seq .u8 x.2), (129, .seq .u8 M), (128, .agg [.row .u64 25 s2, .sl 312 1 (.l 0) (.s R2) (.s c2), .bs false])])) (fun x => x.1 ≤ LB ∧ x.2.length = LB) (fun x => LB - x.1) 0 ⟨(0, B), [], ⟨Nat.zero_le _, hLB.symm⟩, Nat.le_refl _, ?_⟩ fun x hk => ⟨1000, ?_⟩
            · cbv
              exact ⟨hBn, rfl, hB0, hlR2, trivial⟩
            obtain ⟨k, w⟩ := x
            obtain ⟨p1, p2⟩ : k ≤ LB ∧ w.length = LB := hk
            cbv
            constructor
            · intro he
              cbv
              rw [hΩ] at he; simp (disch := omega) only [Om.real, nc, Nat.succ_eq_add_one, Int.ofNat_eq_natCast, Int.toNat_natCast, ia_nn, ia_nl, ia_ln, is_nn, is_nl, is_ln, im_nn, im_nl, im_ln, iq_nn, iq_nl, ir_nn, ir_nl, cl_nn, cl_nl, cl_ln, cle_nn, cle_nl, cle_ln, cg_nn, cg_nl, cg_ln, cge_nn, cge_nl, ce_nn, ce_nl, cn_nn, cn_nl, decide_eq_true_eq, decide_eq_false_iff_not] at he
              repeat (refine ⟨by ((try intro _); (try subst hΩ); simp (disch := omega) only [Om.real, nc, Nat.succ_eq_add_one, Int.ofNat_eq_natCast, Int.toNat_natCast, ia_nn, ia_nl, ia_ln, is_nn, is_nl, is_ln, im_nn, im_nl, im_ln, iq_nn, iq_nl, ir_nn, ir_nl, cl_nn, cl_nl, cl_ln, cle_nn, cle_nl, cle_ln, cg_nn, cg_nl, cg_ln, cge_nn, cge_nl, ce_nn, ce_nl, cn_nn, cn_nl, SN.v]; omega), ?_⟩)
              obtain ⟨w2, hw2⟩ : ∃ w2, w2 = Ω.set w (Ω.toN (Int.ofNat k)) (Ω.bin .add .u8 (Ω.at' w (Ω.toN (Int.ofNat k))) 1) := ⟨_, rfl⟩
              have lw2 : w2.length = LB := by rw [hw2]; subst hΩ; show (w.set _ _).length = LB; rw [List.length_set, p2]
              refine ⟨(k + 1, w2), [], ⟨by show k + 1 ≤ LB; omega, lw2⟩, by show LB - (k + 1) < LB - k; omega, by show 0 ≤ 8 * 0; omega, ?_⟩
              cbv
              refine ⟨?_, hw2.symm, trivial⟩
              subst hΩ
              exact ia_nl k 1 (by show k + 1 < 9223372036854775808; omega)
            · intro he
              cbv
              rw [hΩ] at he; simp (disch := omega) only [Om.real, nc, Nat.succ_eq_add_one, Int.ofNat_eq_natCast, Int.toNat_natCast, ia_nn, ia_nl, ia_ln, is_nn, is_nl, is_ln, im_nn, im_nl, im_ln, iq_nn, iq_nl, ir_nn, ir_nl, cl_nn, cl_nl, cl_ln, cle_nn, cle_nl, cle_ln, cg_nn, cg_nl, cg_ln, cge_nn, cge_nl, ce_nn, ce_nl, cn_nn, cn_nl, decide_eq_true_eq, decide_eq_false_iff_not] at he
              constructor
              rotate_left
              · intro h
                have h' : False := by (skip); first | done | (subst hΩ; exact Bool.noConfusion (show true = false from h))
                contradiction
              intro _
              cbv
              repeat (refine ⟨by ((try intro _); (try subst hΩ); simp (disch := omega) only [Om.real, nc, Nat.succ_eq_add_one, Int.ofNat_eq_natCast, Int.toNat_natCast, ia_nn, ia_nl, ia_ln, is_nn, is_nl, is_ln, im_nn, im_nl, im_ln, iq_nn, iq_nl, ir_nn, ir_nl, cl_nn, cl_nl, cl_ln, cle_nn, cle_nl, cle_ln, cg_nn, cg_nl, cg_ln, cge_nn, cge_nl, ce_nn, ce_nl, cn_nn, cn_nl, SN.v]; omega), ?_⟩)
              constructor
              · exact fun _ => by show (lM + Ω.len (Ω.at2 bss (Ω.toN (Int.ofNat i)))) * 1 ≤ 140737488355328; rw [hBn]; omega
              constructor
              · exact fun _ => ⟨by show 0 + lM * 1 ≤ M.length; omega, trivial⟩
              intro cap2 hcap2
              have hcap2 : lM + LB ≤ cap2 := by rw [← hBn]; exact hcap2
              obtain ⟨M2, hM2⟩ : ∃ M2, M2 = M ++ B := ⟨_, rfl⟩
              obtain ⟨l2, hl2⟩ : ∃ l2, l2 = lM + LB := ⟨_, rfl⟩
              have f0 : Ω.nadd lM (Ω.len (Ω.at2 bss (Ω.toN (Int.ofNat i)))) = l2 := by rw [hBn, hl2]; subst hΩ; rfl
              have f1 : Ω.cat (Ω.sub M 0 lM) (Ω.at2 bss (Ω.toN (Int.ofNat i))) = M2 := by
                rw [hB0, hM2]; subst hΩ
                show (M.drop 0).take lM ++ B = _
                rw [List.drop_zero, j2, List.take_length]
              have hI2 : ∀ a ∈ M2, InB a := fun a ha => by
                rw [hM2] at ha
                rcases List.mem_append.1 ha with h | h
                · exact j9 a h
                · exact hBr a h
              cbv
              refine ⟨(i + 1, M2, l2, cap2, t, false, s2, r2, R2, c2), [some 128, some 528, some 312], ⟨by show i + 1 ≤ n; omega, by show l2 = M2.length; rw [hM2, List.length_append, hl2, j2, hLB], by show l2 ≤ cap2; omega, by show HSt M2 false t s2 r2; rw [jt, hM2]; exact hst_false hs2 hr2, hR2, by show R2 ≤ c2; omega, by show l2 ≤ 400 * (i + 1); omega, by show t ≤ 400 * (i + 1); omega, hI2⟩, by show n - (i + 1) < n - i; omega, by show 3 ≤ 8 * 1; omega, ?_⟩
              cbv
              refine ⟨f0, ?_, f1, trivial⟩
              subst hΩ
              exact ia_nl i 1 (by show i + 1 < 9223372036854775808; omega)
          · cbv
            repeat (refine ⟨by ((try intro _); (try subst hΩ); simp (disch := omega) only [Om.real, nc, Nat.succ_eq_add_one, Int.ofNat_eq_natCast, Int.toNat_natCast, ia_nn, ia_nl, ia_ln, is_nn, is_nl, is_ln, im_nn, im_nl, im_ln, iq_nn, iq_nl, ir_nn, ir_nl, cl_nn, cl_nl, cl_ln, cle_nn, cle_nl, cle_ln, cg_nn, cg_nl, cg_ln, cge_nn, cge_nl, ce_nn, ce_nl, cn_nn, cn_nl, SN.v]; omega), ?_⟩)
            have hB0 : Ω.at2 bss (Ω.toN (Int.ofNat i)) = bss.getD i [] := by subst hΩ; rfl
            have hBl := (hF i hc).1
            have hBr := lb i hc
            obtain ⟨B, hBB⟩ : ∃ B, B = bss.getD i [] := ⟨_, rfl⟩
            rw [← hBB] at hB0 hBl hBr
            have hBn : Ω.len (Ω.at2 bss (Ω.toN (Int.ofNat i))) = B.length := by rw [hB0]; subst hΩ; rfl
            constructor
            · exact fun _ => by show (0 + Ω.len (Ω.at2 bss (Ω.toN (Int.ofNat i)))) * 1 ≤ 140737488355328; rw [hBn]; omega
            constructor
            · exact fun _ => ⟨trivial, trivial⟩
            intro cp1 hcp1
            have hsB : Ω.sub (Ω.at2 bss (Ω.toN (Int.ofNat i))) 0 (Ω.len (Ω.at2 bss (Ω.toN (Int.ofNat i)))) = B := by rw [hBn, hB0]; subst hΩ; show (B.drop 0).take B.length = B; rw [List.drop_zero, List.take_length]
            cbv
            constructor
            · exact fun _ => ⟨⟨by show 0 + R ≤ r.length; omega, trivial⟩, ⟨by show 0 + Ω.len (Ω.at2 bss (Ω.toN (Int.ofNat i))) ≤ (Ω.at2 bss (Ω.toN (Int.ofNat i))).length; rw [hBn, hB0]; omega, trivial⟩⟩
            constructor
            · exact fun _ _ => ⟨hst_len j4, by show (Ω.sub r 0 R).length ≤ c; rw [hsub]; omega, fun h => Bool.noConfusion h⟩
            intro z hz
            obtain ⟨s2, r2, c2⟩ := z
            obtain ⟨hc2, hs2, hr2⟩ := write_told hsub hz
            have hc2 : r2.length ≤ c2 := hc2
            have hs2 : s2 = s := hs2
            have hr2 : r2 = r := hr2
            obtain ⟨R2, hR2⟩ : ∃ R2, R2 = r2.length := ⟨_, rfl⟩
            have hlR2 : Ω.len r2 = R2 := by rw [hR2]; subst hΩ; rfl
            clear hz
            cbv
            constructor
            · intro h
              have h' : False := by (skip); first | done | (subst hΩ; exact Bool.noConfusion (show false = true from h))
              contradiction
            intro _
            cbv
            constructor
            · intro h
              have h' : False := by (skip); first | done | (subst hΩ; exact Bool.noConfusion (show false = true from h))
              contradiction
            intro _
            cbv
            obtain ⟨LB, hLB⟩ : ∃ LB, LB = B.length := ⟨_, rfl⟩
            rw [← hLB] at hBn
            refine loop_inv hE hI hm (fun x : Nat × List Int => (mkT 155 [(0, .roe [.ints .i64 ak, .byts bss, .ints .i64 ns] n), (2, .bl false), (3, .ptr 128 (.l 0)), (4, .sl 129 1 (.l 0) (.s lM) (.s cM)), (5, .int .i64 t), (6, .bs true), (7, .int .i64 i), (8, .sl 280 1 (.l 0) (.s LB) (.s cp1)), (10, .int .i64 x.1)], [(312, .seq .u8 r2), (280, .seq .u8 x.2), (129, .seq .u8 M), (128, .agg [.row .u64 25 s2, .sl 312 1 (.l 0) (.s R2) (.s c2), .bs true])])) (fun x => x.1 ≤ LB ∧ x.2.length = LB) (fun x => LB - x.1) 0 ⟨(0, B), [], ⟨Nat.zero_le _, hLB.symm⟩, Nat.le_refl _, ?_⟩ fun x hk => ⟨1000, ?_⟩
            · cbv
              exact ⟨hBn, rfl, hB0, hlR2, trivial⟩
            obtain ⟨k, w⟩ := x
            obtain ⟨p1, p2⟩ : k ≤ LB ∧ w.length = LB := hk
            cbv
            constructor
            · intro he
              cbv
              rw [hΩ] at he; simp (disch := omega) only [Om.real, nc, Nat.succ_eq_add_one, Int.ofNat_eq_natCast, Int.toNat_natCast, ia_nn, ia_nl, ia_ln, is_nn, is_nl, is_ln, im_nn, im_nl, im_ln, iq_nn, iq_nl, ir_nn, ir_nl, cl_nn, cl_nl, cl_ln, cle_nn, cle_nl, cle_ln, cg_nn, cg_nl, cg_ln, cge_nn, cge_nl, ce_nn, ce_nl, cn_nn, cn_nl, decide_eq_true_eq, decide_eq_false_iff_not] at he
              repeat (refine ⟨by ((try intro _); (try subst hΩ); simp (disch := omega) only [Om.real, nc, Nat.succ_eq_add_one, Int.ofNat_eq_natCast, Int.toNat_natCast, ia_nn, ia_nl, ia_ln, is_nn, is_nl, is_ln, im_nn, im_nl, im_ln, iq_nn, iq_nl, ir_nn, ir_nl, cl_nn, cl_nl, cl_ln, cle_nn, cle_nl, cle_ln, cg_nn, cg_nl, cg_ln, cge_nn, cge_nl, ce_nn, ce_nl, cn_nn, cn_nl, SN.v]; omega), ?_⟩)
              obtain ⟨w2, hw2⟩ : ∃ w2, w2 = Ω.set w (Ω.toN (Int.ofNat k)) (Ω.bin .add .u8 (Ω.at' w (Ω.toN (Int.ofNat k))) 1) := ⟨_, rfl⟩
              have lw2 : w2.length = LB := by rw [hw2]; subst hΩ; show (w.set _ _).length = LB; rw [List.length_set, p2]
              refine ⟨(k + 1, w2), [], ⟨by show k + 1 ≤ LB; omega, lw2⟩, by show LB - (k + 1) < LB - k; omega, by show 0 ≤ 8 * 0; omega, ?_⟩
              cbv
              refine ⟨?_, hw2.symm, trivial⟩
              subst hΩ
              exact ia_nl k 1 (by show k + 1 < 9223372036854775808; omega)
            · intro he
              cbv
              rw [hΩ] at he; simp (disch := omega) only [Om.real, nc, Nat.succ_eq_add_one, Int.ofNat_eq_natCast, Int.toNat_natCast, ia_nn, ia_nl, ia_ln, is_nn, is_nl, is_ln, im_nn, im_nl, im_ln, iq_nn, iq_nl, ir_nn, ir_nl, cl_nn, cl_nl, cl_ln, cle_nn, cle_nl, cle_ln, cg_nn, cg_nl, cg_ln, cge_nn, cge_nl, ce_nn, ce_nl, cn_nn, cn_nl, decide_eq_true_eq, decide_eq_false_iff_not] at he
              constructor
              · intro h
                have h' : False := by (skip); first | done | (subst hΩ; exact Bool.noConfusion (show false = true from h))
                contradiction
              intro _
              cbv
              refine ⟨(i + 1, M, lM, cM, t, true, s2, r2, R2, c2), [some 128, some 129, some 312], ⟨by show i + 1 ≤ n; omega, j2, j3, by show HSt M true t s2 r2; rw [hs2, hr2]; exact j4, hR2, by show R2 ≤ c2; omega, by show lM ≤ 400 * (i + 1); omega, by show t ≤ 400 * (i + 1); omega, j9⟩, by show n - (i + 1) < n - i; omega, by show 3 ≤ 8 * 1; omega, ?_⟩
              cbv
              refine ⟨?_, trivial⟩
              subst hΩ
              exact ia_nl i 1 (by show i + 1 < 9223372036854775808; omega)
        · intro d0
          cbv
          constructor
          · intro d1
            cbv
            repeat (refine ⟨by ((try intro _); (try subst hΩ); simp (disch := omega) only [Om.real, nc, Nat.succ_eq_add_one, Int.ofNat_eq_natCast, Int.toNat_natCast, ia_nn, ia_nl, ia_ln, is_nn, is_nl, is_ln, im_nn, im_nl, im_ln, iq_nn, iq_nl, ir_nn, ir_nl, cl_nn, cl_nl, cl_ln, cle_nn, cle_nl, cle_ln, cg_nn, cg_nl, cg_ln, cge_nn, cge_nl, ce_nn, ce_nl, cn_nn, cn_nl, SN.v]; omega), ?_⟩)
            obtain ⟨N, hN⟩ : ∃ N, N = ns.getD i 0 := ⟨_, rfl⟩
            have hV : Ω.at' ns (Ω.toN (Int.ofNat i)) = N := by rw [hN]; subst hΩ; rfl
            have hFN := (hF i hc).2
            rw [← hN] at hFN
            constructor
            · exact fun _ => ⟨⟨by show 0 + R ≤ r.length; omega, trivial⟩, trivial, trivial⟩
            constructor
            · exact fun _ _ => ⟨hst_len j4, fun hb => by show (Ω.sub r 0 R).length < 136; rw [hsub]; exact hst_few j4 hb, by show (Ω.sub r 0 R).length ≤ c; rw [hsub]; omega⟩
            intro z hz
            obtain ⟨o3, oc3, s3, r3, c3, k3', er3, tl3⟩ := z
            have hbad3 : badN N → o3 = [] ∧ s3 = s ∧ r3 = r ∧ c3 = c ∧ er3 = 10 ∧ tl3 = tells := fun hb => read_badE hsub hV hz hb
            have hgood3 : ¬ badN N → er3 = 0 ∧ tl3 = true ∧ o3 = (tl M (t + N.toNat)).drop t ∧ HSt M true (t + N.toNat) s3 r3 ∧ r3.length ≤ c3 ∧ o3.length ≤ oc3 := fun hb => read_anyE j4 hsub hV hz hb
            obtain ⟨R3, hR3⟩ : ∃ R3, R3 = r3.length := ⟨_, rfl⟩
            have hlR3 : Ω.len r3 = R3 := by rw [hR3]; subst hΩ; rfl
            have hlo3 : Ω.len o3 = o3.length := by subst hΩ; rfl
            clear hz
            cbv
            repeat (refine ⟨by ((try intro _); (try subst hΩ); simp (disch := omega) only [Om.real, nc, Nat.succ_eq_add_one, Int.ofNat_eq_natCast, Int.toNat_natCast, ia_nn, ia_nl, ia_ln, is_nn, is_nl, is_ln, im_nn, im_nl, im_ln, iq_nn, iq_nl, ir_nn, ir_nl, cl_nn, cl_nl, cl_ln, cle_nn, cle_nl, cle_ln, cg_nn, cg_nl, cg_ln, cge_nn, cge_nl, ce_nn, ce_nl, cn_nn, cn_nl, SN.v]; omega), ?_⟩)
            constructor
            · intro g1
              have hb : badN N := .inl (by
                have g1 : Ω.cmp .lss (Ω.at' ns (Ω.toN (Int.ofNat i))) 0 = true := g1
                rw [hV] at g1; subst hΩ; exact of_decide_eq_true (show decide (N < 0) = true from g1))
              cbv
              obtain ⟨q1, q2, q3, q4, q5, q6⟩ := hbad3 hb
              constructor
              · intro h
                have h' : False := by (have h : Ω.cmp .neq (Ω.ofN (Ω.len o3)) 0 = true := h; rw [hlo3, q1] at h); first | done | (subst hΩ; exact Bool.noConfusion (show false = true from h))
                contradiction
              intro _
              cbv
              constructor
              · intro h
                have h' : False := by (rw [q5] at h); first | done | (subst hΩ; exact Bool.noConfusion (show false = true from h))
                contradiction
              intro _
              cbv
              refine ⟨(i + 1, M, lM, cM, t, tells, s3, r3, R3, c3), [some 128, some 129, some 289], ⟨by show i + 1 ≤ n; omega, j2, j3, by show HSt M tells t s3 r3; rw [q2, q3]; exact j4, hR3, by show R3 ≤ c3; rw [hR3, q3, q4]; omega, by show lM ≤ 400 * (i + 1); omega, by show t ≤ 400 * (i + 1); omega, j9⟩, by show n - (i + 1) < n - i; omega, by show 3 ≤ 8 * 1; omega, ?_⟩
              have hi1 : Ω.bin .add .i64 (Int.ofNat i) 1 = Int.ofNat (i + 1) := by subst hΩ; exact ia_nl i 1 (by show i + 1 < 9223372036854775808; omega)
              cbv
              exact ⟨hi1, hlR3, q6, trivial⟩
            · intro g1
              have g1' : 0 ≤ N := by
                have g1 : Ω.cmp .lss (Ω.at' ns (Ω.toN (Int.ofNat i))) 0 = false := g1
                rw [hV] at g1; subst hΩ; have := of_decide_eq_false (show decide (N < 0) = false from g1); omega
              cbv
              repeat (refine ⟨by ((try intro _); (try subst hΩ); simp (disch := omega) only [Om.real, nc, Nat.succ_eq_add_one, Int.ofNat_eq_natCast, Int.toNat_natCast, ia_nn, ia_nl, ia_ln, is_nn, is_nl, is_ln, im_nn, im_nl, im_ln, iq_nn, iq_nl, ir_nn, ir_nl, cl_nn, cl_nl, cl_ln, cle_nn, cle_nl, cle_ln, cg_nn, cg_nl, cg_ln, cge_nn, cge_nl, ce_nn, ce_nl, cn_nn, cn_nl, SN.v]; omega), ?_⟩)
              constructor
              · intro g2
                have hb : badN N := .inr (by
                  have g2 : Ω.cmp .gtr (Ω.at' ns (Ω.toN (Int.ofNat i))) 65536 = true := g2
                  rw [hV] at g2; subst hΩ; exact of_decide_eq_true (show decide (65536 < N) = true from g2))
                cbv
                obtain ⟨q1, q2, q3, q4, q5, q6⟩ := hbad3 hb
                constructor
                · intro h
                  have h' : False := by (have h : Ω.cmp .neq (Ω.ofN (Ω.len o3)) 0 = true := h; rw [hlo3, q1] at h); first | done | (subst hΩ; exact Bool.noConfusion (show false = true from h))
                  contradiction
                intro _
                cbv
                constructor
                · intro h
                  have h' : False := by (rw [q5] at h); first | done | (subst hΩ; exact Bool.noConfusion (show false = true from h))
                  contradiction
                intro _
                cbv
                refine ⟨(i + 1, M, lM, cM, t, tells, s3, r3, R3, c3), [some 128, some 129, some 289], ⟨by show i + 1 ≤ n; omega, j2, j3, by show HSt M tells t s3 r3; rw [q2, q3]; exact j4, hR3, by show R3 ≤ c3; rw [hR3, q3, q4]; omega, by show lM ≤ 400 * (i + 1); omega, by show t ≤ 400 * (i + 1); omega, j9⟩, by show n - (i + 1) < n - i; omega, by show 3 ≤ 8 * 1; omega, ?_⟩
                have hi1 : Ω.bin .add .i64 (Int.ofNat i) 1 = Int.ofNat (i + 1) := by subst hΩ; exact ia_nl i 1 (by show i + 1 < 9223372036854775808; omega)
                cbv
                exact ⟨hi1, hlR3, q6, trivial⟩
              · intro g2
                have hb : ¬ badN N := by
                  have g2 : Ω.cmp .gtr (Ω.at' ns (Ω.toN (Int.ofNat i))) 65536 = false := g2
                  rw [hV] at g2; subst hΩ; have := of_decide_eq_false (show decide (65536 < N) = false from g2); unfold badN; omega
                obtain ⟨q1, q2, q3, q4, q5, q6⟩ := hgood3 hb
                have hN0 : 0 ≤ N ∧ N ≤ 400 := by rcases hFN with h | h; exact absurd h hb; exact h
                obtain ⟨K, hK⟩ : ∃ K : Nat, N = K := ⟨N.toNat, by omega⟩
                have hKN : N.toNat = K := by omega
                have hK4 : K ≤ 400 := by omega
                rw [hKN] at q3 q4
                rw [hK] at hV
                cbv
                repeat (refine ⟨by ((try intro _); (try subst hΩ); simp (disch := omega) only [Om.real, nc, Nat.succ_eq_add_one, Int.ofNat_eq_natCast, Int.toNat_natCast, ia_nn, ia_nl, ia_ln, is_nn, is_nl, is_ln, im_nn, im_nl, im_ln, iq_nn, iq_nl, ir_nn, ir_nl, cl_nn, cl_nl, cl_ln, cle_nn, cle_nl, cle_ln, cg_nn, cg_nl, cg_ln, cge_nn, cge_nl, ce_nn, ce_nl, cn_nn, cn_nl, SN.v]; omega), ?_⟩)
                have hsum : Ω.bin .add .i64 (Int.ofNat t) (Ω.at' ns (Ω.toN (Int.ofNat i))) = ((t + K : Nat) : Int) := by rw [hV]; subst hΩ; exact ia_nn t K (by omega)
                have hfa : [Ω.sub M 0 lM] = [M] := by rw [j2]; subst hΩ; exact congrArg (fun q => [q]) List.take_length
                have hfl : [M].flatten = M := by simp
                constructor
                · exact fun _ => ⟨trivial, ⟨by show 0 + lM ≤ M.length; omega, trivial⟩, trivial⟩
                constructor
                · exact fun _ _ => ref_pre hsum hfa (by omega) (by omega)
                intro z hz
                obtain ⟨o6, c6⟩ := z
                obtain ⟨u1, u2⟩ := ref_of hsum hfa hz
                have u1 : o6 = tl M (t + K) := by rw [tl_told j9]; exact u1
                have u2 : o6.length ≤ c6 := u2
                have hlo6 : Ω.len o6 = o6.length := by subst hΩ; rfl
                have ho6 : o6.length = t + K := by rw [u1, tl_len]
                have ho3 : o3.length = K := by rw [q3, tl_drop_len]
                clear hz
                cbv
                constructor
                · intro h
                  have h' : False := by (rw [q1] at h); first | done | (subst hΩ; exact Bool.noConfusion (show false = true from h))
                  contradiction
                intro _
                cbv
                have hnt : Ω.toN (Int.ofNat t) = t := by subst hΩ; exact Int.toNat_natCast t
                have hn0 : 0 ≤ Int.ofNat t := Int.natCast_nonneg t
                have hnb : Ω.nsub (Ω.len o6) (Ω.toN (Int.ofNat t)) = K := by rw [hnt, hlo6, ho6]; subst hΩ; show t + K - t = K; omega
                have hso3 : Ω.sub o3 0 (Ω.len o3) = o3 := by subst hΩ; exact List.take_length
                have hso6 : Ω.sub o6 (Ω.toN (Int.ofNat t)) (Ω.nsub (Ω.len o6) (Ω.toN (Int.ofNat t))) = o3 := by
                  rw [hnb, hnt, q3, u1]; subst hΩ
                  show ((tl M (t + K)).drop t).take K = _
                  rw [List.take_of_length_le (by rw [tl_drop_len]; exact Nat.le_refl _)]
                constructor
                · exact fun _ => ⟨hn0, trivial, trivial, by show Ω.toN (Int.ofNat t) ≤ Ω.len o6; rw [hnt, hlo6]; omega, by show Ω.len o6 ≤ c6; omega, Nat.le_refl _⟩
                constructor
                · exact fun _ => ⟨by show 0 + Ω.len o3 ≤ o3.length; omega, by show Ω.toN (Int.ofNat t) + Ω.nsub (Ω.len o6) (Ω.toN (Int.ofNat t)) ≤ o6.length; rw [hnb, hnt]; omega, trivial⟩
                constructor
                · exact fun _ _ => ⟨by show (Ω.sub o3 0 (Ω.len o3)).length < _; rw [hso3]; omega, by show (Ω.sub o6 (Ω.toN (Int.ofNat t)) (Ω.nsub (Ω.len o6) (Ω.toN (Int.ofNat t)))).length < _; rw [hso6]; omega⟩
                intro q hq
                have hq : q = true := by
                  have h : q = (Ω.sub o3 0 (Ω.len o3) == Ω.sub o6 (Ω.toN (Int.ofNat t)) (Ω.nsub (Ω.len o6) (Ω.toN (Int.ofNat t)))) := hq
                  rw [h, hso3, hso6]; simp
                cbv
                constructor
                · intro h
                  have h' : False := by (rw [hq] at h); first | done | (subst hΩ; exact Bool.noConfusion (show false = true from h))
                  contradiction
                intro _
                cbv
                repeat (refine ⟨by ((try intro _); (try subst hΩ); simp (disch := omega) only [Om.real, nc, Nat.succ_eq_add_one, Int.ofNat_eq_natCast, Int.toNat_natCast, ia_nn, ia_nl, ia_ln, is_nn, is_nl, is_ln, im_nn, im_nl, im_ln, iq_nn, iq_nl, ir_nn, ir_nl, cl_nn, cl_nl, cl_ln, cle_nn, cle_nl, cle_ln, cg_nn, cg_nl, cg_ln, cge_nn, cge_nl, ce_nn, ce_nl, cn_nn, cn_nl, SN.v]; omega), ?_⟩)
                obtain ⟨t2, ht2⟩ : ∃ t2, t2 = t + K := ⟨_, rfl⟩
                refine ⟨(i + 1, M, lM, cM, t2, true, s3, r3, R3, c3), [some 128, some 129, some 289], ⟨by show i + 1 ≤ n; omega, j2, j3, by show HSt M true t2 s3 r3; rw [ht2]; exact q4, hR3, by show R3 ≤ c3; omega, by show lM ≤ 400 * (i + 1); omega, by show t2 ≤ 400 * (i + 1); omega, j9⟩, by show n - (i + 1) < n - i; omega, by show 3 ≤ 8 * 1; omega, ?_⟩
                have hi1 : Ω.bin .add .i64 (Int.ofNat i) 1 = Int.ofNat (i + 1) := by subst hΩ; exact ia_nl i 1 (by show i + 1 < 9223372036854775808; omega)
                have hsum2 : Ω.bin .add .i64 (Int.ofNat t) (Ω.at' ns (Ω.toN (Int.ofNat i))) = Int.ofNat t2 := by rw [ht2]; exact hsum
                cbv
                exact ⟨hsum2, hi1, hlR3, q2, trivial⟩
          · intro d1
            cbv
            constructor
            · intro d2
              cbv
              constructor
              · exact fun _ => ⟨⟨by show 0 + R ≤ r.length; omega, trivial⟩, trivial⟩
              constructor
              · exact fun _ _ => hst_len j4
              intro s3 hs3
              have hs3 : s3 = List.replicate 25 0 := hs3
              have hl0 : Ω.len [] = 0 := by subst hΩ; rfl
              cbv
              refine ⟨(i + 1, [], 0, 0, 0, false, s3, [], 0, 0), [some 128, none, some 264], ⟨by show i + 1 ≤ n; omega, rfl, Nat.le_refl _, hst_false (hs3.trans hrdS_nil) hrdR_nil, rfl, Nat.le_refl _, Nat.zero_le _, Nat.zero_le _, fun a h => absurd h List.not_mem_nil⟩, by show n - (i + 1) < n - i; omega, by show 3 ≤ 8 * 1; omega, ?_⟩
              have hi1 : Ω.bin .add .i64 (Int.ofNat i) 1 = Int.ofNat (i + 1) := by subst hΩ; exact ia_nl i 1 (by show i + 1 < 9223372036854775808; omega)
              cbv
              exact ⟨rfl, hi1, hl0, trivial⟩
            · intro d2
              cbv
              constructor
              · exact fun _ => ⟨by show 0 + R ≤ r.length; omega, trivial⟩
              constructor
              · exact fun _ _ => by show (Ω.sub r 0 R).length ≤ 140737488355328; rw [hsub]; have := hst_rlen j4; omega
              intro z hz
              obtain ⟨r4, c4⟩ := z
              obtain ⟨hr4, hc4⟩ : r4 = Ω.sub r 0 R ∧ r4.length ≤ c4 := hz
              rw [hsub] at hr4
              have hlr4 : Ω.len r4 = r4.length := by subst hΩ; rfl
              cbv
              have hl1 : Ω.sub [1] 0 1 = [1] := by subst hΩ; rfl
              have hr136 := hst_rlen j4
              constructor
              · exact fun _ => ⟨⟨by show 0 + R ≤ r.length; omega, trivial⟩, by show 0 + 1 ≤ 1; omega, trivial⟩
              constructor
              · exact fun _ _ => ⟨hst_len j4, by show (Ω.sub r 0 R).length ≤ c; rw [hsub]; omega, fun _ => by show (Ω.sub r 0 R).length + 1 ≤ 140737488355328; rw [hsub]; omega⟩
              intro z hz
              obtain ⟨s5, r5, c5⟩ := z
              have ⟨g1, g2, g3⟩ := wr_facts hz
              have g1 : r5.length ≤ c5 := g1
              have g2 : s5.length = 25 := by rw [g2]; exact hst_len j4
              have hsub5 : Ω.sub r5 0 (Ω.len r5) = r5 := by subst hΩ; exact List.take_length
              have hl5 : Ω.len r5 = r5.length := by subst hΩ; rfl
              clear hz
              cbv
              constructor
              · exact fun _ => ⟨⟨by show 0 + Ω.len r5 ≤ r5.length; omega, trivial⟩, trivial, trivial⟩
              constructor
              · exact fun _ _ => ⟨g2, fun ht => by show (Ω.sub r5 0 (Ω.len r5)).length < 136; rw [hsub5]; exact g3 ht, by show (Ω.sub r5 0 (Ω.len r5)).length ≤ c5; rw [hsub5]; exact g1⟩
              intro z hz
              obtain ⟨o7, oc7, s7, r7, c7, k7, er7, tl7⟩ := z
              clear hz
              obtain ⟨R4, hR4⟩ : ∃ R4, R4 = r4.length := ⟨_, rfl⟩
              have hlR4 : Ω.len r4 = R4 := by rw [hR4]; exact hlr4
              have hi1 : Ω.bin .add .i64 (Int.ofNat i) 1 = Int.ofNat (i + 1) := by subst hΩ; exact ia_nl i 1 (by show i + 1 < 9223372036854775808; omega)
              cbv
              refine ⟨(i + 1, M, lM, cM, t, tells, s, r4, R4, c4), [some 416, some 129, some 368], ⟨by show i + 1 ≤ n; omega, j2, j3, by show HSt M tells t s r4; rw [hr4]; exact j4, hR4, by show R4 ≤ c4; omega, by show lM ≤ 400 * (i + 1); omega, by show t ≤ 400 * (i + 1); omega, j9⟩, by show n - (i + 1) < n - i; omega, by show 3 ≤ 8 * 1; omega, ?_⟩
              cbv
              exact ⟨hi1, hlR4, trivial⟩
      · intro hc
        cbv
        rw [hΩ] at hc; simp (disch := omega) only [Om.real, nc, Nat.succ_eq_add_one, Int.ofNat_eq_natCast, Int.toNat_natCast, ia_nn, ia_nl, ia_ln, is_nn, is_nl, is_ln, im_nn, im_nl, im_ln, iq_nn, iq_nl, ir_nn, ir_nl, cl_nn, cl_nl, cl_ln, cle_nn, cle_nl, cle_ln, cg_nn, cg_nl, cg_ln, cge_nn, cge_nl, ce_nn, ce_nl, cn_nn, cn_nl, decide_eq_true_eq, decide_eq_false_iff_not] at hc
        cbv
        constructor
        · exact fun _ => trivial
        intro w hw
        have hw : w = true := hw
        cbv
        refine hQ _ _ _ _ ?_ rfl
        exact hw
end Go.Sx.Tryd
end
section
namespace Go.Sx
open Go.ChangeShapes Go.WideShapes Go.RowKit Go.ChangeAt

theorem trod_struct {H : Type} {enc : TypeId × Value → H} {P : Program} {W : World} {base : Nat} {sp : Nat → Bool} {held : Bool} {t : TypeId} {fs : Array Field} {fuel : Nat} {cs : List Value} {x : DataW H × List MemPlace} (ht : P.underlying t = some (.struct fs))
    (hx : DataW.trod enc P W base sp held fuel t cs = some x) : ∃ m, cs.length = P.cellsOf t ∧ ∀ (j : Nat) f, fs[j]? = some f → ∃ y, DataW.trod enc P W base sp held m f.type ((cs.drop f.offset).take (P.cellsOf f.type)) = some y := by
  cases fuel with
  | zero => simp [DataW.trod] at hx
  | succ fuel =>
    simp only [DataW.trod, ht] at hx
    split at hx
    · rename_i hl
      refine ⟨fuel, hl, fun j f hf => ?_⟩
      rw [Option.map_eq_some_iff] at hx
      obtain ⟨ys, hy, _⟩ := hx
      have h1 := mapM_some_get hy j f (by simpa using hf)
      have h2 := mapM_some_length hy
      have h3 : j < fs.size := (Array.getElem?_eq_some_iff.1 hf).1
      rw [List.getElem?_eq_getElem (by rw [h2]; simpa using h3)] at h1
      exact ⟨_, h1⟩
    · cases hx
/-- A slice of structs of a number, bytes and a number. -/
theorem opens_ops {P : Program} {t e q : TypeId} {f0 f1 f2 : Field} {k : IntKind} (ht : P.underlying t = some (.slice e)) (he : P.underlying e = some (.struct #[f0, f1, f2])) (ce : P.cellsOf e = 3) (o0 : f0.offset = 0) (o1 : f1.offset = 1) (o2 : f2.offset = 2)
    (h0 : P.underlying f0.type = some (.int k)) (h1 : P.underlying f1.type = some (.slice q)) (hq : P.underlying q = some (.int .u8)) (cq : P.cellsOf q = 1) (h2 : P.underlying f2.type = some (.int k))
    (c0 : P.cellsOf f0.type = 1) (c1 : P.cellsOf f1.type = 1) (c2 : P.cellsOf f2.type = 1) :
    Opens P t fun s => ∃ ak bss ns n, s = .roe [.ints k ak, .byts bss, .ints k ns] n ∧ n ≤ maxLen ∧ ∀ i, i < n → ∀ x ∈ bss.getD i [], isInt .u8 x := by
  intro H enc held W fuel cs x hx
  rcases Go.Deep.open_slice ht hx with ⟨rfl, _⟩ | ⟨a, len, cap, m, n, D, Pl, rfl, hb, hl, hm, hmm, rfl, hv⟩
  · exact ⟨_, ⟨[], [], [], 0, rfl, Nat.zero_le _, fun i h => absurd h (Nat.not_lt_zero _)⟩, none, 0, rfl, Nat.le_refl _, fun h => absurd h (Nat.lt_irrefl _)⟩
  · simp only [if_true] at hmm
    subst hmm
    have each : ∀ i, i < len → ∃ y : Int × List Int × Int, (∃ u, W.cell? ((a.add (i * 3)).add 1) = some u ∧ RoI (snapOf W) .u8 y.2.1 u) ∧ W.cell? ((a.add (i * 3)).add 0) = some (.int k y.1) ∧ W.cell? ((a.add (i * 3)).add 2) = some (.int k y.2.2) ∧ ∀ x ∈ y.2.1, isInt .u8 x := fun i hi => by
      obtain ⟨cs', hc, hd⟩ := hv i (by omega)
      rw [ce] at hc
      obtain ⟨_, hcl, hcc⟩ := World.cells?_some hc
      obtain ⟨m', _, hf⟩ := trod_struct he hd
      match cs', hcl with
      | [v0, v1, v2], _ =>
        obtain ⟨y0, hy0⟩ := hf 0 f0 rfl
        obtain ⟨y1, hy1⟩ := hf 1 f1 rfl
        obtain ⟨y2, hy2⟩ := hf 2 f2 rfl
        rw [o0, c0] at hy0
        rw [o1, c1] at hy1
        rw [o2, c2] at hy2
        obtain ⟨s0, ⟨z0, rfl, _⟩, e0⟩ := opens_int h0 W m' _ _ hy0
        obtain ⟨s1, ⟨xs, rfl, _, r1⟩, e1⟩ := opens_ints h1 hq cq W m' _ _ hy1
        obtain ⟨s2, ⟨z2, rfl, _⟩, e2⟩ := opens_int h2 W m' _ _ hy2
        simp only [Rep, List.drop_zero, List.take_succ_cons, List.take_zero, List.drop_succ_cons, List.cons.injEq, and_true] at e0 e1 e2
        obtain ⟨u, e1, r2⟩ := e1
        refine ⟨(z0, xs, z2), ⟨u, ?_, r2⟩, ?_, ?_, r1⟩
        · rw [hcc 1 (by omega)]; simp [e1]
        · rw [hcc 0 (by omega)]; simp [e0]
        · rw [hcc 2 (by omega)]; simp [e2]
    obtain ⟨f, hf⟩ := Go.Deep.choose_lt each
    refine ⟨.roe [.ints k ((List.range len).map fun i => (f i).1), .byts ((List.range len).map fun i => (f i).2.1), .ints k ((List.range len).map fun i => (f i).2.2)] len, ⟨_, _, _, _, rfl, by omega, fun i hi x hx => ?_⟩, some a, m, rfl, by omega, fun hn => ?_⟩
    · have e : ((List.range len).map fun i => (f i).2.1).getD i [] = (f i).2.1 := by simp [List.getD, hi]
      rw [e] at hx
      exact (hf i hi).2.2.2 x hx
    · have hsp := World.cell?_spot (hf 0 hn).2.1
      obtain ⟨b, o, sp⟩ := a
      have hsp : sp = none := by simpa [Addr.add] using hsp
      subst hsp
      refine ⟨b, o, rfl, fun j hj g col hg => ?_⟩
      obtain ⟨⟨u, w1, w2⟩, w0, w3, _⟩ := hf j hj
      have roc : ∀ q v, W.cell? (((⟨b, o, none⟩ : Addr).add (j * 3)).add q) = some v → roCell (snapOf W) b (o + j * 3 + q) = some v := by
        intro q v hv
        rw [Addr_add, Addr_add] at hv
        simp only [World.cell?] at hv
        simp only [roCell, snapOf]
        split at hv
        · rename_i heq
          rw [heq]
          simpa using hv
        · cases hv
      have gi : ∀ {α : Type} (h : Nat → α), ((List.range len).map h)[j]? = some (h j) := fun h => by simp [hj]
      match g, hg with
      | 0, hg => cases hg; exact ⟨_, roc 0 _ w0, _, gi _, rfl⟩
      | 1, hg => cases hg; exact ⟨u, roc 1 _ w1, _, gi _, w2⟩
      | 2, hg => cases hg; exact ⟨_, roc 2 _ w3, _, gi _, rfl⟩
      | g + 3, hg => simp [getCol] at hg
theorem opensV_ops {P : Program} {t e q : TypeId} {f0 f1 f2 : Field} {k : IntKind} (ht : P.underlying t = some (.slice e)) (he : P.underlying e = some (.struct #[f0, f1, f2])) (ce : P.cellsOf e = 3) (o0 : f0.offset = 0) (o1 : f1.offset = 1) (o2 : f2.offset = 2)
    (h0 : P.underlying f0.type = some (.int k)) (h1 : P.underlying f1.type = some (.slice q)) (hq : P.underlying q = some (.int .u8)) (cq : P.cellsOf q = 1) (h2 : P.underlying f2.type = some (.int k))
    (c0 : P.cellsOf f0.type = 1) (c1 : P.cellsOf f1.type = 1) (c2 : P.cellsOf f2.type = 1) :
    OpensV P t fun s => ∃ ak bss ns n, s = .roe [.ints k ak, .byts bss, .ints k ns] n ∧ n ≤ maxLen ∧ ∀ i, i < n → ∀ x ∈ bss.getD i [], isInt .u8 x := by
  intro H enc held W base v d ps hv ⟨fuel, hx⟩
  obtain ⟨a, l, c, rfl⟩ := okWide_slice ht hv
  obtain ⟨s, ⟨ak, bss, ns, n, rfl, hm⟩, h2⟩ := opens_ops ht he ce o0 o1 o2 h0 h1 hq cq h2 c0 c1 c2 W fuel _ _ hx
  exact ⟨_, ⟨ak, bss, ns, n, rfl, hm⟩, h2⟩
end Go.Sx
end
section
namespace Go.Sx.Tryd
open Go.Proofs
theorem pre_ops {bss : List (List Int)} {n : Nat} (h1 : n ≤ maxLen) (h2 : ∀ i, i < n → ∀ x ∈ bss.getD i [], isInt .u8 x) : n ≤ 9223372036854775807 ∧ (∀ i < n, ∀ a ∈ bss.getD i [], InB a) :=
  ⟨len_of h1, fun i hi a ha => inB_of (h2 i hi a ha)⟩
end Go.Sx.Tryd
end
