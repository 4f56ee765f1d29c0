/-
  Part of the proof of a statement: the means.
-/
import Derived.Test.YtnnkakbnmhahjaaDoorX6
import Derived.Test.YtnnkakbnmhahjaaDoorX5
set_option linter.unusedSectionVars false
set_option linter.unusedVariables false
set_option linter.unusedSimpArgs false
set_option linter.deprecated false
section
namespace Go.Sx.Tryd
open Go.Proofs
theorem xs_len {b : List Int} (h : b.length ≤ 9223372036854775807) : b.length < 9223372036854775808 := by omega
theorem beq_self (s : List Int) : (s == s) = true := by simp
def s7 : PSpec := fun args => match args with
  | [.row .u64 25 s, .roi .u8 b] => ⟨∀ _ : Unit, s.length = 25 ∧ (∀ a ∈ s, InR a) ∧ b.length ≤ 9223372036854775807 ∧ (∀ a ∈ b, InB a), Bool, fun z => z = true, fun z => .bs z⟩
  | _ => PR.none
set_option maxHeartbeats 4000000 in
theorem c7 : Ctr Tryd.prog T glob 7 s7 := by
  refine ctr_of T_ok glob_ids mixed [(16, s16), (18, s18), (19, s19), (20, s20), (21, s21), (22, s22)] [] (c_cons c16 (c_cons c18 (c_cons c19 (c_cons c20 (c_cons c21 (c_cons c22 c_nil)))))) i_nil  Tryd.func7 (by rfl) (by kernel_rfl) Tryd.call7 ?_ ?_
  · intro args; unfold s7; split
    · exact good_bool ⟨trivial, trivial, trivial⟩ fun _ => ⟨_, rfl⟩
    · exact PR.good_none
  · intro P Ω hΩ hE hI hm args pr hs hp Q hQ
    unfold s7 at hs
    split at hs <;> subst hs <;> try (exact hp.elim)
    rename_i s b
    obtain ⟨ls, hs, lb', hb⟩ := hp ()
    have hOK : ∀ h t, Q (.bs true) h t := fun h t => hQ true _ h t rfl rfl
    refine ⟨1000, ?_⟩
    cbv
    constructor
    · intro hc
      cbv
      constructor
      · exact fun _ => trivial
      intro z hz
      cbv
      have hz : z = true := hz
      subst hz
      exact hOK _ _
    · intro hc
      cbv
      rw [hΩ] at hc; simp (disch := omega) only [Om.real, nc, Nat.succ_eq_add_one, Int.ofNat_eq_natCast, Int.toNat_natCast, ia_nn, ia_nl, ia_ln, is_nn, is_nl, is_ln, im_nn, im_nl, im_ln, iq_nn, iq_nl, ir_nn, ir_nl, cl_nn, cl_nl, cl_ln, cle_nn, cle_nl, cle_ln, cg_nn, cg_nl, cg_ln, cge_nn, cge_nl, ce_nn, ce_nl, cn_nn, cn_nl, decide_eq_true_eq, decide_eq_false_iff_not] at hc
      constructor
      · exact fun _ _ => ls
      intro z hz
      obtain ⟨c, cap⟩ := z
      obtain ⟨hc1, hcap⟩ : c = bytesUp s 25 ∧ 200 ≤ cap := hz
      have lc : c.length = 200 := by rw [hc1, bytesUp_len]
      have hsub : Ω.sub c 0 (Ω.len c) = c := by subst hΩ; exact List.take_length
      have hlen : Ω.len c = 200 := by subst hΩ; exact lc
      cbv
      constructor
      · exact fun _ => ⟨by show 0 + Ω.len c ≤ c.length; omega, trivial⟩
      constructor
      · exact fun _ _ => by show (Ω.sub c 0 (Ω.len c)).length < _; rw [hsub]; omega
      intro z2 hz2
      have hz2 : z2 = (s, 0) := by
        have h : z2 = ofF (Ω.sub c 0 (Ω.len c)) := hz2
        rw [h, hsub, hc1, of_bytes ls hs]
      subst hz2
      cbv
      constructor
      · exact fun _ _ => ls
      intro z3 hz3
      obtain ⟨c3, cap3⟩ := z3
      obtain ⟨hc3, hcap3⟩ : c3 = refBytesUp s 25 ∧ 200 ≤ cap3 := hz3
      have hcc : c3 = c := by rw [hc3, refBytes_is hs, hc1]
      subst hcc
      cbv
      constructor
      · exact fun _ => ⟨by show 0 + Ω.len c3 ≤ c3.length; omega, by show 0 + Ω.len c3 ≤ c3.length; omega, trivial⟩
      constructor
      · exact fun _ _ => by show (Ω.sub c3 0 (Ω.len c3)).length < _ ∧ (Ω.sub c3 0 (Ω.len c3)).length < _; rw [hsub]; omega
      intro z4 hz4
      have hz4 : z4 = true := by
        have h : z4 = (Ω.sub c3 0 (Ω.len c3) == Ω.sub c3 0 (Ω.len c3)) := hz4
        rw [h]; exact beq_self _
      subst hz4
      cbv
      have ssame : Ω.beq s s = true := by subst hΩ; exact beq_self s
      constructor
      · intro h
        have h' : False := by subst hΩ; exact absurd h (by decide)
        contradiction
      intro _
      cbv
      constructor
      · intro h
        have h' : False := Bool.noConfusion (Eq.trans (Eq.symm (show Ω.bnot (Ω.beq s s) = false by rw [ssame]; subst hΩ; rfl)) h)
        contradiction
      intro _
      cbv
      constructor
      · intro h
        have h' : False := by subst hΩ; exact absurd h (by decide)
        contradiction
      intro _
      cbv
      constructor
      · exact fun _ _ => by omega
      intro z5 hz5
      obtain ⟨t5, e5⟩ := z5
      have hz5 : (t5, e5) = ofF b := hz5
      cbv
      constructor
      · intro hd
        cbv
        rw [hΩ] at hd; simp (disch := omega) only [Om.real, nc, Nat.succ_eq_add_one, Int.ofNat_eq_natCast, Int.toNat_natCast, ia_nn, ia_nl, ia_ln, is_nn, is_nl, is_ln, im_nn, im_nl, im_ln, iq_nn, iq_nl, ir_nn, ir_nl, cl_nn, cl_nl, cl_ln, cle_nn, cle_nl, cle_ln, cg_nn, cg_nl, cg_ln, cge_nn, cge_nl, ce_nn, ce_nl, cn_nn, cn_nl, decide_eq_true_eq, decide_eq_false_iff_not] at hd
        have hz6 : (t5, e5) = (List.replicate 25 0, 11) := hz5.trans (if_pos hd)
        obtain ⟨rfl, rfl⟩ := Prod.mk.inj hz6
        cbv
        constructor
        rotate_left
        · intro h
          have h' : False := by subst hΩ; exact absurd h (by decide)
          contradiction
        intro _
        cbv
        constructor
        rotate_left
        · intro h
          have h' : False := by subst hΩ; exact absurd h (by decide)
          contradiction
        intro _
        cbv
        constructor
        · exact fun _ => trivial
        intro z7 hz7
        have hz7 : z7 = true := hz7
        subst hz7
        cbv
        exact hOK _ _
      · intro hd
        cbv
        rw [hΩ] at hd; simp (disch := omega) only [Om.real, nc, Nat.succ_eq_add_one, Int.ofNat_eq_natCast, Int.toNat_natCast, ia_nn, ia_nl, ia_ln, is_nn, is_nl, is_ln, im_nn, im_nl, im_ln, iq_nn, iq_nl, ir_nn, ir_nl, cl_nn, cl_nl, cl_ln, cle_nn, cle_nl, cle_ln, cg_nn, cg_nl, cg_ln, cge_nn, cge_nl, ce_nn, ce_nl, cn_nn, cn_nl, decide_eq_true_eq, decide_eq_false_iff_not] at hd
        have hd : b.length = 200 := by omega
        have hz6 : (t5, e5) = (refOfUp b 25, 0) := hz5.trans (refOf_is hd hb)
        have hz7 : t5 = (ofF b).1 := by rw [← hz5]
        obtain ⟨hz8, rfl⟩ := Prod.mk.inj hz6
        constructor
        · exact fun _ _ => hd
        intro z6 hz6
        have hz6 : z6 = t5 := hz8.symm ▸ hz6
        have lt5 : t5.length = 25 := by rw [hz8, refOfUp_len]
        subst hz6
        cbv
        have tsame : Ω.beq z6 z6 = true := by subst hΩ; exact beq_self z6
        constructor
        rotate_left
        · intro h
          have h' : False := Bool.noConfusion (Eq.trans (Eq.symm (tsame)) h)
          contradiction
        intro _
        cbv
        constructor
        rotate_left
        · intro h
          have h' : False := by subst hΩ; exact absurd h (by decide)
          contradiction
        intro _
        cbv
        constructor
        · exact fun _ _ => lt5
        intro z8 hz8
        obtain ⟨c8, cap8⟩ := z8
        obtain ⟨hc8, hcap8⟩ : c8 = bytesUp z6 25 ∧ 200 ≤ cap8 := hz8
        have hcb : c8 = b := by rw [hc8, hz7, bytes_of hd hb]
        subst hcb
        have hsub2 : Ω.sub c8 0 (Ω.len c8) = c8 := by subst hΩ; exact List.take_length
        have hlen2 : Ω.len c8 = 200 := by subst hΩ; exact hd
        cbv
        constructor
        · exact fun _ => ⟨by show 0 + Ω.len c8 ≤ c8.length; omega, trivial, trivial⟩
        constructor
        · exact fun _ _ => by show (Ω.sub c8 0 (Ω.len c8)).length < _ ∧ c8.length < _; rw [hsub2]; omega
        intro z9 hz9
        have hz9 : z9 = true := by
          have h : z9 = (Ω.sub c8 0 (Ω.len c8) == c8) := hz9
          rw [h, hsub2]; exact beq_self _
        subst hz9
        cbv
        constructor
        rotate_left
        · intro h
          have h' : False := by subst hΩ; exact absurd h (by decide)
          contradiction
        intro _
        cbv
        constructor
        · exact fun _ => trivial
        intro z7 hz7
        have hz7 : z7 = true := hz7
        subst hz7
        cbv
        exact hOK _ _
end Go.Sx.Tryd
end
section
namespace Go.Sx.Tryd
open Go.Proofs
/-- Bytes of which the first so many are turned. -/
def xw (w b : List Int) : Nat → List Int
  | 0 => w
  | i + 1 => (xw w b i).set i (binL .xor .u8 ((xw w b i).getD i 0) (b.getD i 0))
theorem xw_len (w b : List Int) : ∀ n, (xw w b n).length = w.length
  | 0 => rfl
  | n + 1 => by simp [xw, xw_len w b n]
theorem xor8 (a b : Int) : binL .xor .u8 a b = ((b8 a ^^^ b8 b).toNat : Int) := by
  show IntKind.u8.wrap ((BitVec.ofInt 8 a ^^^ BitVec.ofInt 8 b).toNat : Int) = _
  rw [wrap8, Nat.mod_eq_of_lt (by have := (BitVec.ofInt 8 a ^^^ BitVec.ofInt 8 b).isLt; omega)]
  rfl
theorem xw_getD (w b : List Int) : ∀ n, n ≤ w.length → ∀ j, j < w.length → (xw w b n).getD j 0 = if j < n then binL .xor .u8 (w.getD j 0) (b.getD j 0) else w.getD j 0
  | 0, _, j, hj => by simp [xw]
  | n + 1, hn, j, hj => by
    rw [xw, getD_set _ _ _ _ (by rw [xw_len]; omega)]
    by_cases h : n = j
    · subst h
      rw [if_pos rfl, if_pos (by omega), xw_getD w b n (by omega) n hj, if_neg (by omega)]
    · rw [if_neg h, xw_getD w b n (by omega) j hj]
      by_cases h2 : j < n
      · rw [if_pos h2, if_pos (by omega)]
      · rw [if_neg h2, if_neg (by omega)]
theorem xor_bytes {s b : List Int} (ls : s.length = 25) (hs : ∀ a ∈ s, InR a) (hb : ∀ a ∈ b, InB a) (lb' : b.length ≤ 200) : bytesUp (xorUpTo s b b.length) 25 = xw (bytesUp s 25) b b.length := by
  refine bytes_ext (by rw [bytesUp_len, xw_len, bytesUp_len]) fun j hj => ?_
  rw [bytesUp_len] at hj
  rw [bytes_sb (xorUpTo_rng hs _) j hj, xor_sb ls hb _ lb' j hj, xw_getD _ _ _ (by rw [bytesUp_len]; exact lb') j (by rw [bytesUp_len]; exact hj), bytes_sb hs j hj]
  split
  · rw [xor8, b8_nat]
  · rfl
def s5 : PSpec := fun args => match args with
  | [.row .u64 25 s, .roi .u8 b] => ⟨∀ _ : Unit, s.length = 25 ∧ (∀ a ∈ s, InR a) ∧ b.length ≤ 9223372036854775807 ∧ (∀ a ∈ b, InB a), Bool, fun z => z = true, fun z => .bs z⟩
  | _ => PR.none
set_option maxHeartbeats 4000000 in
theorem c5 : Ctr Tryd.prog T glob 5 s5 := by
  refine ctr_of T_ok glob_ids mixed [(16, s16), (17, s17), (18, s18), (19, s19), (20, s20)] [] (c_cons c16 (c_cons c17 (c_cons c18 (c_cons c19 (c_cons c20 c_nil))))) i_nil  Tryd.func5 (by rfl) (by kernel_rfl) Tryd.call5 ?_ ?_
  · intro args; unfold s5; split
    · exact good_bool ⟨trivial, trivial, trivial⟩ fun _ => ⟨_, rfl⟩
    · exact PR.good_none
  · intro P Ω hΩ hE hI hm args pr hs hp Q hQ
    unfold s5 at hs
    split at hs <;> subst hs <;> try (exact hp.elim)
    rename_i s b
    obtain ⟨ls, hs, lb', hb⟩ := hp ()
    have hOK : ∀ h t, Q (.bs true) h t := fun h t => hQ true _ h t rfl rfl
    refine ⟨1000, ?_⟩
    cbv
    constructor
    · intro hc
      cbv
      constructor
      · exact fun _ => trivial
      intro z hz
      cbv
      have hz : z = true := hz
      subst hz
      exact hOK _ _
    · intro hc
      cbv
      rw [hΩ] at hc; simp (disch := omega) only [Om.real, nc, Nat.succ_eq_add_one, Int.ofNat_eq_natCast, Int.toNat_natCast, ia_nn, ia_nl, ia_ln, is_nn, is_nl, is_ln, im_nn, im_nl, im_ln, iq_nn, iq_nl, ir_nn, ir_nl, cl_nn, cl_nl, cl_ln, cle_nn, cle_nl, cle_ln, cg_nn, cg_nl, cg_ln, cge_nn, cge_nl, ce_nn, ce_nl, cn_nn, cn_nl, decide_eq_true_eq, decide_eq_false_iff_not] at hc
      constructor
      · exact fun _ _ => ⟨ls, by omega⟩
      intro z hz
      obtain ⟨t, e⟩ := z
      have hz : (t, e) = xorF s b := hz
      cbv
      constructor
      · intro hd
        rw [hΩ] at hd; simp (disch := omega) only [Om.real, nc, Nat.succ_eq_add_one, Int.ofNat_eq_natCast, Int.toNat_natCast, ia_nn, ia_nl, ia_ln, is_nn, is_nl, is_ln, im_nn, im_nl, im_ln, iq_nn, iq_nl, ir_nn, ir_nl, cl_nn, cl_nl, cl_ln, cle_nn, cle_nl, cle_ln, cg_nn, cg_nl, cg_ln, cge_nn, cge_nl, ce_nn, ce_nl, cn_nn, cn_nl, decide_eq_true_eq, decide_eq_false_iff_not] at hd
        have hz2 : (t, e) = (List.replicate 25 0, 11) := hz.trans (if_pos hd)
        obtain ⟨rfl, rfl⟩ := Prod.mk.inj hz2
        cbv
        constructor
        rotate_left
        · intro h
          have h' : False := by subst hΩ; exact absurd h (by decide)
          contradiction
        intro _
        cbv
        constructor
        rotate_left
        · intro h
          have h' : False := by subst hΩ; exact absurd h (by decide)
          contradiction
        intro _
        cbv
        constructor
        · exact fun _ => trivial
        intro z7 hz7
        have hz7 : z7 = true := hz7
        subst hz7
        cbv
        exact hOK _ _
      · intro hd
        rw [hΩ] at hd; simp (disch := omega) only [Om.real, nc, Nat.succ_eq_add_one, Int.ofNat_eq_natCast, Int.toNat_natCast, ia_nn, ia_nl, ia_ln, is_nn, is_nl, is_ln, im_nn, im_nl, im_ln, iq_nn, iq_nl, ir_nn, ir_nl, cl_nn, cl_nl, cl_ln, cle_nn, cle_nl, cle_ln, cg_nn, cg_nl, cg_ln, cge_nn, cge_nl, ce_nn, ce_nl, cn_nn, cn_nl, decide_eq_true_eq, decide_eq_false_iff_not] at hd
        have hz2 : (t, e) = (xorUpTo s b b.length, 0) := hz.trans (if_neg hd)
        obtain ⟨ht, rfl⟩ := Prod.mk.inj hz2
        have lt : t.length = 25 := by rw [ht, xorUpTo_len, ls]
        cbv
        constructor
        · exact fun _ _ => ls
        intro z3 hz3
        obtain ⟨w, cap⟩ := z3
        obtain ⟨hw, hcap⟩ : w = refBytesUp s 25 ∧ 200 ≤ cap := hz3
        have hw : w = bytesUp s 25 := by rw [hw, refBytes_is hs]
        have lw : w.length = 200 := by rw [hw, bytesUp_len]
        have hlen : Ω.len w = 200 := by subst hΩ; exact lw
        cbv
        refine loop_inv hE hI hm (fun x : Nat × List Int => (mkT 80 [(1, .roi .u8 b), (2, .ptr 0 (.l 0)), (5, .ptr 88 (.l 0)), (6, .int .i64 0), (7, .sl 144 1 (.l 0) (.s (Ω.len w)) (.s cap)), (8, .int .i64 x.1)], [(144, .seq .u8 x.2), (88, .row .u64 25 t), (0, .row .u64 25 s)])) (fun x => x.1 ≤ b.length ∧ x.2 = xw w b x.1) (fun x => b.length - x.1) 0 ⟨(0, w), [], ⟨Nat.zero_le _, rfl⟩, Nat.le_refl _, ?_⟩ fun x hj => ⟨1000, ?_⟩
        · cbv
          exact ⟨rfl, trivial⟩
        obtain ⟨i, v⟩ := x
        cbv
        obtain ⟨hi, hv⟩ : i ≤ b.length ∧ v = xw w b i := hj
        have lv : v.length = 200 := by rw [hv, xw_len, lw]
        constructor
        · intro he
          rw [hΩ] at he; simp (disch := omega) only [Om.real, nc, Nat.succ_eq_add_one, Int.ofNat_eq_natCast, Int.toNat_natCast, ia_nn, ia_nl, ia_ln, is_nn, is_nl, is_ln, im_nn, im_nl, im_ln, iq_nn, iq_nl, ir_nn, ir_nl, cl_nn, cl_nl, cl_ln, cle_nn, cle_nl, cle_ln, cg_nn, cg_nl, cg_ln, cge_nn, cge_nl, ce_nn, ce_nl, cn_nn, cn_nl, decide_eq_true_eq, decide_eq_false_iff_not] at he
          cbv
          repeat (refine ⟨by ((try intro _); (try subst hΩ); simp (disch := omega) only [Om.real, nc, Nat.succ_eq_add_one, Int.ofNat_eq_natCast, Int.toNat_natCast, ia_nn, ia_nl, ia_ln, is_nn, is_nl, is_ln, im_nn, im_nl, im_ln, iq_nn, iq_nl, ir_nn, ir_nl, cl_nn, cl_nl, cl_ln, cle_nn, cle_nl, cle_ln, cg_nn, cg_nl, cg_ln, cge_nn, cge_nl, ce_nn, ce_nl, cn_nn, cn_nl, SN.v]; omega), ?_⟩)
          obtain ⟨v2, hv2⟩ : ∃ v2, v2 = xw w b (i + 1) := ⟨_, rfl⟩
          refine ⟨(i + 1, v2), [], ⟨by dsimp only; omega, hv2⟩, by dsimp only; omega, by simp, ?_⟩
          cbv
          subst hΩ
          simp (disch := omega) only [Om.real, nc, Nat.succ_eq_add_one, Int.ofNat_eq_natCast, Int.toNat_natCast, ia_nn, ia_nl, ia_ln, is_nn, is_nl, is_ln, im_nn, im_nl, im_ln, iq_nn, iq_nl, ir_nn, ir_nl, cl_nn, cl_nl, cl_ln, cle_nn, cle_nl, cle_ln, cg_nn, cg_nl, cg_ln, cge_nn, cge_nl, ce_nn, ce_nl, cn_nn, cn_nl]
          refine ⟨trivial, ?_, trivial⟩
          rw [hv2, xw, ← hv]
        · intro he
          rw [hΩ] at he; simp (disch := omega) only [Om.real, nc, Nat.succ_eq_add_one, Int.ofNat_eq_natCast, Int.toNat_natCast, ia_nn, ia_nl, ia_ln, is_nn, is_nl, is_ln, im_nn, im_nl, im_ln, iq_nn, iq_nl, ir_nn, ir_nl, cl_nn, cl_nl, cl_ln, cle_nn, cle_nl, cle_ln, cg_nn, cg_nl, cg_ln, cge_nn, cge_nl, ce_nn, ce_nl, cn_nn, cn_nl, decide_eq_true_eq, decide_eq_false_iff_not] at he
          have hib : i = b.length := by omega
          cbv
          constructor
          · exact fun _ _ => ⟨lt, by omega⟩
          intro z4 hz4
          have hz4 : z4 = (s, 0) := by
            have h : z4 = xorF t b := hz4
            rw [h, ← xor_twice ls hs hb (by omega), ← hz]
          subst hz4
          cbv
          constructor
          · exact fun _ _ => lt
          intro z5 hz5
          obtain ⟨c, cap5⟩ := z5
          obtain ⟨hc5, hcap5⟩ : c = bytesUp t 25 ∧ 200 ≤ cap5 := hz5
          have hcv : c = v := by rw [hc5, ht, hv, hib, hw, xor_bytes ls hs hb (by omega)]
          subst hcv
          have hlenc : Ω.len c = 200 := by subst hΩ; exact lv
          cbv
          constructor
          · exact fun _ => ⟨by show 0 + Ω.len c ≤ c.length; omega, by show 0 + Ω.len w ≤ c.length; omega, trivial⟩
          constructor
          · exact fun _ _ => by subst hΩ; show ((c.drop 0).take c.length).length < _ ∧ ((c.drop 0).take w.length).length < _; rw [List.drop_zero, List.length_take, List.length_take]; omega
          intro z6 hz6
          have hz6 : z6 = true := by
            have h : z6 = (Ω.sub c 0 (Ω.len c) == Ω.sub c 0 (Ω.len w)) := hz6
            rw [h, hlenc, hlen]; exact beq_iff_eq.2 rfl
          subst hz6
          cbv
          constructor
          rotate_left
          · intro h
            have h' : False := by subst hΩ; exact absurd h (by decide)
            contradiction
          intro _
          cbv
          constructor
          rotate_left
          · intro h
            have h' : False := by subst hΩ; exact absurd h (by decide)
            contradiction
          intro _
          cbv
          have ssame : Ω.beq s s = true := by subst hΩ; exact beq_iff_eq.2 rfl
          constructor
          rotate_left
          · intro h
            have h' : False := Bool.noConfusion (Eq.trans (Eq.symm (ssame)) h)
            contradiction
          intro _
          cbv
          constructor
          rotate_left
          · intro h
            have h' : False := by subst hΩ; exact absurd h (by decide)
            contradiction
          intro _
          cbv
          constructor
          · exact fun _ => trivial
          intro z7 hz7
          have hz7 : z7 = true := hz7
          subst hz7
          cbv
          exact hOK _ _
end Go.Sx.Tryd
end
section
namespace Go.Sx.Tryd
open Go.Proofs
/-- Bytes of which the first so many are one more. -/
def incUp (c : List Int) : Nat → List Int
  | 0 => c
  | i + 1 => (incUp c i).set i (binL .add .u8 ((incUp c i).getD i 0) 1)
theorem incUp_len (c : List Int) : ∀ n, (incUp c n).length = c.length
  | 0 => rfl
  | n + 1 => by simp [incUp, incUp_len c n]
def s6 : PSpec := fun args => match args with
  | [.row .u64 25 s, .roi .u8 b] => ⟨∀ _ : Unit, s.length = 25 ∧ b.length ≤ 9223372036854775807, Bool, fun z => z = true, fun z => .bs z⟩
  | _ => PR.none
set_option maxHeartbeats 4000000 in
theorem c6 : Ctr Tryd.prog T glob 6 s6 := by
  refine ctr_of T_ok glob_ids mixed [(14, s14), (16, s16), (17, s17), (19, s19), (20, s20)] [] (c_cons c14 (c_cons c16 (c_cons c17 (c_cons c19 (c_cons c20 c_nil))))) i_nil  Tryd.func6 (by rfl) (by kernel_rfl) Tryd.call6 ?_ ?_
  · intro args; unfold s6; split
    · exact good_bool ⟨trivial, trivial, trivial⟩ fun _ => ⟨_, rfl⟩
    · exact PR.good_none
  · intro P Ω hΩ hE hI hm args pr hs hp Q hQ
    unfold s6 at hs
    split at hs <;> subst hs <;> try (exact hp.elim)
    rename_i s b
    obtain ⟨ls, lb'⟩ := hp ()
    have hOK : ∀ h t, Q (.bs true) h t := fun h t => hQ true _ h t rfl rfl
    refine ⟨1000, ?_⟩
    cbv
    constructor
    · intro hc
      cbv
      constructor
      · exact fun _ => trivial
      intro z hz
      cbv
      have hz : z = true := hz
      subst hz
      exact hOK _ _
    · intro hc
      rw [hΩ] at hc; simp (disch := omega) only [Om.real, nc, Nat.succ_eq_add_one, Int.ofNat_eq_natCast, Int.toNat_natCast, ia_nn, ia_nl, ia_ln, is_nn, is_nl, is_ln, im_nn, im_nl, im_ln, iq_nn, iq_nl, ir_nn, ir_nl, cl_nn, cl_nl, cl_ln, cle_nn, cle_nl, cle_ln, cg_nn, cg_nl, cg_ln, cge_nn, cge_nl, ce_nn, ce_nl, cn_nn, cn_nl, decide_eq_true_eq, decide_eq_false_iff_not] at hc
      have hlb : Ω.len b = b.length := by subst hΩ; rfl
      cbv
      constructor
      · exact (fun _ => by show (0 + Ω.len b) * 1 ≤ _; omega)
      constructor
      · exact (fun _ => ⟨trivial, trivial⟩)
      intro cap hcap
      cbv
      constructor
      · exact fun _ _ => ls
      intro p hpp
      have hpp : p = permute s := hpp
      cbv
      constructor
      · exact fun _ _ => ⟨ls, by omega⟩
      intro z hz
      obtain ⟨x, e⟩ := z
      have hz : (x, e) = (xorUpTo s b b.length, 0) := Eq.trans (show (x, e) = xorF s b from hz) (if_neg hc)
      obtain ⟨hx, rfl⟩ := Prod.mk.inj hz
      cbv
      constructor
      · exact fun _ _ => ls
      intro z3 hz3
      obtain ⟨c, cap3⟩ := z3
      obtain ⟨hc3, hcap3⟩ : c = bytesUp s 25 ∧ 200 ≤ cap3 := hz3
      have lc : c.length = 200 := by rw [hc3, bytesUp_len]
      have hlen : Ω.len c = 200 := by subst hΩ; exact lc
      cbv
      refine loop_inv hE hI hm (fun x' : Nat × List Int => (mkT 82 [(1, .roi .u8 b), (2, .ptr 0 (.l 0)), (5, .sl 64 1 (.l 0) (.s (Ω.len b)) (.s cap)), (6, .ptr 88 (.l 0)), (7, .ptr 120 (.l 0)), (8, .ptr 184 (.l 0)), (9, .int .i64 0), (10, .sl 216 1 (.l 0) (.s (Ω.len c)) (.s cap3)), (11, .int .i64 x'.1)], [(216, .seq .u8 x'.2), (184, .row .u64 25 x), (120, .row .u64 25 p), (88, .row .u64 25 s), (64, .seq .u8 b), (0, .row .u64 25 s)])) (fun x => x.1 ≤ c.length ∧ x.2 = incUp c x.1) (fun x => c.length - x.1) 0 ⟨(0, c), [], ⟨Nat.zero_le _, rfl⟩, Nat.le_refl _, ?_⟩ fun x' hj => ⟨1000, ?_⟩
      · cbv
        exact ⟨rfl, trivial⟩
      obtain ⟨i, v⟩ := x'
      cbv
      obtain ⟨hi, hv⟩ : i ≤ c.length ∧ v = incUp c i := hj
      have lv : v.length = 200 := by rw [hv, incUp_len, lc]
      constructor
      · intro he
        rw [hΩ] at he; simp (disch := omega) only [Om.real, nc, Nat.succ_eq_add_one, Int.ofNat_eq_natCast, Int.toNat_natCast, ia_nn, ia_nl, ia_ln, is_nn, is_nl, is_ln, im_nn, im_nl, im_ln, iq_nn, iq_nl, ir_nn, ir_nl, cl_nn, cl_nl, cl_ln, cle_nn, cle_nl, cle_ln, cg_nn, cg_nl, cg_ln, cge_nn, cge_nl, ce_nn, ce_nl, cn_nn, cn_nl, decide_eq_true_eq, decide_eq_false_iff_not] at he
        cbv
        repeat (refine ⟨by ((try intro _); (try subst hΩ); simp (disch := omega) only [Om.real, nc, Nat.succ_eq_add_one, Int.ofNat_eq_natCast, Int.toNat_natCast, ia_nn, ia_nl, ia_ln, is_nn, is_nl, is_ln, im_nn, im_nl, im_ln, iq_nn, iq_nl, ir_nn, ir_nl, cl_nn, cl_nl, cl_ln, cle_nn, cle_nl, cle_ln, cg_nn, cg_nl, cg_ln, cge_nn, cge_nl, ce_nn, ce_nl, cn_nn, cn_nl, SN.v]; omega), ?_⟩)
        obtain ⟨v2, hv2⟩ : ∃ v2, v2 = incUp c (i + 1) := ⟨_, rfl⟩
        refine ⟨(i + 1, v2), [], ⟨by dsimp only; omega, hv2⟩, by dsimp only; omega, by simp, ?_⟩
        cbv
        subst hΩ
        simp (disch := omega) only [Om.real, nc, Nat.succ_eq_add_one, Int.ofNat_eq_natCast, Int.toNat_natCast, ia_nn, ia_nl, ia_ln, is_nn, is_nl, is_ln, im_nn, im_nl, im_ln, iq_nn, iq_nl, ir_nn, ir_nl, cl_nn, cl_nl, cl_ln, cle_nn, cle_nl, cle_ln, cg_nn, cg_nl, cg_ln, cge_nn, cge_nl, ce_nn, ce_nl, cn_nn, cn_nl]
        refine ⟨trivial, ?_, trivial⟩
        rw [hv2, incUp, ← hv]
      · intro he
        cbv
        have hsub : Ω.sub b 0 (Ω.len b) = b := by subst hΩ; exact List.take_length
        constructor
        · exact fun _ => ⟨trivial, by show 0 + Ω.len b ≤ b.length; omega, trivial⟩
        constructor
        · exact fun _ _ => by show s.length = 25 ∧ (Ω.sub b 0 (Ω.len b)).length < _; rw [hsub]; omega
        intro z4 hz4
        have hz4 : z4 = (x, 0) := by
          have h : z4 = xorF s (Ω.sub b 0 (Ω.len b)) := hz4
          rw [h, hsub, hx]; exact if_neg hc
        subst hz4
        have xsame : Ω.beq x x = true := by subst hΩ; exact beq_iff_eq.2 rfl
        have ssame : Ω.beq s s = true := by subst hΩ; exact beq_iff_eq.2 rfl
        have psame : Ω.beq p p = true := by subst hΩ; exact beq_iff_eq.2 rfl
        cbv
        constructor
        rotate_left
        · intro h
          have h' : False := by subst hΩ; exact absurd h (by decide)
          contradiction
        intro _
        cbv
        constructor
        rotate_left
        · intro h
          have h' : False := by subst hΩ; exact absurd h (by decide)
          contradiction
        intro _
        cbv
        constructor
        rotate_left
        · intro h
          have h' : False := Bool.noConfusion (Eq.trans (Eq.symm (xsame)) h)
          contradiction
        intro _
        cbv
        constructor
        rotate_left
        · intro h
          have h' : False := Bool.noConfusion (Eq.trans (Eq.symm (ssame)) h)
          contradiction
        intro _
        cbv
        constructor
        · exact fun _ => ⟨trivial, by show 0 + Ω.len b ≤ b.length; omega, trivial⟩
        constructor
        · exact fun _ _ => by show b.length < _ ∧ (Ω.sub b 0 (Ω.len b)).length < _; rw [hsub]; omega
        intro z6 hz6
        have hz6 : z6 = true := by
          have h : z6 = (b == Ω.sub b 0 (Ω.len b)) := hz6
          rw [h, hsub]; exact beq_iff_eq.2 rfl
        subst hz6
        cbv
        constructor
        rotate_left
        · intro h
          have h' : False := by subst hΩ; exact absurd h (by decide)
          contradiction
        intro _
        cbv
        constructor
        · exact fun _ _ => ls
        intro z7 hz7
        have hz7 : z7 = p := by rw [hpp]; exact hz7
        subst hz7
        cbv
        constructor
        rotate_left
        · intro h
          have h' : False := Bool.noConfusion (Eq.trans (Eq.symm (psame)) h)
          contradiction
        intro _
        cbv
        constructor
        · exact fun _ => trivial
        intro z8 hz8
        have hz8 : z8 = true := hz8
        subst hz8
        cbv
        exact hOK _ _
end Go.Sx.Tryd
end
section
namespace Go.Sx.Tryd
open Go.Proofs
theorem inB_of {a : Int} (h : isInt .u8 a) : InB a := by
  have h' : (Lit.int .u8 a).wf = true := h
  simp only [Lit.wf, Bool.and_eq_true, decide_eq_true_eq] at h'
  have h1 : IntKind.u8.min = 0 := by rfl
  have h2 : IntKind.u8.max = 255 := by rfl
  rw [h1, h2] at h'
  unfold InB
  omega
theorem len_of {n : Nat} (h : n ≤ maxLen) : n ≤ 9223372036854775807 := h
end Go.Sx.Tryd
end
