/-
  Part of the proof of a statement: the means.
-/
import Derived.Test.YtfgejoocodofoaaGreatX6
import Derived.Test.YtfgejoocodofoaaGreatX10
import Derived.Test.YtfgejoocodofoaaGreatX4
import Derived.Test.YtfgejoocodofoaaGreatRows
set_option linter.unusedSectionVars false
set_option linter.unusedVariables false
set_option linter.unusedSimpArgs false
set_option linter.deprecated false
section
namespace Go.Sx
/-! When two points are one element. -/
theorem pm1 (x y d l : Fp) (h1 : x * x + y * y = 1 + d * x * x * y * y) (h2 : l * x * (l * x) + l * y * (l * y) = 1 + d * (l * x) * (l * x) * (l * y) * (l * y)) : (l * l - 1) * (d * (x * y * l * (x * y * l)) - 1) = 0 := by grind -lia -linarith -order -ac (splits := 0)
theorem pm2 (z d : Fp) (h : d * (z * z) - 1 = 0) : d * (z * z) = 1 * 1 := by grind -lia -linarith -order -ac (splits := 0)
theorem pm3 (z d : Fp) (h : d * (z * z) - 1 = 0) (hz : z = 0) : (1 : Fp) = 0 := by rw [hz] at h; grind -lia -linarith -order -ac (splits := 0)
theorem pm4 (a b : Fp) (h : a * a - 1 = 0) (hb : b * b - 1 = 0) : a * a = b * b := by grind -lia -linarith -order -ac (splits := 0)
theorem par_pm {P Q : AP} (hP : P.on) (hQ : Q.on) (h : P.x * Q.y = P.y * Q.x) : Q = P ∨ Q = ⟨-P.x, -P.y⟩ := by
  obtain ⟨x, y⟩ := P
  obtain ⟨u, v⟩ := Q
  have h1 : x * x + y * y = 1 + dF * x * x * y * y := hP
  have h2 : u * u + v * v = 1 + dF * u * u * v * v := hQ
  have h : x * v = y * u := h
  by_cases hx : x = 0
  · subst hx
    have e1 : (0 : Fp) * 0 + y * y = y * y := by grind -lia -linarith -order -ac (splits := 0)
    have e2 : 1 + dF * 0 * 0 * y * y = 1 := by generalize dF = d; grind -lia -linarith -order -ac (splits := 0)
    rw [e1, e2] at h1
    have hy : y ≠ 0 := by
      rintro rfl
      exact one_ne (by rw [← h1]; exact Fin.mul_zero _)
    have hu : u = 0 := by
      rcases fp_zero (show y * u = 0 by rw [← h]; exact Fin.zero_mul _) with h3 | h3
      · exact absurd h3 hy
      · exact h3
    subst hu
    have e3 : (0 : Fp) * 0 + v * v = v * v := by grind -lia -linarith -order -ac (splits := 0)
    have e4 : 1 + dF * 0 * 0 * v * v = 1 := by generalize dF = d; grind -lia -linarith -order -ac (splits := 0)
    rw [e3, e4] at h2
    rcases fp_sq (h2.trans h1.symm) with h3 | h3
    · left; rw [h3]
    · right
      show (⟨0, v⟩ : AP) = ⟨-0, -y⟩
      rw [h3]
      have : (-0 : Fp) = 0 := by grind -lia -linarith -order -ac (splits := 0)
      rw [this]
  · obtain ⟨l, hl⟩ : ∃ l, u = l * x := by
      refine ⟨u * finv x, ?_⟩
      have := mul_finv hx
      generalize finv x = i at *
      have e : u * i * x = u * (x * i) := by grind -lia -linarith -order -ac (splits := 0)
      rw [e, this]; grind -lia -linarith -order -ac (splits := 0)
    have hv : v = l * y := by
      refine fp_cancel hx ?_
      rw [Fin.mul_comm v, h, hl]; grind -lia -linarith -order -ac (splits := 0)
    rw [hl, hv] at h2
    rcases fp_zero (pm1 x y dF l h1 h2) with h3 | h3
    · have h4 : l * l = 1 * 1 := by
        have e : l * l = l * l - 1 + 1 := by grind -lia -linarith -order -ac (splits := 0)
        rw [e, h3]; grind -lia -linarith -order -ac (splits := 0)
      rcases fp_sq h4 with h5 | h5
      · left
        rw [hl, hv, h5]
        have a1 : (1 : Fp) * x = x := by grind -lia -linarith -order -ac (splits := 0)
        have a2 : (1 : Fp) * y = y := by grind -lia -linarith -order -ac (splits := 0)
        rw [a1, a2]
      · right
        show (⟨u, v⟩ : AP) = ⟨-x, -y⟩
        rw [hl, hv, h5]
        have a1 : -(1 : Fp) * x = -x := by grind -lia -linarith -order -ac (splits := 0)
        have a2 : -(1 : Fp) * y = -y := by grind -lia -linarith -order -ac (splits := 0)
        rw [a1, a2]
    · exfalso
      have h4 := d_sq (pm2 _ dF h3)
      exact one_ne (pm3 _ dF h3 h4)
theorem ng3 (x y : Fp) : (-x + -x * -y) * (-x - -x * -y) = (x + x * y) * (x - x * y) := by grind -lia -linarith -order -ac (splits := 0)
theorem ng4 (U x d : Fp) : U * -x * -x * (1 - d) = U * x * x * (1 - d) := by grind -lia -linarith -order -ac (splits := 0)
theorem ng5 (r x y e d : Fp) : r * -x * (e - -x * -y) * (1 - d) = -(r * x * (e - x * y) * (1 - d)) := by grind -lia -linarith -order -ac (splits := 0)
/-- A point turned round by 0, -1 has the same bytes. -/
theorem encF_neg (x y : Fp) : encF ⟨-x, -y⟩ = encF ⟨x, y⟩ := by
  obtain ⟨U, hU⟩ : ∃ U, U = (x + x * y) * (x - x * y) := ⟨_, rfl⟩
  obtain ⟨r, hr⟩ : ∃ r, r = fratio (fI 1) (U * x * x * (1 - dF)) := ⟨_, rfl⟩
  obtain ⟨w, hw⟩ : ∃ w, w = fabs (r * U * rootD) := ⟨_, rfl⟩
  rw [encF_eq ⟨x, y⟩ hU hr hw, encF_eq ⟨-x, -y⟩ (U := U) (r2 := r) (w2 := w) (hU.trans (ng3 x y).symm) (hr.trans (congrArg _ (ng4 U x dF).symm)) hw]
  show fabs (r * -x * (rootE * w - -x * -y) * (1 - dF)) = fabs (r * x * (rootE * w - x * y) * (1 - dF))
  rw [ng5, fabs_neg]
theorem fbytes_inj {a b : Fp} (h : fbytes a = fbytes b) : a = b := by
  have h1 := ofBytes_f a
  rw [h, ofBytes_f] at h1
  exact h1.symm
theorem pl1 (px py qx qy ex ey : Fp) (h1 : ex * py = ey * px) (h2 : ex * qy = ey * qx) : (px * qy - py * qx) * ex = 0 ∧ (px * qy - py * qx) * ey = 0 := by
  constructor
  · have e : (px * qy - py * qx) * ex = px * (ex * qy) - (ex * py) * qx := by grind -lia -linarith -order -ac (splits := 0)
    rw [e, h1, h2]; grind -lia -linarith -order -ac (splits := 0)
  · have e : (px * qy - py * qx) * ey = (ey * px) * qy - py * (ey * qx) := by grind -lia -linarith -order -ac (splits := 0)
    rw [e, ← h1, ← h2]; grind -lia -linarith -order -ac (splits := 0)
/-- Two even points are one element just if their bytes are the same. -/
theorem same_iff {P Q : AP} (hP : P.on) (hQ : Q.on) (eP : Ev P) (eQ : Ev Q) : decide (P.x * Q.y = P.y * Q.x) = (fbytes (encF P) == fbytes (encF Q)) := by
  by_cases h : P.x * Q.y = P.y * Q.x
  · rw [decide_eq_true h]
    rcases par_pm hP hQ h with h1 | h1
    · rw [h1]; simp
    · have : encF Q = encF P := by rw [h1, encF_neg]
      rw [this]; simp
  · rw [decide_eq_false h]
    symm
    rw [beq_eq_false_iff_ne]
    intro hf
    apply h
    obtain ⟨a1, a2, a3⟩ := dec_enc hP eP
    obtain ⟨b1, b2, b3⟩ := dec_enc hQ eQ
    rw [← hf] at b3
    obtain ⟨⟨ex, ey⟩, hE⟩ : ∃ E, E = decPt (fbytes (encF P)) := ⟨_, rfl⟩
    rw [← hE] at a2 a3 b3
    obtain ⟨c1, c2⟩ := pl1 _ _ _ _ _ _ a3 b3
    have sub0 : ∀ a b : Fp, a - b = 0 → a = b := by
      intro a b h; have e : a = a - b + b := by grind -lia -linarith -order -ac (splits := 0)
      rw [e, h]; grind -lia -linarith -order -ac (splits := 0)
    rcases fp_zero c1 with h1 | h1
    · exact sub0 _ _ h1
    · rcases fp_zero c2 with h2 | h2
      · exact sub0 _ _ h2
      · exfalso
        have h1 : ex = 0 := h1
        have h2 : ey = 0 := h2
        subst h1
        subst h2
        have h3 : (0 : Fp) * 0 + 0 * 0 = 1 + dF * 0 * 0 * 0 * 0 := a2
        apply one_ne
        have e1 : (0 : Fp) * 0 + 0 * 0 = 0 := by grind -lia -linarith -order -ac (splits := 0)
        have e2 : 1 + dF * 0 * 0 * 0 * 0 = 1 := by generalize dF = d; grind -lia -linarith -order -ac (splits := 0)
        rw [e1, e2] at h3
        exact h3.symm
end Go.Sx
end
section
namespace Go.Sx.Tryz
open Go.Proofs
set_option maxRecDepth 40000
def s_chicorylaw14_pair (Ω : Om) : PSpec := fun args => match args with
  | [.agg [.agg [.roi .u8 K0, .int .i64 T0], .agg [.roi .u8 K1, .int .i64 T1]]] => ⟨∀ _ : Unit, (Byt K0 ∧ K0.length < 9223372036854775808) ∧ Byt K1 ∧ K1.length < 9223372036854775808, Bool × Bool, fun z => z.1 = decide (K0.length ≤ 57 ∧ 0 ≤ T0 ∧ T0 ≤ 3) ∧ z.2 = decide (K1.length ≤ 57 ∧ 0 ≤ T1 ∧ T1 ≤ 3), fun z => match z with | (true, true) => .tup [.ab (.pt (Ω.hide _ fun _ => padd (spP K0 T0) (spP K0 T0))), .ab (.pt (Ω.hide _ fun _ => padd (spP K1 T1) (spP K1 T1))), .ab (.rp (Ω.hide _ fun _ => padd (spP K0 T0) (spP K0 T0))), .ab (.rp (Ω.hide _ fun _ => padd (spP K1 T1) (spP K1 T1))), .bl true] | (true, false) => .tup [.ab (.pt (Ω.hide _ fun _ => padd (spP K0 T0) (spP K0 T0))), .ab (.pt (Ω.hide _ fun _ => pid)), .ab (.rp (Ω.hide _ fun _ => padd (spP K0 T0) (spP K0 T0))), .ab (.rp (Ω.hide _ fun _ => pid)), .bl false] | (false, true) => .tup [.ab (.pt (Ω.hide _ fun _ => pid)), .ab (.pt (Ω.hide _ fun _ => padd (spP K1 T1) (spP K1 T1))), .ab (.rp (Ω.hide _ fun _ => pid)), .ab (.rp (Ω.hide _ fun _ => padd (spP K1 T1) (spP K1 T1))), .bl false] | (false, false) => .tup [.ab (.pt (Ω.hide _ fun _ => pid)), .ab (.pt (Ω.hide _ fun _ => pid)), .ab (.rp (Ω.hide _ fun _ => pid)), .ab (.rp (Ω.hide _ fun _ => pid)), .bl false]⟩
  | _ => PR.none
set_option maxHeartbeats 4000000 in
theorem c_chicorylaw14_pair : Ctr Tryz.prog T glob 17 (s_chicorylaw14_pair Om.real) := by
  refine ctr_ofO T_ok glob_ids mixed (fun Ω => [(10, s_chicorylaw14_Made Ω)]) [] (fun Ω => []) [] (c_cons c_chicorylaw14_Made c_nil) i_nil m_nil x_nil Tryz.func17 (by rfl) (by kernel_rfl) Tryz.call17 ?_ ?_
  · intro args; unfold s_chicorylaw14_pair; split
    · exact good_flat ⟨fun x => by obtain ⟨a, b⟩ := x; cases a <;> cases b <;> repeat' (first | exact trivial | constructor), fun E x b => by obtain ⟨a, c⟩ := x; cases a <;> cases c <;> rfl⟩ (by repeat' (first | exact trivial | constructor)) (fun _ => ⟨(_, _), rfl, rfl⟩)
    · exact PR.good_none
  · intro P Ω hΩ hE hI hm args pr hs hp Q hQ
    unfold s_chicorylaw14_pair at hs
    split at hs <;> subst hs <;> try (exact hp.elim)
    rename_i K0 T0 K1 T1
    obtain ⟨⟨hK0, hl0⟩, hK1, hl1⟩ := hp ()
    refine ⟨1000, ?_⟩
    conv => cbv
    constructor
    · exact fun _ _ => ⟨hK0, hl0⟩
    intro (z : Bool) hz
    have hz : z = decide (K0.length ≤ 57 ∧ 0 ≤ T0 ∧ T0 ≤ 3) := hz
    cases z with
    | true =>
      conv => cbv
      constructor
      · exact fun _ _ => ⟨hK1, hl1⟩
      intro (y : Bool) hy
      have hy : y = decide (K1.length ≤ 57 ∧ 0 ≤ T1 ∧ T1 ≤ 3) := hy
      cases y with
      | true =>
        conv => cbv
        refine hQ (true, true) _ _ _ ⟨hz, hy⟩ ?_
        subst hΩ
        exact ⟨⟨rfl, rfl, rfl, rfl, rfl, trivial⟩, rfl, rfl⟩
      | false =>
        conv => cbv
        refine hQ (true, false) _ _ _ ⟨hz, hy⟩ ?_
        subst hΩ
        exact ⟨⟨rfl, rfl, rfl, rfl, rfl, trivial⟩, rfl, rfl⟩
    | false =>
      conv => cbv
      constructor
      · exact fun _ _ => ⟨hK1, hl1⟩
      intro (y : Bool) hy
      have hy : y = decide (K1.length ≤ 57 ∧ 0 ≤ T1 ∧ T1 ≤ 3) := hy
      cases y with
      | true =>
        conv => cbv
        refine hQ (false, true) _ _ _ ⟨hz, hy⟩ ?_
        subst hΩ
        exact ⟨⟨rfl, rfl, rfl, rfl, rfl, trivial⟩, rfl, rfl⟩
      | false =>
        conv => cbv
        refine hQ (false, false) _ _ _ ⟨hz, hy⟩ ?_
        subst hΩ
        exact ⟨⟨rfl, rfl, rfl, rfl, rfl, trivial⟩, rfl, rfl⟩
def s_chicorylaw14_DecafAdds (Ω : Om) : PSpec := fun args => match args with
  | [.agg [.agg [.roi .u8 K0, .int .i64 T0], .agg [.roi .u8 K1, .int .i64 T1]], .bs bit] => ⟨∀ _ : Unit, (Byt K0 ∧ K0.length < 9223372036854775808) ∧ Byt K1 ∧ K1.length < 9223372036854775808, Unit, fun _ => True, fun _ => .bs (Ω.hide _ fun _ => true)⟩
  | _ => PR.none
set_option maxHeartbeats 4000000 in
theorem c_chicorylaw14_DecafAdds : Ctr Tryz.prog T glob 4 (s_chicorylaw14_DecafAdds Om.real) := by
  refine ctr_ofO T_ok glob_ids mixed (fun Ω => [(9, s_chicorylaw14_awake Ω), (17, s_chicorylaw14_pair Ω), (18, s_chicoryref14_Equal Ω), (19, s_decaf_Equal Ω), (16, s_decaf_Encode Ω), (15, s_chicorylaw11_Bytes Ω), (20, s_decaf_Select Ω), (14, s_chicorylaw14_Same Ω), (21, s_decaf_Add Ω), (22, s_chicoryref08_Add Ω), (23, s_decaf_Sub Ω), (24, s_chicoryref08_Neg Ω), (25, s_decaf_Neg Ω), (26, s_decaf_Double Ω)]) [] (fun Ω => []) [] (c_cons c_chicorylaw14_awake (c_cons c_chicorylaw14_pair (c_cons c_chicoryref14_Equal (c_cons c_decaf_Equal (c_cons c_decaf_Encode (c_cons c_chicorylaw11_Bytes (c_cons c_decaf_Select (c_cons c_chicorylaw14_Same (c_cons c_decaf_Add (c_cons c_chicoryref08_Add (c_cons c_decaf_Sub (c_cons c_chicoryref08_Neg (c_cons c_decaf_Neg (c_cons c_decaf_Double c_nil)))))))))))))) i_nil m_nil x_nil Tryz.func4 (by rfl) (by kernel_rfl) Tryz.call4 ?_ ?_
  · intro args; unfold s_chicorylaw14_DecafAdds; split
    · exact good_flat ⟨fun _ => by repeat' (first | exact trivial | constructor), fun _ _ _ => rfl⟩ (by repeat' (first | exact trivial | constructor)) (fun _ => ⟨(), trivial⟩)
    · exact PR.good_none
  · intro P Ω hΩ hE hI hm args pr hs hp Q hQ
    unfold s_chicorylaw14_DecafAdds at hs
    split at hs <;> subst hs <;> try (exact hp.elim)
    rename_i K0 T0 K1 T1 bit
    obtain ⟨⟨hK0, hl0⟩, hK1, hl1⟩ := hp ()
    have hP0 : (padd (spP K0 T0) (spP K0 T0)).on := padd_on (spP_on _ _) (spP_on _ _)
    have hP1 : (padd (spP K1 T1) (spP K1 T1)).on := padd_on (spP_on _ _) (spP_on _ _)
    have hE0 : Ev (padd (spP K0 T0) (spP K0 T0)) := ev_twice (spP_on _ _)
    have hE1 : Ev (padd (spP K1 T1) (spP K1 T1)) := ev_twice (spP_on _ _)
    have hsi := same_iff hP0 hP1 hE0 hE1
    refine ⟨1000, ?_⟩
    conv => cbv
    constructor
    · exact fun _ _ => ⟨⟨hK0, hl0⟩, hK1, hl1⟩
    intro (z : Bool × Bool) hz
    obtain ⟨z1, z2⟩ := z
    cases z1 with
    | false =>
      cases z2 with
      | false =>
        conv => cbv
        constructor; (first | exact fun (_ : Unit) => trivial | exact fun (_ : Unit) (_ : Unit) => (by decide)); intro _ _; conv => cbv
        refine hQ () _ _ _ trivial ?_
        subst hΩ
        rfl
      | true =>
        conv => cbv
        constructor; (first | exact fun (_ : Unit) => trivial | exact fun (_ : Unit) (_ : Unit) => (by decide)); intro _ _; conv => cbv
        refine hQ () _ _ _ trivial ?_
        subst hΩ
        rfl
    | true =>
      cases z2 with
      | false =>
        conv => cbv
        constructor; (first | exact fun (_ : Unit) => trivial | exact fun (_ : Unit) (_ : Unit) => (by decide)); intro _ _; conv => cbv
        refine hQ () _ _ _ trivial ?_
        subst hΩ
        rfl
      | true =>
        conv => cbv
        constructor; (first | exact fun (_ : Unit) => trivial | exact fun (_ : Unit) (_ : Unit) => (by decide)); intro _ _; conv => cbv
        constructor; (first | exact fun (_ : Unit) => trivial | exact fun (_ : Unit) (_ : Unit) => (by decide)); intro _ _; conv => cbv
        constructor
        · intro h
          have h' : False := by
            subst hΩ
            have h2 : (if decide ((padd (spP K0 T0) (spP K0 T0)).x * (padd (spP K1 T1) (spP K1 T1)).y = (padd (spP K0 T0) (spP K0 T0)).y * (padd (spP K1 T1) (spP K1 T1)).x) then !decide ((padd (spP K0 T0) (spP K0 T0)).x * (padd (spP K1 T1) (spP K1 T1)).y = (padd (spP K0 T0) (spP K0 T0)).y * (padd (spP K1 T1) (spP K1 T1)).x) else decide ((padd (spP K0 T0) (spP K0 T0)).x * (padd (spP K1 T1) (spP K1 T1)).y = (padd (spP K0 T0) (spP K0 T0)).y * (padd (spP K1 T1) (spP K1 T1)).x)) = true := h
            generalize decide ((padd (spP K0 T0) (spP K0 T0)).x * (padd (spP K1 T1) (spP K1 T1)).y = (padd (spP K0 T0) (spP K0 T0)).y * (padd (spP K1 T1) (spP K1 T1)).x) = q at h2; cases q <;> simp at h2
          clear hz hsi hP0 hP1 hE0 hE1
          contradiction
        intro _
        conv => cbv
        constructor
        · exact fun (_ : Unit) => trivial
        intro x hx
        obtain ⟨x1, x2⟩ := x
        have hx : x1 = fbytes (encF (padd (spP K0 T0) (spP K0 T0))) ∧ x1.length ≤ x2 := by subst hΩ; exact hx
        conv => cbv
        constructor
        · exact fun (_ : Unit) => trivial
        intro y hy
        obtain ⟨y1, y2⟩ := y
        have hy : y1 = fbytes (encF (padd (spP K1 T1) (spP K1 T1))) ∧ y1.length ≤ y2 := by subst hΩ; exact hy
        have hx0 : x1 = fbytes (encF (padd (spP K0 T0) (spP K0 T0))) := hx.1
        have hy0 : y1 = fbytes (encF (padd (spP K1 T1) (spP K1 T1))) := hy.1
        have hsx : (x1.drop 0).take x1.length = x1 := by rw [List.drop_zero, List.take_length]
        have hsy : (y1.drop 0).take y1.length = y1 := by rw [List.drop_zero, List.take_length]
        conv => cbv
        constructor
        · exact fun _ => ⟨by subst hΩ; show 0 + x1.length ≤ x1.length; omega, by subst hΩ; show 0 + y1.length ≤ y1.length; omega, trivial⟩
        constructor
        · intro _ _
          subst hΩ
          show ((x1.drop 0).take x1.length).length < _ ∧ ((y1.drop 0).take y1.length).length < _
          rw [hsx, hsy, hx0, hy0, fbytes_len, fbytes_len]
          decide
        intro _ _
        conv => cbv
        constructor
        · intro h
          have h' : False := by
            subst hΩ
            have h2 : (if ((x1.drop 0).take x1.length == (y1.drop 0).take y1.length) then !decide ((padd (spP K0 T0) (spP K0 T0)).x * (padd (spP K1 T1) (spP K1 T1)).y = (padd (spP K0 T0) (spP K0 T0)).y * (padd (spP K1 T1) (spP K1 T1)).x) else decide ((padd (spP K0 T0) (spP K0 T0)).x * (padd (spP K1 T1) (spP K1 T1)).y = (padd (spP K0 T0) (spP K0 T0)).y * (padd (spP K1 T1) (spP K1 T1)).x)) = true := h
            rw [hsx, hsy, hx0, hy0, ← hsi] at h2; generalize decide ((padd (spP K0 T0) (spP K0 T0)).x * (padd (spP K1 T1) (spP K1 T1)).y = (padd (spP K0 T0) (spP K0 T0)).y * (padd (spP K1 T1) (spP K1 T1)).x) = q at h2; cases q <;> simp at h2
          clear hz hsi hP0 hP1 hE0 hE1 hx hy hsx hsy hx0 hy0
          contradiction
        intro _
        conv => cbv
        constructor; (first | exact fun (_ : Unit) => trivial | exact fun (_ : Unit) (_ : Unit) => (by decide)); intro _ _; conv => cbv
        constructor
        · intro hb
          cbv
          constructor; (first | exact fun (_ : Unit) => trivial | exact fun (_ : Unit) (_ : Unit) => (by decide)); intro _ _; conv => cbv
          constructor; (first | exact fun (_ : Unit) => trivial | exact fun (_ : Unit) (_ : Unit) => (by decide)); intro _ _; conv => cbv
          constructor
          rotate_left
          · intro h
            have h' : False := by
              subst hΩ
              have h2 : (fbytes (encF (if (1 : Int) % 2 = 0 then (padd (spP K0 T0) (spP K0 T0)) else (padd (spP K1 T1) (spP K1 T1)))) == fbytes (encF (padd (spP K1 T1) (spP K1 T1)))) = false := h
              rw [if_neg (show ¬ (1 : Int) % 2 = 0 by decide)] at h2; simp at h2
            clear hz hsi hP0 hP1 hE0 hE1
            contradiction
          intro _
          conv => cbv
          constructor; (first | exact fun (_ : Unit) => trivial | exact fun (_ : Unit) (_ : Unit) => (by decide)); intro _ _; conv => cbv
          constructor; (first | exact fun (_ : Unit) => trivial | exact fun (_ : Unit) (_ : Unit) => (by decide)); intro _ _; conv => cbv
          constructor; (first | exact fun (_ : Unit) => trivial | exact fun (_ : Unit) (_ : Unit) => (by decide)); intro _ _; conv => cbv
          constructor
          rotate_left
          · intro h
            have h' : False := by
              subst hΩ
              have h2 : (fbytes (encF (padd (padd (spP K0 T0) (spP K0 T0)) (padd (spP K1 T1) (spP K1 T1)))) == fbytes (encF (padd (padd (spP K0 T0) (spP K0 T0)) (padd (spP K1 T1) (spP K1 T1))))) = false := h
              simp at h2
            clear hz hsi hP0 hP1 hE0 hE1
            contradiction
          intro _
          conv => cbv
          constructor; (first | exact fun (_ : Unit) => trivial | exact fun (_ : Unit) (_ : Unit) => (by decide)); intro _ _; conv => cbv
          constructor; (first | exact fun (_ : Unit) => trivial | exact fun (_ : Unit) (_ : Unit) => (by decide)); intro _ _; conv => cbv
          constructor; (first | exact fun (_ : Unit) => trivial | exact fun (_ : Unit) (_ : Unit) => (by decide)); intro _ _; conv => cbv
          constructor; (first | exact fun (_ : Unit) => trivial | exact fun (_ : Unit) (_ : Unit) => (by decide)); intro _ _; conv => cbv
          constructor
          rotate_left
          · intro h
            have h' : False := by
              subst hΩ
              have h2 : (fbytes (encF (padd (padd (spP K0 T0) (spP K0 T0)) (pneg (padd (spP K1 T1) (spP K1 T1))))) == fbytes (encF (padd (padd (spP K0 T0) (spP K0 T0)) (pneg (padd (spP K1 T1) (spP K1 T1)))))) = false := h
              simp at h2
            clear hz hsi hP0 hP1 hE0 hE1
            contradiction
          intro _
          conv => cbv
          constructor; (first | exact fun (_ : Unit) => trivial | exact fun (_ : Unit) (_ : Unit) => (by decide)); intro _ _; conv => cbv
          constructor; (first | exact fun (_ : Unit) => trivial | exact fun (_ : Unit) (_ : Unit) => (by decide)); intro _ _; conv => cbv
          constructor; (first | exact fun (_ : Unit) => trivial | exact fun (_ : Unit) (_ : Unit) => (by decide)); intro _ _; conv => cbv
          constructor
          rotate_left
          · intro h
            have h' : False := by
              subst hΩ
              have h2 : (fbytes (encF (pneg (padd (spP K0 T0) (spP K0 T0)))) == fbytes (encF (pneg (padd (spP K0 T0) (spP K0 T0))))) = false := h
              simp at h2
            clear hz hsi hP0 hP1 hE0 hE1
            contradiction
          intro _
          conv => cbv
          constructor; (first | exact fun (_ : Unit) => trivial | exact fun (_ : Unit) (_ : Unit) => (by decide)); intro _ _; conv => cbv
          constructor; (first | exact fun (_ : Unit) => trivial | exact fun (_ : Unit) (_ : Unit) => (by decide)); intro _ _; conv => cbv
          constructor; (first | exact fun (_ : Unit) => trivial | exact fun (_ : Unit) (_ : Unit) => (by decide)); intro _ _; conv => cbv
          constructor
          rotate_left
          · intro h
            have h' : False := by
              subst hΩ
              have h2 : (fbytes (encF (padd (padd (spP K0 T0) (spP K0 T0)) (padd (spP K0 T0) (spP K0 T0)))) == fbytes (encF (padd (padd (spP K0 T0) (spP K0 T0)) (padd (spP K0 T0) (spP K0 T0))))) = false := h
              simp at h2
            clear hz hsi hP0 hP1 hE0 hE1
            contradiction
          intro _
          conv => cbv
          constructor; (first | exact fun (_ : Unit) => trivial | exact fun (_ : Unit) (_ : Unit) => (by decide)); intro _ _; conv => cbv
          refine hQ () _ _ _ trivial ?_
          subst hΩ
          rfl
        · intro hb
          cbv

          constructor; (first | exact fun (_ : Unit) => trivial | exact fun (_ : Unit) (_ : Unit) => (by decide)); intro _ _; conv => cbv
          constructor
          rotate_left
          · intro h
            have h' : False := by
              subst hΩ
              have h2 : (fbytes (encF (if (0 : Int) % 2 = 0 then (padd (spP K0 T0) (spP K0 T0)) else (padd (spP K1 T1) (spP K1 T1)))) == fbytes (encF (padd (spP K0 T0) (spP K0 T0)))) = false := h
              rw [if_pos (show (0 : Int) % 2 = 0 from rfl)] at h2; simp at h2
            clear hz hsi hP0 hP1 hE0 hE1
            contradiction
          intro _
          conv => cbv
          constructor; (first | exact fun (_ : Unit) => trivial | exact fun (_ : Unit) (_ : Unit) => (by decide)); intro _ _; conv => cbv
          constructor; (first | exact fun (_ : Unit) => trivial | exact fun (_ : Unit) (_ : Unit) => (by decide)); intro _ _; conv => cbv
          constructor; (first | exact fun (_ : Unit) => trivial | exact fun (_ : Unit) (_ : Unit) => (by decide)); intro _ _; conv => cbv
          constructor
          rotate_left
          · intro h
            have h' : False := by
              subst hΩ
              have h2 : (fbytes (encF (padd (padd (spP K0 T0) (spP K0 T0)) (padd (spP K1 T1) (spP K1 T1)))) == fbytes (encF (padd (padd (spP K0 T0) (spP K0 T0)) (padd (spP K1 T1) (spP K1 T1))))) = false := h
              simp at h2
            clear hz hsi hP0 hP1 hE0 hE1
            contradiction
          intro _
          conv => cbv
          constructor; (first | exact fun (_ : Unit) => trivial | exact fun (_ : Unit) (_ : Unit) => (by decide)); intro _ _; conv => cbv
          constructor; (first | exact fun (_ : Unit) => trivial | exact fun (_ : Unit) (_ : Unit) => (by decide)); intro _ _; conv => cbv
          constructor; (first | exact fun (_ : Unit) => trivial | exact fun (_ : Unit) (_ : Unit) => (by decide)); intro _ _; conv => cbv
          constructor; (first | exact fun (_ : Unit) => trivial | exact fun (_ : Unit) (_ : Unit) => (by decide)); intro _ _; conv => cbv
          constructor
          rotate_left
          · intro h
            have h' : False := by
              subst hΩ
              have h2 : (fbytes (encF (padd (padd (spP K0 T0) (spP K0 T0)) (pneg (padd (spP K1 T1) (spP K1 T1))))) == fbytes (encF (padd (padd (spP K0 T0) (spP K0 T0)) (pneg (padd (spP K1 T1) (spP K1 T1)))))) = false := h
              simp at h2
            clear hz hsi hP0 hP1 hE0 hE1
            contradiction
          intro _
          conv => cbv
          constructor; (first | exact fun (_ : Unit) => trivial | exact fun (_ : Unit) (_ : Unit) => (by decide)); intro _ _; conv => cbv
          constructor; (first | exact fun (_ : Unit) => trivial | exact fun (_ : Unit) (_ : Unit) => (by decide)); intro _ _; conv => cbv
          constructor; (first | exact fun (_ : Unit) => trivial | exact fun (_ : Unit) (_ : Unit) => (by decide)); intro _ _; conv => cbv
          constructor
          rotate_left
          · intro h
            have h' : False := by
              subst hΩ
              have h2 : (fbytes (encF (pneg (padd (spP K0 T0) (spP K0 T0)))) == fbytes (encF (pneg (padd (spP K0 T0) (spP K0 T0))))) = false := h
              simp at h2
            clear hz hsi hP0 hP1 hE0 hE1
            contradiction
          intro _
          conv => cbv
          constructor; (first | exact fun (_ : Unit) => trivial | exact fun (_ : Unit) (_ : Unit) => (by decide)); intro _ _; conv => cbv
          constructor; (first | exact fun (_ : Unit) => trivial | exact fun (_ : Unit) (_ : Unit) => (by decide)); intro _ _; conv => cbv
          constructor; (first | exact fun (_ : Unit) => trivial | exact fun (_ : Unit) (_ : Unit) => (by decide)); intro _ _; conv => cbv
          constructor
          rotate_left
          · intro h
            have h' : False := by
              subst hΩ
              have h2 : (fbytes (encF (padd (padd (spP K0 T0) (spP K0 T0)) (padd (spP K0 T0) (spP K0 T0)))) == fbytes (encF (padd (padd (spP K0 T0) (spP K0 T0)) (padd (spP K0 T0) (spP K0 T0))))) = false := h
              simp at h2
            clear hz hsi hP0 hP1 hE0 hE1
            contradiction
          intro _
          conv => cbv
          constructor; (first | exact fun (_ : Unit) => trivial | exact fun (_ : Unit) (_ : Unit) => (by decide)); intro _ _; conv => cbv
          refine hQ () _ _ _ trivial ?_
          subst hΩ
          rfl
end Go.Sx.Tryz
end
section

end
