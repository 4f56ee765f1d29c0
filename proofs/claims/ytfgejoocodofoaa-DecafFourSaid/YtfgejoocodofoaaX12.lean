/-
  Part of the proof of a statement: the means.
-/
import Derived.Test.YtfgejoocodofoaaX6
import Derived.Test.YtfgejoocodofoaaX10
import Derived.Test.YtfgejoocodofoaaX4
import Derived.Test.YtfgejoocodofoaaRows
set_option linter.unusedSectionVars false
set_option linter.unusedVariables false
set_option linter.unusedSimpArgs false
set_option linter.deprecated false
section
namespace Go.Sx
/-! When two points are one element. -/
theorem pm1 (x y d l : Fp) (h1 : x * x + y * y = 1 + d * x * x * y * y) (h2 : l * x * (l * x) + l * y * (l * y) = 1 + d * (l * x) * (l * x) * (l * y) * (l * y)) : (l * l - 1) * (d * (x * y * l * (x * y * l)) - 1) = 0 := by grind -lia -linarith -order -ac (splits := 0)
theorem pm2 (z d : Fp) (h : d * (z * z) - 1 = 0) : d * (z * z) = 1 * 1 := by grind -lia -linarith -order -ac (splits := 0)
theorem pm3 (z d : Fp) (h : d * (z * z) - 1 = 0) (hz : z = 0) : (1 : Fp) = 0 := by rw [hz] at h; grind -lia -linarith -order -ac (splits := 0)
theorem pm4 (a b : Fp) (h : a * a - 1 = 0) (hb : b * b - 1 = 0) : a * a = b * b := by grind -lia -linarith -order -ac (splits := 0)
theorem par_pm {P Q : AP} (hP : P.on) (hQ : Q.on) (h : P.x * Q.y = P.y * Q.x) : Q = P ∨ Q = ⟨-P.x, -P.y⟩ := by
  obtain ⟨x, y⟩ := P
  obtain ⟨u, v⟩ := Q
  have h1 : x * x + y * y = 1 + dF * x * x * y * y := hP
  have h2 : u * u + v * v = 1 + dF * u * u * v * v := hQ
  have h : x * v = y * u := h
  by_cases hx : x = 0
  · subst hx
    have e1 : (0 : Fp) * 0 + y * y = y * y := by grind -lia -linarith -order -ac (splits := 0)
    have e2 : 1 + dF * 0 * 0 * y * y = 1 := by generalize dF = d; grind -lia -linarith -order -ac (splits := 0)
    rw [e1, e2] at h1
    have hy : y ≠ 0 := by
      rintro rfl
      exact one_ne (by rw [← h1]; exact Fin.mul_zero _)
    have hu : u = 0 := by
      rcases fp_zero (show y * u = 0 by rw [← h]; exact Fin.zero_mul _) with h3 | h3
      · exact absurd h3 hy
      · exact h3
    subst hu
    have e3 : (0 : Fp) * 0 + v * v = v * v := by grind -lia -linarith -order -ac (splits := 0)
    have e4 : 1 + dF * 0 * 0 * v * v = 1 := by generalize dF = d; grind -lia -linarith -order -ac (splits := 0)
    rw [e3, e4] at h2
    rcases fp_sq (h2.trans h1.symm) with h3 | h3
    · left; rw [h3]
    · right
      show (⟨0, v⟩ : AP) = ⟨-0, -y⟩
      rw [h3]
      have : (-0 : Fp) = 0 := by grind -lia -linarith -order -ac (splits := 0)
      rw [this]
  · obtain ⟨l, hl⟩ : ∃ l, u = l * x := by
      refine ⟨u * finv x, ?_⟩
      have := mul_finv hx
      generalize finv x = i at *
      have e : u * i * x = u * (x * i) := by grind -lia -linarith -order -ac (splits := 0)
      rw [e, this]; grind -lia -linarith -order -ac (splits := 0)
    have hv : v = l * y := by
      refine fp_cancel hx ?_
      rw [Fin.mul_comm v, h, hl]; grind -lia -linarith -order -ac (splits := 0)
    rw [hl, hv] at h2
    rcases fp_zero (pm1 x y dF l h1 h2) with h3 | h3
    · have h4 : l * l = 1 * 1 := by
        have e : l * l = l * l - 1 + 1 := by grind -lia -linarith -order -ac (splits := 0)
        rw [e, h3]; grind -lia -linarith -order -ac (splits := 0)
      rcases fp_sq h4 with h5 | h5
      · left
        rw [hl, hv, h5]
        have a1 : (1 : Fp) * x = x := by grind -lia -linarith -order -ac (splits := 0)
        have a2 : (1 : Fp) * y = y := by grind -lia -linarith -order -ac (splits := 0)
        rw [a1, a2]
      · right
        show (⟨u, v⟩ : AP) = ⟨-x, -y⟩
        rw [hl, hv, h5]
        have a1 : -(1 : Fp) * x = -x := by grind -lia -linarith -order -ac (splits := 0)
        have a2 : -(1 : Fp) * y = -y := by grind -lia -linarith -order -ac (splits := 0)
        rw [a1, a2]
    · exfalso
      have h4 := d_sq (pm2 _ dF h3)
      exact one_ne (pm3 _ dF h3 h4)
theorem ng3 (x y : Fp) : (-x + -x * -y) * (-x - -x * -y) = (x + x * y) * (x - x * y) := by grind -lia -linarith -order -ac (splits := 0)
theorem ng4 (U x d : Fp) : U * -x * -x * (1 - d) = U * x * x * (1 - d) := by grind -lia -linarith -order -ac (splits := 0)
theorem ng5 (r x y e d : Fp) : r * -x * (e - -x * -y) * (1 - d) = -(r * x * (e - x * y) * (1 - d)) := by grind -lia -linarith -order -ac (splits := 0)
/-- A point turned round by 0, -1 has the same bytes. -/
theorem encF_neg (x y : Fp) : encF ⟨-x, -y⟩ = encF ⟨x, y⟩ := by
  obtain ⟨U, hU⟩ : ∃ U, U = (x + x * y) * (x - x * y) := ⟨_, rfl⟩
  obtain ⟨r, hr⟩ : ∃ r, r = fratio (fI 1) (U * x * x * (1 - dF)) := ⟨_, rfl⟩
  obtain ⟨w, hw⟩ : ∃ w, w = fabs (r * U * rootD) := ⟨_, rfl⟩
  rw [encF_eq ⟨x, y⟩ hU hr hw, encF_eq ⟨-x, -y⟩ (U := U) (r2 := r) (w2 := w) (hU.trans (ng3 x y).symm) (hr.trans (congrArg _ (ng4 U x dF).symm)) hw]
  show fabs (r * -x * (rootE * w - -x * -y) * (1 - dF)) = fabs (r * x * (rootE * w - x * y) * (1 - dF))
  rw [ng5, fabs_neg]
theorem fbytes_inj {a b : Fp} (h : fbytes a = fbytes b) : a = b := by
  have h1 := ofBytes_f a
  rw [h, ofBytes_f] at h1
  exact h1.symm
theorem pl1 (px py qx qy ex ey : Fp) (h1 : ex * py = ey * px) (h2 : ex * qy = ey * qx) : (px * qy - py * qx) * ex = 0 ∧ (px * qy - py * qx) * ey = 0 := by
  constructor
  · have e : (px * qy - py * qx) * ex = px * (ex * qy) - (ex * py) * qx := by grind -lia -linarith -order -ac (splits := 0)
    rw [e, h1, h2]; grind -lia -linarith -order -ac (splits := 0)
  · have e : (px * qy - py * qx) * ey = (ey * px) * qy - py * (ey * qx) := by grind -lia -linarith -order -ac (splits := 0)
    rw [e, ← h1, ← h2]; grind -lia -linarith -order -ac (splits := 0)
/-- Two even points are one element just if their bytes are the same. -/
theorem same_iff {P Q : AP} (hP : P.on) (hQ : Q.on) (eP : Ev P) (eQ : Ev Q) : decide (P.x * Q.y = P.y * Q.x) = (fbytes (encF P) == fbytes (encF Q)) := by
  by_cases h : P.x * Q.y = P.y * Q.x
  · rw [decide_eq_true h]
    rcases par_pm hP hQ h with h1 | h1
    · rw [h1]; simp
    · have : encF Q = encF P := by rw [h1, encF_neg]
      rw [this]; simp
  · rw [decide_eq_false h]
    symm
    rw [beq_eq_false_iff_ne]
    intro hf
    apply h
    obtain ⟨a1, a2, a3⟩ := dec_enc hP eP
    obtain ⟨b1, b2, b3⟩ := dec_enc hQ eQ
    rw [← hf] at b3
    obtain ⟨⟨ex, ey⟩, hE⟩ : ∃ E, E = decPt (fbytes (encF P)) := ⟨_, rfl⟩
    rw [← hE] at a2 a3 b3
    obtain ⟨c1, c2⟩ := pl1 _ _ _ _ _ _ a3 b3
    have sub0 : ∀ a b : Fp, a - b = 0 → a = b := by
      intro a b h; have e : a = a - b + b := by grind -lia -linarith -order -ac (splits := 0)
      rw [e, h]; grind -lia -linarith -order -ac (splits := 0)
    rcases fp_zero c1 with h1 | h1
    · exact sub0 _ _ h1
    · rcases fp_zero c2 with h2 | h2
      · exact sub0 _ _ h2
      · exfalso
        have h1 : ex = 0 := h1
        have h2 : ey = 0 := h2
        subst h1
        subst h2
        have h3 : (0 : Fp) * 0 + 0 * 0 = 1 + dF * 0 * 0 * 0 * 0 := a2
        apply one_ne
        have e1 : (0 : Fp) * 0 + 0 * 0 = 0 := by grind -lia -linarith -order -ac (splits := 0)
        have e2 : 1 + dF * 0 * 0 * 0 * 0 = 1 := by generalize dF = d; grind -lia -linarith -order -ac (splits := 0)
        rw [e1, e2] at h3
        exact h3.symm
end Go.Sx
end
section
namespace Go.Sx
/-! Four times what is between two points. -/
theorem pneg_padd (P Q : AP) : pneg (padd P Q) = padd (pneg P) (pneg Q) := by
  have hp : pt (pneg P) (pneg Q) = pt P Q := by unfold pt pneg; simp only; generalize dF = d; grind -lia -linarith -order -ac (splits := 0)
  unfold padd
  rw [hp]
  unfold pneg
  simp only
  apply AP.ext
  · show -((P.x * Q.y + Q.x * P.y) * finv (1 + pt P Q)) = (-P.x * Q.y + -Q.x * P.y) * finv (1 + pt P Q)
    generalize finv (1 + pt P Q) = f; grind -lia -linarith -order -ac (splits := 0)
  · show (P.y * Q.y - P.x * Q.x) * finv (1 - pt P Q) = (P.y * Q.y - -P.x * -Q.x) * finv (1 - pt P Q)
    generalize finv (1 - pt P Q) = f; grind -lia -linarith -order -ac (splits := 0)
theorem padd_swap {a b c e : AP} (ha : a.on) (hb : b.on) (hc : c.on) (he : e.on) : padd (padd a b) (padd c e) = padd (padd a c) (padd b e) := by
  rw [padd_assoc ha hb (padd_on hc he), ← padd_assoc hb hc he, padd_comm b c, padd_assoc hc hb he, ← padd_assoc ha hc (padd_on hb he)]
theorem two_dif {P Q : AP} (hP : P.on) (hQ : Q.on) : padd (padd P (pneg Q)) (padd P (pneg Q)) = padd (padd P P) (pneg (padd Q Q)) := by
  rw [padd_swap hP (pneg_on hQ) hP (pneg_on hQ), pneg_padd]
theorem ff1 (x y d : Fp) (h : x * x + y * y = 1 + d * x * x * y * y) (hx : x = 0) : y * y = 1 := by rw [hx] at h; grind -lia -linarith -order -ac (splits := 0)
theorem ff2 (x y d : Fp) (h : x * x + y * y = 1 + d * x * x * y * y) (hy : y = 0) : x * x = 1 := by rw [hy] at h; grind -lia -linarith -order -ac (splits := 0)
theorem ff3 (x y d : Fp) (hx : x = 0) : d * x * x * y * y = 0 := by rw [hx]; grind -lia -linarith -order -ac (splits := 0)
theorem ff4 (x y d : Fp) (hx : y = 0) : d * x * x * y * y = 0 := by rw [hx]; grind -lia -linarith -order -ac (splits := 0)
/-- A point that is its own opposite. -/
theorem two_id {S : AP} (hS : S.on) : padd S S = pid ↔ S.x = 0 := by
  obtain ⟨x, y⟩ := S
  have hon : x * x + y * y = 1 + dF * x * x * y * y := hS
  have hx := padd_x hS hS
  have hy := padd_y hS hS
  have hp : pt ⟨x, y⟩ ⟨x, y⟩ = dF * x * x * y * y := rfl
  rw [hp] at hx hy
  have hx : (padd ⟨x, y⟩ ⟨x, y⟩).x * (1 + dF * x * x * y * y) = x * y + x * y := hx
  have hy : (padd ⟨x, y⟩ ⟨x, y⟩).y * (1 - dF * x * x * y * y) = y * y - x * x := hy
  show _ ↔ x = 0
  constructor
  · intro h
    rw [h] at hx hy
    have h1 : x * y + x * y = 0 := by rw [← hx]; exact Fin.zero_mul _
    rcases fp_zero (two_zero h1) with h2 | h2
    · exact h2
    · exfalso
      have h3 := ff2 x y dF hon h2
      rw [ff4 x y dF h2] at hy
      refine neg_no_square (1 : Fp) ?_
      have h4 : pid.y * (1 - 0) = y * y - x * x := hy
      rw [h3, h2] at h4
      have h5 : pid.y = 1 := rfl
      rw [h5] at h4
      have h6 : (2 : Fp) = 0 := by grind -lia -linarith -order -ac (splits := 0)
      exact absurd h6 two_ne
  · intro h
    have h3 := ff1 x y dF hon h
    rw [ff3 x y dF h] at hx hy
    apply AP.ext
    · show (padd ⟨x, y⟩ ⟨x, y⟩).x = 0
      have e : (padd ⟨x, y⟩ ⟨x, y⟩).x = (padd ⟨x, y⟩ ⟨x, y⟩).x * (1 + 0) := by generalize (padd ⟨x, y⟩ ⟨x, y⟩).x = z; grind -lia -linarith -order -ac (splits := 0)
      rw [e, hx, h]; grind -lia -linarith -order -ac (splits := 0)
    · show (padd ⟨x, y⟩ ⟨x, y⟩).y = 1
      have e : (padd ⟨x, y⟩ ⟨x, y⟩).y = (padd ⟨x, y⟩ ⟨x, y⟩).y * (1 - 0) := by generalize (padd ⟨x, y⟩ ⟨x, y⟩).y = z; grind -lia -linarith -order -ac (splits := 0)
      rw [e, hy, h3, h]; grind -lia -linarith -order -ac (splits := 0)
theorem ff5 (a b c e : Fp) (h : a * b + -c * e = 0) : a * b = e * c := by
  have : a * b = a * b + -c * e + e * c := by grind -lia -linarith -order -ac (splits := 0)
  rw [this, h]; grind -lia -linarith -order -ac (splits := 0)
theorem ff6 (a b c e : Fp) (h : a * b = e * c) : a * b + -c * e = 0 := by rw [h]; grind -lia -linarith -order -ac (splits := 0)
theorem four_iff {P Q : AP} (hP : P.on) (hQ : Q.on) : (padd (padd (padd P (pneg Q)) (padd P (pneg Q))) (padd (padd P (pneg Q)) (padd P (pneg Q))) = pid) ↔ (padd P P).x * (padd Q Q).y = (padd P P).y * (padd Q Q).x := by
  rw [two_dif hP hQ]
  have hA := padd_on hP hP
  have hB := padd_on hQ hQ
  generalize padd P P = A at *
  generalize padd Q Q = B at *
  have hS := padd_on hA (pneg_on hB)
  rw [two_id hS]
  have hx := padd_x hA (pneg_on hB)
  have hc := (complete hA (pneg_on hB)).1
  have hx : (padd A (pneg B)).x * (1 + pt A (pneg B)) = A.x * B.y + -B.x * A.y := hx
  constructor
  · intro h
    rw [h] at hx
    exact ff5 _ _ _ _ (by rw [← hx]; exact Fin.zero_mul _)
  · intro h
    rw [ff6 _ _ _ _ h] at hx
    rcases fp_zero hx with h | h
    · exact h
    · exact absurd h hc
instance (P Q : AP) : Decidable (P = Q) := if hx : P.x = Q.x then if hy : P.y = Q.y then .isTrue (AP.ext hx hy) else .isFalse fun h => hy (by rw [h]) else .isFalse fun h => hx (by rw [h])
end Go.Sx
end
section
namespace Go.Sx.Try
open Go.Proofs
set_option maxRecDepth 40000
def s_point_Equal (Ω : Om) : PSpec := fun args => match args with
  | [.ab (.pt P), .ab (.pt Q)] => ⟨True, Unit, fun _ => True, fun _ => .bs (Ω.hide _ fun _ => decide (P = Q))⟩
  | _ => PR.none
set_option maxHeartbeats 4000000 in
theorem c_point_Equal : Ctr Try.prog T glob 11 (s_point_Equal Om.real) := by
  refine ctr_opnO T_ok glob_ids mixed (fun Ω => [(27, s_field_Mul Ω), (34, s_field_Equal Ω)]) [] (fun Ω => []) [] (c_cons c_field_Mul (c_cons c_field_Equal c_nil)) i_nil m_nil x_nil Try.func11 (by rfl) (by kernel_rfl) Try.call11 ?_ ?_
  · intro args; unfold s_point_Equal; split
    · exact good_flat ⟨fun _ => by repeat' (first | exact trivial | constructor), fun _ _ _ => rfl⟩ (by repeat' (first | exact trivial | constructor)) (fun _ => ⟨(), trivial⟩)
    · exact PR.good_none
  · intro P Ω hΩ hE hI hm args pr hs hp cs hcs Q hQ
    unfold s_point_Equal at hs
    split at hs <;> subst hs <;> try (exact hp.elim)
    rename_i P R
    obtain ⟨_, _, rfl, ⟨X1, Y1, Z1, rfl, hP, z1, x1, y1⟩, _, _, rfl, ⟨X2, Y2, Z2, rfl, hR, z2, x2, y2⟩, rfl⟩ := hcs
    have he := eq_proj z1 x1 y1 z2 x2 y2
    refine ⟨1000, ?_⟩
    conv => cbv
    repeat (constructor; (first | exact fun (_ : Unit) => trivial | exact fun (_ : Unit) (_ : Unit) => (by decide)); intro _ _; conv => cbv)
    constructor
    · intro hc
      have h1 : X1 * Z2 = X2 * Z1 := by subst hΩ; exact of_decide_eq_true hc
      conv => cbv
      repeat (constructor; (first | exact fun (_ : Unit) => trivial | exact fun (_ : Unit) (_ : Unit) => (by decide)); intro _ _; conv => cbv)
      refine hQ () _ _ _ trivial ?_
      subst hΩ
      show decide (Y1 * Z2 = Y2 * Z1) = decide (P = R)
      exact decide_eq_decide.2 ⟨fun h => AP.ext (he.1.1 h1) (he.2.1 h), fun h => he.2.2 (by rw [h])⟩
    · intro hc
      have h1 : ¬ X1 * Z2 = X2 * Z1 := by subst hΩ; exact of_decide_eq_false hc
      conv => cbv
      refine hQ () _ _ _ trivial ?_
      subst hΩ
      show false = decide (P = R)
      exact (decide_eq_false fun h => h1 (he.1.2 (by rw [h]))).symm
def s_point_Four (Ω : Om) : PSpec := fun args => match args with
  | [.ab (.pt P)] => ⟨True, Unit, fun _ => True, fun _ => .ab (.pt (Ω.hide _ fun _ => padd (padd P P) (padd P P)))⟩
  | _ => PR.none
set_option maxHeartbeats 4000000 in
theorem c_point_Four : Ctr Try.prog T glob 6 (s_point_Four Om.real) := by
  refine ctr_ofO T_ok glob_ids mixed (fun Ω => [(26, s_point_Double Ω)]) [] (fun Ω => []) [] (c_cons c_point_Double c_nil) i_nil m_nil x_nil Try.func6 (by rfl) (by kernel_rfl) Try.call6 ?_ ?_
  · intro args; unfold s_point_Four; split
    · exact good_flat ⟨fun _ => by repeat' (first | exact trivial | constructor), fun _ _ _ => rfl⟩ (by repeat' (first | exact trivial | constructor)) (fun _ => ⟨(), trivial⟩)
    · exact PR.good_none
  · intro P Ω hΩ hE hI hm args pr hs hp Q hQ
    unfold s_point_Four at hs
    split at hs <;> subst hs <;> try (exact hp.elim)
    rename_i P
    refine ⟨1000, ?_⟩
    conv => cbv
    repeat (constructor; (first | exact fun (_ : Unit) => trivial | exact fun (_ : Unit) (_ : Unit) => (by decide)); intro _ _; conv => cbv)
    refine hQ () _ _ _ trivial ?_
    subst hΩ
    rfl
def s_chicorylaw14_DecafFour (Ω : Om) : PSpec := fun args => match args with
  | [.agg [.agg [.roi .u8 K0, .int .i64 T0], .agg [.roi .u8 K1, .int .i64 T1]]] => ⟨∀ _ : Unit, (Byt K0 ∧ K0.length < 9223372036854775808) ∧ Byt K1 ∧ K1.length < 9223372036854775808, Unit, fun _ => True, fun _ => .bs (Ω.hide _ fun _ => true)⟩
  | _ => PR.none
set_option maxHeartbeats 4000000 in
theorem c_chicorylaw14_DecafFour : Ctr Try.prog T glob 3 (s_chicorylaw14_DecafFour Om.real) := by
  refine ctr_ofO T_ok glob_ids mixed (fun Ω => [(4, s_chicorylaw11_Made Ω), (5, s_chicorylaw14_awake Ω), (8, s_point_Neg Ω), (7, s_point_Add Ω), (6, s_point_Four Ω), (10, s_decaf_Twice Ω), (9, s_decaf_Equal Ω), (12, s_point_Identity Ω), (11, s_point_Equal Ω)]) [] (fun Ω => []) [] (c_cons c_chicorylaw11_Made (c_cons c_chicorylaw14_awake (c_cons c_point_Neg (c_cons c_point_Add (c_cons c_point_Four (c_cons c_decaf_Twice (c_cons c_decaf_Equal (c_cons c_point_Identity (c_cons c_point_Equal c_nil))))))))) i_nil m_nil x_nil Try.func3 (by rfl) (by kernel_rfl) Try.call3 ?_ ?_
  · intro args; unfold s_chicorylaw14_DecafFour; split
    · exact good_flat ⟨fun _ => by repeat' (first | exact trivial | constructor), fun _ _ _ => rfl⟩ (by repeat' (first | exact trivial | constructor)) (fun _ => ⟨(), trivial⟩)
    · exact PR.good_none
  · intro P Ω hΩ hE hI hm args pr hs hp Q hQ
    unfold s_chicorylaw14_DecafFour at hs
    split at hs <;> subst hs <;> try (exact hp.elim)
    rename_i K0 T0 K1 T1
    obtain ⟨⟨hK0, hl0⟩, hK1, hl1⟩ := hp ()
    have hf := four_iff (spP_on K0 T0) (spP_on K1 T1)
    refine ⟨1000, ?_⟩
    conv => cbv
    constructor
    · exact fun _ _ => ⟨hK0, hl0⟩
    intro (z : Bool) hz
    cases z with
    | false =>
      conv => cbv
      constructor
      · exact fun _ _ => ⟨hK1, hl1⟩
      intro (y : Bool) hy
      cases y with
      | false =>
        conv => cbv
        constructor; (first | exact fun (_ : Unit) => trivial | exact fun (_ : Unit) (_ : Unit) => (by decide)); intro _ _; conv => cbv
        refine hQ () _ _ _ trivial ?_
        subst hΩ
        rfl
      | true =>
        conv => cbv
        constructor; (first | exact fun (_ : Unit) => trivial | exact fun (_ : Unit) (_ : Unit) => (by decide)); intro _ _; conv => cbv
        refine hQ () _ _ _ trivial ?_
        subst hΩ
        rfl
    | true =>
      conv => cbv
      constructor
      · exact fun _ _ => ⟨hK1, hl1⟩
      intro (y : Bool) hy
      cases y with
      | false =>
        conv => cbv
        constructor; (first | exact fun (_ : Unit) => trivial | exact fun (_ : Unit) (_ : Unit) => (by decide)); intro _ _; conv => cbv
        refine hQ () _ _ _ trivial ?_
        subst hΩ
        rfl
      | true =>
        conv => cbv
        repeat (constructor; (first | exact fun (_ : Unit) => trivial | exact fun (_ : Unit) (_ : Unit) => (by decide)); intro _ _; conv => cbv)
        constructor
        rotate_left
        · intro h
          have h' : False := by
            subst hΩ
            have h2 : (if decide ((padd (spP K0 T0) (spP K0 T0)).x * (padd (spP K1 T1) (spP K1 T1)).y = (padd (spP K0 T0) (spP K0 T0)).y * (padd (spP K1 T1) (spP K1 T1)).x) then decide (padd (padd (padd (spP K0 T0) (pneg (spP K1 T1))) (padd (spP K0 T0) (pneg (spP K1 T1)))) (padd (padd (spP K0 T0) (pneg (spP K1 T1))) (padd (spP K0 T0) (pneg (spP K1 T1)))) = pid) else !decide (padd (padd (padd (spP K0 T0) (pneg (spP K1 T1))) (padd (spP K0 T0) (pneg (spP K1 T1)))) (padd (padd (spP K0 T0) (pneg (spP K1 T1))) (padd (spP K0 T0) (pneg (spP K1 T1)))) = pid)) = false := h
            rw [decide_eq_decide.2 hf] at h2; generalize decide ((padd (spP K0 T0) (spP K0 T0)).x * (padd (spP K1 T1) (spP K1 T1)).y = (padd (spP K0 T0) (spP K0 T0)).y * (padd (spP K1 T1) (spP K1 T1)).x) = q at h2; cases q <;> simp at h2
          clear hz hy hf
          contradiction
        intro _
        conv => cbv
        constructor; (first | exact fun (_ : Unit) => trivial | exact fun (_ : Unit) (_ : Unit) => (by decide)); intro _ _; conv => cbv
        refine hQ () _ _ _ trivial ?_
        subst hΩ
        rfl
end Go.Sx.Try
end
section

end
