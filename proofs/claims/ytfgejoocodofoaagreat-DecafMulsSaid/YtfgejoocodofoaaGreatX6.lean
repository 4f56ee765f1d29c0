/-
  Part of the proof of a statement: the means.
-/
import Derived.Test.YtfgejoocodofoaaGreatX5
import Derived.Test.YtfgejoocodofoaaGreatX3
set_option linter.unusedSectionVars false
set_option linter.unusedVariables false
set_option linter.unusedSimpArgs false
set_option linter.deprecated false
section
namespace Go.Sx
theorem qbB (a : Fp) : fabs a * fabs a = a * a := by
 unfold fabs; split
 ·grind -lia -linarith -order -ac (splits := 0)
 ·rfl
theorem qnD {a : Fp} (h : a ≠ 0) : (-a).val = pN - a.val := by
 have h0 : a.val ≠ 0 := fun e => h (Fin.ext e)
 have h1 := a.isLt
 rw [Fin.val_neg]
 rw [if_neg h]
theorem qrJ (a : Fp) : fabs (-a) = fabs a := by
 by_cases h : a = 0
 ·rw [h]
  have : -(0 : Fp) = 0 := by grind -lia -linarith -order -ac (splits := 0)
  rw [this]
 have h1 := qnD h
 have h2 := a.isLt
 have h3 : pN % 2 = 1 := by decide +kernel
 unfold fabs
 rw [h1]
 have nn : -(-a) = a := by grind -lia -linarith -order -ac (splits := 0)
 by_cases h4 : a.val % 2 = 1
 ·rw [if_pos h4, if_neg (by omega)]
 ·rw [if_neg h4, if_pos (by omega), nn]
theorem qg2 {a b : Fp} (h : a * a = b * b) : fabs a = fabs b := by
 rcases qmz h with h | h
 ·rw [h]
 ·rw [h, qrJ]
theorem qrK (a : Fp) : ¬ (fabs a).val % 2 = 1 := by
 unfold fabs
 by_cases h4 : a.val % 2 = 1
 ·rw [if_pos h4]
  have h : a ≠ 0 := by rintro rfl; exact absurd h4 (by decide)
  have h1 := qnD h
  have h2 := a.isLt
  have h3 : pN % 2 = 1 := by decide +kernel
  omega
 ·rw [if_neg h4]; exact h4
theorem qnE {a : Fp} (h : ¬ a.val % 2 = 1) : fabs a = a := if_neg h
theorem qfb : fabs 0 = 0 := qnE (by decide)
theorem qjF {c m : Fp} (hc : c ≠ 0) (hm : m = c * c) : qL (fI 1) m * qL (fI 1) m * m = 1 := by
 have hm0 : m ≠ 0 := by rw [hm]; exact qF hc hc
 have h := qeB hm0
 unfold qL
 rw [qbB, qaD]
 have e1 : (1 : Fp) * m = m := by grind -lia -linarith -order -ac (splits := 0)
 rw [e1]
 rcases h with h | h
 ·generalize qq m = f at *
  grind -lia -linarith -order -ac (splits := 0)
 ·exfalso
  refine qgs (c * qq m) ?_
  rw [<- h]
  generalize qq m = f at *
  grind -lia -linarith -order -ac (splits := 0)
theorem rootD_sq : qax * qax = 39081 := by
 unfold qax
 rw [qbB, qdN pw_d]
 decide +kernel
theorem qrL : qay * qay * 39081 = 1 := by
 unfold qay
 rw [qbB, qdN pw_e]
 have h := qby d_ne
 have e : fI 39081 = 39081 := by decide +kernel
 rw [e] at h ⊢
 generalize finv 39081 = f at *
 grind -lia -linarith -order -ac (splits := 0)
theorem qjG : (39081 : Fp) = -dF := by decide +kernel
theorem qnF : fI 156324 = -(4 * dF) := by decide +kernel
theorem qjH : fI 39082 = 1 - dF := by decide +kernel
theorem qg3 : (1 : Fp) - dF ≠ 0 := by decide +kernel
theorem qjI : (4 : Fp) ≠ 0 := by decide +kernel
section
variable {s t a w r W C d X Y U r2 w2 v2 : Fp}
theorem rt1 (h1 : r * r * (w * (a * a)) = 1) (hW : W * W = 4 * t * (r * r) * (a * a) * -d) (hC : C * C * -d = 1) (hX : X = W * r * w * C) : X * X * (a * a) = 4 * t := by
 have e : X * X * (a * a) = W * W * (r * r * w * w * (C * C) * (a * a)) := by rw [hX]; grind -lia -linarith -order -ac (splits := 0)
 rw [e, hW]
 have e2 : 4 * t * (r * r) * (a * a) * -d * (r * r * w * w * (C * C) * (a * a)) = 4 * t * (r * r * (w * (a * a))) * (r * r * (w * (a * a))) * (C * C * -d) := by grind -lia -linarith -order -ac (splits := 0)
 rw [e2, h1, hC]; grind -lia -linarith -order -ac (splits := 0)
end
end Go.Sx
end
section
namespace Go.Sx
theorem qjJ (a b c : Fp) : qP [a, b, c] = a * b * c := by simp only [qP, List.foldl, qaD]; grind -lia -linarith -order -ac (splits := 0)
theorem qrM (a b c e : Fp) : qP [a, b, c, e] = a * b * c * e := by simp only [qP, List.foldl, qaD]; grind -lia -linarith -order -ac (splits := 0)
theorem qrN (a b c e f : Fp) : qP [a, b, c, e, f] = a * b * c * e * f := by simp only [qP, List.foldl, qaD]; grind -lia -linarith -order -ac (splits := 0)
theorem qrO (s r a q d : Fp) (h : q * q = -d) : 2 * s * r * a * q * (2 * s * r * a * q) = 4 * (s * s) * (r * r) * (a * a) * -d := by rw [<- h]; grind -lia -linarith -order -ac (splits := 0)
theorem qrP (r U q d : Fp) (h : q * q = -d) : r * U * q * (r * U * q) = r * U * (r * U) * -d := by rw [<- h]; grind -lia -linarith -order -ac (splits := 0)
theorem qjK (P : AP) {U r2 w2 : Fp} (hU : U = (P.x + P.x * P.y) * (P.x - P.x * P.y)) (h2 : r2 = qL (fI 1) (U * P.x * P.x * (1 - dF))) (hw : w2 = fabs (r2 * U * qax)) : encF P = fabs (r2 * P.x * (qay * w2 - P.x * P.y) * (1 - dF)) := by
 have e1 : qP [U, P.x, P.x] * fI 39082 = U * P.x * P.x * (1 - dF) := by rw [qjJ, qjH]
 unfold encF
 rw [<- hU, e1, <- h2]
 have e2 : qP [r2, U, qax] = r2 * U * qax := qjJ ..
 rw [e2, <- hw]
 have e3 : qP [r2, P.x, qay * w2 - P.x * P.y] * fI 39082 = r2 * P.x * (qay * w2 - P.x * P.y) * (1 - dF) := by rw [qjJ, qjH]
 rw [e3]
section
variable {s a w r W : Fp} (ha : a = 1 + s * s) (hw : w = a * a - 4 * dF * (s * s)) (hr : r = decR s)
include ha hw
theorem qnG : qP [(fI 1 + s * s) * (fI 1 + s * s) + s * s * fI 156324, fI 1 + s * s, fI 1 + s * s] = w * (a * a) := by
 simp only [qP, List.foldl, qnF, qaD, hw, ha]; generalize dF = d; grind -lia -linarith -order -ac (splits := 0)
theorem qnH : decR s = qL (fI 1) (w * (a * a)) := by
 unfold decR; rw [qnG ha hw]
theorem qrQ : qdO s = true ↔ decR s * decR s * (w * (a * a)) = 1 := by
 rw [qnH ha hw]
 unfold qdO qL
 rw [qnG ha hw, qbB, decide_eq_true_eq, qaD]
 generalize 1 * qq (1 * (w * (a * a))) = z
 constructor
 ·intro h; rw [<- h]; grind -lia -linarith -order -ac (splits := 0)
 ·intro h; rw [<- h]; grind -lia -linarith -order -ac (splits := 0)
include hr
theorem qrR (hW : W = fabs (2 * s * r * a * qax)) : decX s = W * r * w * qay := by
 have e : qP [fI 2, s, r, a, qax] = 2 * s * r * a * qax := by rw [qrN, fI_2]
 have e2 : (fI 1 + s * s) * (fI 1 + s * s) + s * s * fI 156324 = w := by
  rw [hw, ha, qnF, qaD]; generalize dF = d; grind -lia -linarith -order -ac (splits := 0)
 unfold decX
 rw [e2, <- hr, show fI 1 + s * s = a by rw [ha, qaD], e, <- hW]
 exact qrM ..
theorem qrS : decY s = (1 - s * s) * r * a := by
 unfold decY
 rw [<- hr, show fI 1 + s * s = a by rw [ha, qaD]]
 simp only [qP, List.foldl, qaD]; grind -lia -linarith -order -ac (splits := 0)
end
theorem qg4 : qay * qay * -dF = 1 := by rw [<- qjG]; exact qrL
theorem W_sq {s r a W : Fp} (hW : W = fabs (2 * s * r * a * qax)) : W * W = 4 * (s * s) * (r * r) * (a * a) * -dF := by
 rw [hW, qbB]
 exact qrO _ _ _ _ _ (rootD_sq.trans qjG)
theorem qrT {r U w : Fp} (hw : w = fabs (r * U * qax)) : w * w = r * U * (r * U) * -dF := by
 rw [hw, qbB]
 exact qrP _ _ _ _ (rootD_sq.trans qjG)
theorem qrU {a b w v : Fp} (hw : w = fabs a) (hv : v = fabs b) (h : w * w = v * v) : w = v := by
 rw [hw, hv] at h ⊢
 rw [qbB, qbB] at h
 exact qg2 h
def Ev (P : AP) : Prop := ∃ g, (1 - P.y * P.y) * (1 - dF) = g * g
theorem qrV : bp pN 0 (39082, 0) 448 363419362147803445274661903944002267176820680343659030140745099590306164083365386343198191849338272965044442230921818680526749009182719 = (726838724295606890549323807888004534353641360687318060281490199180612328166730772686396383698676545930088884461843637361053498018365438, 0) := by decide +kernel
theorem qrW : pw (1 - dF) 363419362147803445274661903944002267176820680343659030140745099590306164083365386343198191849338272965044442230921818680526749009182719 = -1 := by
 have hg := qeA (q := pN) (n := pN) (Nat.dvd_refl _) 0 (39082, 0) 448 363419362147803445274661903944002267176820680343659030140745099590306164083365386343198191849338272965044442230921818680526749009182719 (by decide +kernel)
 rw [qrV] at hg
 simp only [toQ, qdC, qcU] at hg
 have h1 := congrArg Prod.fst hg
 simp only at h1
 have e : 1 - dF = Fin.ofNat pN 39082 := by decide +kernel
 rw [e, <- h1]
 decide +kernel
theorem qrX (b : Fp) : 1 - dF ≠ b * b := qja qrW
section
variable {x y d g U r2 w2 c C e t a w r W X Y f : Fp}
theorem qa1 (hU : U = (x + x * y) * (x - x * y)) : U = x * x * (1 - y * y) := by rw [hU]; grind -lia -linarith -order -ac (splits := 0)
theorem qa2 (hU : U = x * x * (1 - y * y)) (hg : (1 - y * y) * (1 - d) = g * g) : U * x * x * (1 - d) = x * x * g * (x * x * g) := by
 have e1 : U * x * x * (1 - d) = x * x * (x * x) * ((1 - y * y) * (1 - d)) := by rw [hU]; grind -lia -linarith -order -ac (splits := 0)
 rw [e1, hg]; grind -lia -linarith -order -ac (splits := 0)
theorem qb1 (hU : U = x * x * (1 - y * y)) (h2 : r2 * r2 * (U * x * x * (1 - d)) = 1) (hw2 : w2 * w2 = r2 * U * (r2 * U) * -d) (hC : C * C * -d = 1) (hc : c = C * w2) : c * c * (1 - d) = 1 - y * y := by
 have e1 : c * c * (1 - d) = C * C * (w2 * w2) * (1 - d) := by rw [hc]; grind -lia -linarith -order -ac (splits := 0)
 rw [e1, hw2]
 have e2 : C * C * (r2 * U * (r2 * U) * -d) * (1 - d) = (C * C * -d) * (r2 * r2 * U * U * (1 - d)) := by grind -lia -linarith -order -ac (splits := 0)
 rw [e2, hC]
 have e3 : 1 * (r2 * r2 * U * U * (1 - d)) = r2 * r2 * (U * x * x * (1 - d)) * (1 - y * y) := by
  have : r2 * r2 * (U * x * x * (1 - d)) * (1 - y * y) = r2 * r2 * U * (x * x * (1 - y * y)) * (1 - d) := by grind -lia -linarith -order -ac (splits := 0)
  rw [this, <- hU]; grind -lia -linarith -order -ac (splits := 0)
 rw [e3, h2]; grind -lia -linarith -order -ac (splits := 0)
theorem qb2 (hon : x * x + y * y = 1 + d * x * x * y * y) (hd : 1 - d ≠ 0) (hb : c * c * (1 - d) = 1 - y * y) (hc0 : c * c ≠ 0) (he : e * c = x * y) : e * e = 1 - x * x := by
 refine qau (qF hc0 hd) ?_
 have e1 : e * e * (c * c * (1 - d)) = e * c * (e * c) * (1 - d) := by grind -lia -linarith -order -ac (splits := 0)
 rw [e1, he, hb]; grind -lia -linarith -order -ac (splits := 0)
theorem qb3 (hU : U = x * x * (1 - y * y)) (h2 : r2 * r2 * (U * x * x * (1 - d)) = 1) (hb : c * c * (1 - d) = 1 - y * y) (he : e * c = x * y) (ht : t = r2 * x * (c - x * y) * (1 - d) * (r2 * x * (c - x * y) * (1 - d))) : t * (x * x) = (1 - e) * (1 - e) := by
 have e0 : r2 * r2 * (x * x * (x * x)) * (c * c) * ((1 - d) * (1 - d)) = 1 := by
  rw [<- h2, hU, <- hb]; grind -lia -linarith -order -ac (splits := 0)
 have e1 : t * (x * x) = (1 - e) * (1 - e) * (r2 * r2 * (x * x * (x * x)) * (c * c) * ((1 - d) * (1 - d))) := by rw [ht, <- he]; grind -lia -linarith -order -ac (splits := 0)
 rw [e1, e0]; grind -lia -linarith -order -ac (splits := 0)
theorem qb4 (hx : x * x ≠ 0) (hee : e * e = 1 - x * x) (ht : t * (x * x) = (1 - e) * (1 - e)) : 1 + e ≠ 0 /\ 1 - e ≠ 0 /\ t * (1 + e) = 1 - e := by
 have e0 : x * x = (1 - e) * (1 + e) := by
  have : (1 - e) * (1 + e) = 1 - e * e := by grind -lia -linarith -order -ac (splits := 0)
  rw [this, hee]; grind -lia -linarith -order -ac (splits := 0)
 have h1 : 1 + e ≠ 0 := fun h => hx (by rw [e0, h]; grind -lia -linarith -order -ac (splits := 0))
 have h2 : 1 - e ≠ 0 := fun h => hx (by rw [e0, h]; grind -lia -linarith -order -ac (splits := 0))
 refine ⟨h1, h2, qau h2 ?_⟩
 have e1 : t * (1 + e) * (1 - e) = t * (x * x) := by rw [e0]; grind -lia -linarith -order -ac (splits := 0)
 rw [e1, ht]
theorem qb5 (ha : a = 1 + t) (hw : w = a * a - 4 * d * t) (hee : e * e = 1 - x * x) (ht : t * (1 + e) = 1 - e) : a * (1 + e) = 2 /\ w * ((1 + e) * (1 + e)) = 4 * (1 - d * (x * x)) := by
 have e1 : a * (1 + e) = 2 := by
  have : a * (1 + e) = 1 + e + t * (1 + e) := by rw [ha]; grind -lia -linarith -order -ac (splits := 0)
  rw [this, ht]; grind -lia -linarith -order -ac (splits := 0)
 refine ⟨e1, ?_⟩
 have e2 : w * ((1 + e) * (1 + e)) = a * (1 + e) * (a * (1 + e)) - 4 * d * (t * (1 + e)) * (1 + e) := by rw [hw]; grind -lia -linarith -order -ac (splits := 0)
 rw [e2, e1, ht]
 have e3 : x * x = 1 - e * e := by rw [hee]; grind -lia -linarith -order -ac (splits := 0)
 rw [e3]; grind -lia -linarith -order -ac (splits := 0)
theorem qb6 (hon : x * x + y * y = 1 + d * x * x * y * y) (hee : e * e = 1 - x * x) : y * y * (1 - d * (x * x)) = e * e := by
 rw [hee]; grind -lia -linarith -order -ac (splits := 0)
theorem qb7 (h1 : 1 + e ≠ 0) (hy : y ≠ 0) (hf : (1 + e) * (1 + e) * y * f = 1) (ha : a * (1 + e) = 2) (hw : w * ((1 + e) * (1 + e)) = 4 * (1 - d * (x * x))) (h6 : y * y * (1 - d * (x * x)) = e * e) : w * (a * a) = 4 * e * f * (4 * e * f) := by
 have n := qF (qF h1 h1) hy
 refine qau (qF n n) ?_
 have e1 : w * (a * a) * ((1 + e) * (1 + e) * y * ((1 + e) * (1 + e) * y)) = w * ((1 + e) * (1 + e)) * (a * (1 + e)) * (a * (1 + e)) * (y * y) := by grind -lia -linarith -order -ac (splits := 0)
 have e2 : 4 * e * f * (4 * e * f) * ((1 + e) * (1 + e) * y * ((1 + e) * (1 + e) * y)) = 16 * (e * e) * ((1 + e) * (1 + e) * y * f) * ((1 + e) * (1 + e) * y * f) := by grind -lia -linarith -order -ac (splits := 0)
 rw [e1, e2, hf, ha, hw, <- h6]; grind -lia -linarith -order -ac (splits := 0)
theorem qb8 (hon : x * x + y * y = 1 + d * x * x * y * y) (hd : 1 - d ≠ 0) (hb : c * c * (1 - d) = 1 - y * y) : c * c * (1 - d * (x * x)) = x * x := by
 refine qau hd ?_
 have e1 : c * c * (1 - d * (x * x)) * (1 - d) = c * c * (1 - d) * (1 - d * (x * x)) := by grind -lia -linarith -order -ac (splits := 0)
 rw [e1, hb]; grind -lia -linarith -order -ac (splits := 0)
theorem qb9 (hr : r * r * (w * (a * a)) = 1) (h1 : 1 + e ≠ 0) (hee : e * e = 1 - x * x) (ht : t * (1 + e) = 1 - e) (hw : w * ((1 + e) * (1 + e)) = 4 * (1 - d * (x * x))) (h8 : c * c * (1 - d * (x * x)) = x * x) (hn : 1 - d * (x * x) ≠ 0) : 4 * t * (r * r) * (a * a) = c * c := by
 refine qau (qF qjI hn) ?_
 have e1 : 4 * t * (r * r) * (a * a) * (4 * (1 - d * (x * x))) = 4 * (t * (1 + e)) * (1 + e) * (r * r * (w * (a * a))) := by rw [<- hw]; grind -lia -linarith -order -ac (splits := 0)
 have e2 : c * c * (4 * (1 - d * (x * x))) = 4 * (c * c * (1 - d * (x * x))) := by grind -lia -linarith -order -ac (splits := 0)
 have e3 : x * x = 1 - e * e := by rw [hee]; grind -lia -linarith -order -ac (splits := 0)
 rw [e1, e2, h8, ht, hr, e3]; grind -lia -linarith -order -ac (splits := 0)
theorem qb10 (hC : C * C * -d = 1) (hc : c = C * w2) : w2 * w2 = c * c * -d := by
 have : c * c * -d = w2 * w2 * (C * C * -d) := by rw [hc]; grind -lia -linarith -order -ac (splits := 0)
 rw [this, hC]; grind -lia -linarith -order -ac (splits := 0)
theorem qb11 (hr : r * r * (w * (a * a)) = 1) (ha0 : a ≠ 0) (h1 : 1 + e ≠ 0) (ha : a * (1 + e) = 2) (ht : t * (1 + e) = 1 - e) (hX : X = W * r * w * C) (hY : Y = (1 - t) * r * a) (hW : C * W = c) (he : e * c = x * y) : X * Y = x * y := by
 refine qau (qF ha0 h1) ?_
 have e1 : X * Y * (a * (1 + e)) = C * W * (r * r * (w * (a * a))) * ((1 + e) - t * (1 + e)) := by rw [hX, hY]; grind -lia -linarith -order -ac (splits := 0)
 rw [e1, hW, hr, ht, ha, <- he]; grind -lia -linarith -order -ac (splits := 0)
theorem qb12 (hx : X * X * (a * a) = 4 * t) (h1 : 1 + e ≠ 0) (ha : a * (1 + e) = 2) (hee : e * e = 1 - x * x) (ht : t * (1 + e) = 1 - e) : X * X = x * x := by
 refine qau qjI ?_
 have e1 : X * X * 4 = X * X * (a * (1 + e)) * (a * (1 + e)) := by rw [ha]; grind -lia -linarith -order -ac (splits := 0)
 have e2 : X * X * (a * (1 + e)) * (a * (1 + e)) = X * X * (a * a) * (1 + e) * (1 + e) := by grind -lia -linarith -order -ac (splits := 0)
 have e4 : 4 * t * (1 + e) * (1 + e) = 4 * (t * (1 + e)) * (1 + e) := by grind -lia -linarith -order -ac (splits := 0)
 have e3 : x * x = 1 - e * e := by rw [hee]; grind -lia -linarith -order -ac (splits := 0)
 rw [e1, e2, hx, e4, ht, e3]; grind -lia -linarith -order -ac (splits := 0)
end
end Go.Sx
end
section
namespace Go.Sx
theorem ng1 (x Y : Fp) : -Y * x = -x * Y := by grind -lia -linarith -order -ac (splits := 0)
theorem ng2 (x Y : Fp) : -x * -Y = Y * x := by grind -lia -linarith -order -ac (splits := 0)
theorem qrY {P : AP} (hP : P.on) (hev : Ev P) : qdO (encF P) = true /\ (AP.on ⟨decX (encF P), decY (encF P)⟩) /\ decX (encF P) * P.y = decY (encF P) * P.x := by
 obtain ⟨x, y⟩ := P
 obtain ⟨g, hg⟩ := hev
 have hon : x * x + y * y = 1 + dF * x * x * y * y := hP
 have hg : (1 - y * y) * (1 - dF) = g * g := hg
 obtain ⟨U, hU⟩ : ∃ U, U = (x + x * y) * (x - x * y) := ⟨_, rfl⟩
 obtain ⟨r2, hr2⟩ : ∃ r2, r2 = qL (fI 1) (U * x * x * (1 - dF)) := ⟨_, rfl⟩
 obtain ⟨w2, hw2⟩ : ∃ w2, w2 = fabs (r2 * U * qax) := ⟨_, rfl⟩
 have hs := qjK ⟨x, y⟩ hU hr2 hw2
 obtain ⟨s, es⟩ : ∃ s, s = encF ⟨x, y⟩ := ⟨_, rfl⟩
 rw [<- es] at hs ⊢
 have hs : s = fabs (r2 * x * (qay * w2 - x * y) * (1 - dF)) := hs
 show _ /\ _ /\ decX s * y = decY s * x
 obtain ⟨a, ha⟩ : ∃ a, a = 1 + s * s := ⟨_, rfl⟩
 obtain ⟨w, hw⟩ : ∃ w, w = a * a - 4 * dF * (s * s) := ⟨_, rfl⟩
 have his := qrQ ha hw
 obtain ⟨r, hr⟩ : ∃ r, r = decR s := ⟨_, rfl⟩
 obtain ⟨W, hW⟩ : ∃ W, W = fabs (2 * s * r * a * qax) := ⟨_, rfl⟩
 have hX := qrR ha hw hr hW
 have hY := qrS ha hw hr
 have hrr := qnH ha hw
 rw [<- hr] at his hrr
 obtain ⟨X, eX⟩ : ∃ X, X = decX s := ⟨_, rfl⟩
 obtain ⟨Y, eY⟩ : ∃ Y, Y = decY s := ⟨_, rfl⟩
 rw [<- eX] at hX ⊢
 rw [<- eY] at hY ⊢
 have hWs := W_sq hW
 have hw2s := qrT hw2
 by_cases hx0 : x = 0
 ·subst hx0
  have hs0 : s = 0 := by
   have e : r2 * 0 * (qay * w2 - 0 * y) * (1 - dF) = 0 := by generalize dF = d; grind -lia -linarith -order -ac (splits := 0)
   rw [hs, e, qfb]
  have ha1 : a = 1 := by rw [ha, hs0]; grind -lia -linarith -order -ac (splits := 0)
  have hw1 : w = 1 := by rw [hw, ha1, hs0]; generalize dF = d; grind -lia -linarith -order -ac (splits := 0)
  have h1 : r * r * (w * (a * a)) = 1 := by
   rw [hrr]
   exact qjF (c := 1) qbM (by rw [hw1, ha1]; grind -lia -linarith -order -ac (splits := 0))
  have hx := rt1 h1 hWs qg4 hX
  have hX0 : X = 0 := by
   refine qgM ?_
   have : X * X = X * X * (a * a) := by rw [ha1]; grind -lia -linarith -order -ac (splits := 0)
   rw [this, hx, hs0]; grind -lia -linarith -order -ac (splits := 0)
  have hYr : Y * Y = 1 := by
   have : Y * Y = r * r * (w * (a * a)) := by rw [hY, hw1, ha1, hs0]; grind -lia -linarith -order -ac (splits := 0)
   rw [this, h1]
  refine ⟨his.2 h1, ?_, ?_⟩
  ·show X * X + Y * Y = 1 + dF * X * X * Y * Y
   rw [hYr, hX0]; generalize dF = d; grind -lia -linarith -order -ac (splits := 0)
  ·rw [hX0]; grind -lia -linarith -order -ac (splits := 0)
 have hxx := qF hx0 hx0
 have hy0 : y ≠ 0 := by
  rintro rfl
  refine qrX g ?_
  rw [<- hg]; generalize dF = d; grind -lia -linarith -order -ac (splits := 0)
 have hU1 := qa1 hU
 have hm := qa2 hU1 hg
 have hy1 : 1 - y * y ≠ 0 := by
  intro h
  have e : y * y = 1 := by grind -lia -linarith -order -ac (splits := 0)
  have : x * x * (1 - dF) = 0 := by
   have e2 : x * x + 1 = 1 + dF * (x * x) := by
    have : dF * x * x * y * y = dF * (x * x) * (y * y) := by generalize dF = d; grind -lia -linarith -order -ac (splits := 0)
    rw [e, this, e] at hon
    rw [hon]; generalize dF = d; grind -lia -linarith -order -ac (splits := 0)
   generalize dF = d at *
   grind -lia -linarith -order -ac (splits := 0)
  rcases qaM this with h | h
  ·exact hxx h
  ·exact qg3 h
 have hg0 : g ≠ 0 := by
  rintro rfl
  have : (1 - y * y) * (1 - dF) = 0 := by rw [hg]; grind -lia -linarith -order -ac (splits := 0)
  rcases qaM this with h | h
  ·exact hy1 h
  ·exact qg3 h
 have h2 := qjF (qF hxx hg0) hm
 rw [<- hr2] at h2
 obtain ⟨c, hc⟩ : ∃ c, c = qay * w2 := ⟨_, rfl⟩
 have hb := qb1 hU1 h2 hw2s qg4 hc
 have hcc : c * c ≠ 0 := by
  intro h
  apply hy1
  rw [<- hb, h]; generalize dF = d; grind -lia -linarith -order -ac (splits := 0)
 have hc0 : c ≠ 0 := by rintro rfl; apply hcc; grind -lia -linarith -order -ac (splits := 0)
 obtain ⟨e, he⟩ : ∃ e, e * c = x * y := by
  refine ⟨x * y * finv c, ?_⟩
  have := qby hc0
  generalize finv c = i at *
  have e1 : x * y * i * c = x * y * (c * i) := by grind -lia -linarith -order -ac (splits := 0)
  rw [e1, this]; grind -lia -linarith -order -ac (splits := 0)
 have hee := qb2 hon qg3 hb hcc he
 obtain ⟨t, et⟩ : ∃ t, t = s * s := ⟨_, rfl⟩
 have ht : t = r2 * x * (c - x * y) * (1 - dF) * (r2 * x * (c - x * y) * (1 - dF)) := by
  rw [et, hs, qbB, <- hc]
 rw [<- et] at ha hw hY hWs
 have htx := qb3 hU1 h2 hb he ht
 obtain ⟨n1, n2, hte⟩ := qb4 hxx hee htx
 obtain ⟨ha2, hw5⟩ := qb5 ha hw hee hte
 have h6 := qb6 hon hee
 have he0 : e ≠ 0 := by
  rintro rfl
  rcases qaM (show x * y = 0 by rw [<- he]; grind -lia -linarith -order -ac (splits := 0)) with h | h
  ·exact hx0 h
  ·exact hy0 h
 have hn0 := qF (qF n1 n1) hy0
 have hf := qby hn0
 have hwa := qb7 n1 hy0 hf ha2 hw5 h6
 have hf0 : finv ((1 + e) * (1 + e) * y) ≠ 0 := by
  intro h
  rw [h] at hf
  apply qbM
  rw [<- hf]; grind -lia -linarith -order -ac (splits := 0)
 have h1 := qjF (qF (qF qjI he0) hf0) hwa
 rw [<- hrr] at h1
 have ha0 : a ≠ 0 := by
  rintro rfl
  have : r * r * (w * (0 * 0)) = 0 := by grind -lia -linarith -order -ac (splits := 0)
  rw [this] at h1
  exact qbM h1.symm
 have hnd : 1 - dF * (x * x) ≠ 0 := by
  intro h
  apply he0
  apply qgM
  rw [<- h6, h]; grind -lia -linarith -order -ac (splits := 0)
 have h8 := qb8 hon qg3 hb
 have h9 := qb9 h1 n1 hee hte hw5 h8 hnd
 have hWw : W = w2 := qrU hW hw2 (by rw [hWs, h9, qb10 qg4 hc])
 have hCW : qay * W = c := by rw [hWw, hc]
 have hXY := qb11 h1 ha0 n1 ha2 hte hX hY hCW he
 have hxr := rt1 h1 hWs qg4 hX
 have hXX := qb12 hxr n1 ha2 hee hte
 have hYY : Y * Y = y * y := by
  refine qau hxx ?_
  have e1 : Y * Y * (x * x) = X * Y * (X * Y) := by rw [<- hXX]; grind -lia -linarith -order -ac (splits := 0)
  rw [e1, hXY]; grind -lia -linarith -order -ac (splits := 0)
 refine ⟨his.2 h1, ?_, ?_⟩
 ·show X * X + Y * Y = 1 + dF * X * X * Y * Y
  have e1 : dF * X * X * Y * Y = dF * (X * X) * (Y * Y) := by generalize dF = d; grind -lia -linarith -order -ac (splits := 0)
  rw [e1, hXX, hYY, hon]; generalize dF = d; grind -lia -linarith -order -ac (splits := 0)
 ·rcases qmz hXX with h | h
  ·rw [h] at hXY ⊢
   have : Y = y := qau hx0 (by rw [Fin.mul_comm Y, hXY, Fin.mul_comm])
   rw [this, Fin.mul_comm]
  ·rw [h] at hXY ⊢
   have : -Y = y := qau hx0 (by
    rw [ng1, hXY, Fin.mul_comm])
   rw [<- this]; exact ng2 ..
end Go.Sx
end
section
namespace Go.Sx
theorem qdQ (b : Int) : ∀ (l m : List Int), valB b (l ++ m) = valB b l + b ^ l.length * valB b m
 | [], m => by simp [valB]
 | x :: l, m => by
   simp only [List.cons_append, valB, qdQ b l m, List.length_cons, Int.pow_succ]
   generalize b ^ l.length = w
   generalize valB b l = u
   generalize valB b m = v
   have e : w * b * v = b * (w * v) := by rw [Int.mul_comm w, Int.mul_assoc]
   rw [e, Int.mul_add]; omega
theorem qc9 (b : Int) : ∀ (l : List Int) (j : Nat) (v : Int), j < l.length -> valB b (l.set j v) = valB b l + (v - l.getD j 0) * b ^ j
 | [], j, v, h => by simp at h
 | x :: l, 0, v, _ => by simp only [List.set_cons_zero, valB, List.getD_cons_zero, Int.pow_zero]; omega
 | x :: l, j + 1, v, h => by
   simp only [List.set_cons_succ, valB, List.getD_cons_succ, Int.pow_succ]
   rw [qc9 b l j v (by simpa using h)]
   generalize b ^ j = w
   generalize v - l.getD j 0 = z
   generalize valB b l = u
   have e : z * (w * b) = b * (z * w) := by rw [<- Int.mul_assoc, Int.mul_comm]
   rw [e, Int.mul_add]; omega
theorem qg5 (b : Int) {l : List Int} {i : Nat} (h : i < l.length) : valB b (l.take (i + 1)) = valB b (l.take i) + l.getD i 0 * b ^ i := by
 rw [List.take_succ_eq_append_getElem h, qdQ, List.length_take, Nat.min_eq_left (Nat.le_of_lt h)]
 have e : l.getD i 0 = l[i] := by simp [List.getD, h]
 rw [e]
 simp only [valB, Int.mul_zero, Int.add_zero]
 rw [Int.mul_comm]
theorem qab {l : List Int} {i j : Nat} {v : Int} (h : i < l.length) : (l.set i v).getD j 0 = if i = j then v else l.getD j 0 := by
 split
 ·rename_i e; subst e; simp [List.getD, h]
 ·rename_i e; simp [List.getD, List.getElem?_set_ne e]
structure Cv (xs ys : List Int) (i k : Nat) (v : List Int) : Prop where
 len : v.length = 31
 bd : ∀ j, 0 <= v.getD j 0 /\ v.getD j 0 <= (if i <= j /\ j < i + k then (i : Int) + 1 else i) * 72057593501057025
 val : valB 268435456 v = valB 268435456 (xs.take i) * valB 268435456 ys + xs.getD i 0 * 268435456 ^ i * valB 268435456 (ys.take k)
def z31 : List Int := [0, 0, 0, 0, 0, 0, 0, 0, 0, 0, 0, 0, 0, 0, 0, 0, 0, 0, 0, 0, 0, 0, 0, 0, 0, 0, 0, 0, 0, 0, 0]
theorem qrZ (j : Nat) : z31.getD j 0 = 0 := by
 have : z31 = List.replicate 31 0 := rfl
 rw [this, List.getD_eq_getElem?_getD, List.getElem?_replicate]
 split <;> rfl
theorem Cv.zero (xs ys : List Int) : Cv xs ys 0 0 z31 := by
 refine ⟨rfl, fun j => ?_, ?_⟩
 ·rw [qrZ]; split <;> omega
 ·have e : valB 268435456 z31 = 0 := by decide +kernel
  simp only [List.take_zero, valB, Int.zero_mul, Int.mul_zero, Int.add_zero]; exact e
theorem qr0 {x y : Int} (hx : 0 <= x /\ x < 268435456) (hy : 0 <= y /\ y < 268435456) : 0 <= x * y /\ x * y <= 72057593501057025 := by
 refine ⟨Int.mul_nonneg hx.1 hy.1, ?_⟩
 have h1 : x * y <= 268435455 * y := Int.mul_le_mul_of_nonneg_right (by omega) hy.1
 omega
section
variable {xs ys v : List Int} {i k : Nat} (hx : xs.length = 16) (hy : ys.length = 16) (dx : ∀ a ∈ xs, 0 <= a /\ a < 268435456) (dy : ∀ a ∈ ys, 0 <= a /\ a < 268435456)
include hx hy dx dy
theorem Cv.rng (h : Cv xs ys i k v) (hi : i < 16) (hk : k < 16) : (0 <= xs.getD i 0 * ys.getD k 0 /\ xs.getD i 0 * ys.getD k 0 <= 72057593501057025) /\ 0 <= v.getD (i + k) 0 /\ v.getD (i + k) 0 <= 1080863902515855375 := by
 refine ⟨qr0 (dx _ (qX (by omega))) (dy _ (qX (by omega))), (h.bd (i + k)).1, ?_⟩
 have := (h.bd (i + k)).2
 rw [if_neg (by omega)] at this
 omega
theorem Cv.step (h : Cv xs ys i k v) (hi : i < 16) (hk : k < 16) : Cv xs ys i (k + 1) (v.set (i + k) (v.getD (i + k) 0 + xs.getD i 0 * ys.getD k 0)) := by
 have hr := h.rng hx hy dx dy hi hk
 have hl : i + k < v.length := by rw [h.len]; omega
 refine ⟨by rw [List.length_set, h.len], fun j => ?_, ?_⟩
 ·rw [qab hl]
  have := h.bd j
  by_cases e : i + k = j
  ·subst e
   rw [if_pos rfl, if_pos (by omega)]
   rw [if_neg (by omega)] at this
   omega
  ·rw [if_neg e]
   by_cases c : i <= j /\ j < i + k
   ·rw [if_pos c] at this
    rw [if_pos (by omega)]; exact this
   ·rw [if_neg c] at this
    rw [if_neg (by omega)]; exact this
 ·rw [qc9 _ _ _ _ hl, h.val, qg5 _ (by omega)]
  have e : v.getD (i + k) 0 + xs.getD i 0 * ys.getD k 0 - v.getD (i + k) 0 = xs.getD i 0 * ys.getD k 0 := by omega
  rw [e, Int.pow_add]
  generalize xs.getD i 0 = a
  generalize ys.getD k 0 = b
  generalize (268435456 : Int) ^ i = p
  generalize (268435456 : Int) ^ k = q
  generalize valB 268435456 (ys.take k) = w
  rw [Int.mul_add, Int.add_assoc]
  congr 2
  ac_rfl
theorem Cv.row (h : Cv xs ys i 16 v) (hi : i < 16) : Cv xs ys (i + 1) 0 v := by
 refine ⟨h.len, fun j => ?_, ?_⟩
 ·have := h.bd j
  rw [if_neg (by omega)]
  refine ⟨this.1, Int.le_trans this.2 ?_⟩
  split <;> omega
 ·rw [h.val, qg5 _ (l := xs) (i := i) (by omega), List.take_zero, List.take_of_length_le (l := ys) (by omega)]
  simp only [valB, Int.mul_zero, Int.add_zero]
  rw [Int.add_mul]
end
def wt (m : Nat) : Nat := if m + 8 <= 30 then 2 else 1
def cap (i j : Nat) : Nat := 1 + (if i < j + 8 /\ j + 8 <= 30 then wt (j + 8) else 0) + (if i < j + 16 /\ j + 16 <= 30 then wt (j + 16) else 0)
def fstp (u : List Int) (i : Nat) : List Int := (u.set (i - 16) (u.getD (i - 16) 0 + u.getD i 0)).set (i - 8) ((u.set (i - 16) (u.getD (i - 16) 0 + u.getD i 0)).getD (i - 8) 0 + (u.set (i - 16) (u.getD (i - 16) 0 + u.getD i 0)).getD i 0)
structure Fd (V : Fp) (i : Nat) (u : List Int) : Prop where
 len : u.length = 31
 bd : ∀ j, j <= i -> 0 <= u.getD j 0 /\ u.getD j 0 <= (cap i j : Int) * 1152921496016912400
 val : fI (valB 268435456 (u.take (i + 1))) = V
theorem Fd.start {xs ys v : List Int} (hx : xs.length = 16) (h : Cv xs ys 16 0 v) : Fd (fI (valB 268435456 xs) * fI (valB 268435456 ys)) 30 v := by
 refine ⟨h.len, fun j hj => ?_, ?_⟩
 ·have := h.bd j
  rw [if_neg (by omega)] at this
  have e : 1 <= cap 30 j := by unfold cap; omega
  have e1 : (1 : Int) <= (cap 30 j : Int) := Int.ofNat_le.2 e
  omega
 ·rw [List.take_of_length_le (by rw [h.len]; omega), h.val, List.take_zero, List.take_of_length_le (by omega)]
  simp only [valB, Int.mul_zero, Int.add_zero]
  exact qeD _ _
theorem qr1 (j : Nat) (h : 16 <= j) (h2 : j <= 30) : cap j j = wt j := by
 unfold cap wt
 rw [if_neg (show ¬ (j < j + 16 /\ j + 16 <= 30) by omega)]
 by_cases e : j + 8 <= 30
 ·rw [if_pos (show j < j + 8 /\ j + 8 <= 30 by omega), if_neg (by omega), if_pos e]
 ·rw [if_neg (show ¬ (j < j + 8 /\ j + 8 <= 30) by omega), if_neg e]
theorem qjL (i j : Nat) (h : 15 <= i) (hj : j <= i) : cap i j <= 4 := by
 unfold cap wt
 split <;> split <;> (repeat' split) <;> omega
theorem qr2 (i : Nat) (h : 16 <= i) (h2 : i <= 30) : cap (i - 1) (i - 8) = cap i (i - 8) + wt i := by
 unfold cap
 have e1 : i - 8 + 8 = i := by omega
 rw [e1, if_pos (show i - 1 < i /\ i <= 30 by omega), if_neg (show ¬ (i < i /\ i <= 30) by omega)]
 have e2 : (i - 1 < i - 8 + 16 /\ i - 8 + 16 <= 30) ↔ (i < i - 8 + 16 /\ i - 8 + 16 <= 30) := by omega
 by_cases c : i < i - 8 + 16 /\ i - 8 + 16 <= 30
 ·rw [if_pos c, if_pos (e2.2 c)]; omega
 ·rw [if_neg c, if_neg (fun h => c (e2.1 h))]; omega
theorem qr3 (i : Nat) (h : 16 <= i) (h2 : i <= 30) : cap (i - 1) (i - 16) = cap i (i - 16) + wt i := by
 unfold cap
 have e1 : i - 16 + 16 = i := by omega
 rw [e1, if_pos (show i - 1 < i /\ i <= 30 by omega), if_neg (show ¬ (i < i /\ i <= 30) by omega), if_neg (show ¬ (i < i - 16 + 8 /\ i - 16 + 8 <= 30) by omega), if_neg (show ¬ (i - 1 < i - 16 + 8 /\ i - 16 + 8 <= 30) by omega)]
theorem qr4 (i j : Nat) (h : 16 <= i) (h2 : i <= 30) (h3 : j ≠ i - 8) (h4 : j ≠ i - 16) : cap (i - 1) j = cap i j := by
 have a1 : (i - 1 < j + 8 /\ j + 8 <= 30) ↔ (i < j + 8 /\ j + 8 <= 30) := by omega
 have a2 : (i - 1 < j + 16 /\ j + 16 <= 30) ↔ (i < j + 16 /\ j + 16 <= 30) := by omega
 unfold cap
 simp only [a1, a2]
theorem qnI {u : List Int} {i j : Nat} {v : Int} (h : j < i) : (u.set j v).take i = (u.take i).set j v := List.take_set
theorem qr5 (n : Nat) : fI (268435456 ^ (n + 16)) = fI (268435456 ^ n + 268435456 ^ (n + 8)) := by
 have e : (268435456 : Int) ^ (n + 16) = 268435456 ^ n + 268435456 ^ (n + 8) + 268435456 ^ n * 726838724295606890549323807888004534353641360687318060281490199180612328166730772686396383698676545930088884461843637361053498018365439 := by
  rw [Int.pow_add, Int.pow_add]
  generalize (268435456 : Int) ^ n = w
  have e1 : (268435456 : Int) ^ 16 = 1 + 268435456 ^ 8 + 726838724295606890549323807888004534353641360687318060281490199180612328166730772686396383698676545930088884461843637361053498018365439 := by decide +kernel
  rw [e1, Int.mul_add, Int.mul_add, Int.mul_one]
 rw [e, qaN, fI_p]; grind -lia -linarith -order -ac (splits := 0)
theorem Fd.step {V : Fp} {i : Nat} {u : List Int} (h : Fd V i u) (hi : 16 <= i) (hi2 : i <= 30) : Fd V (i - 1) (fstp u i) /\ (0 <= u.getD (i - 16) 0 + u.getD i 0 /\ u.getD (i - 16) 0 + u.getD i 0 < 9223372036854775808) /\ (0 <= u.getD (i - 8) 0 + u.getD i 0 /\ u.getD (i - 8) 0 + u.getD i 0 < 9223372036854775808) /\ (u.set (i - 16) (u.getD (i - 16) 0 + u.getD i 0)).getD (i - 8) 0 = u.getD (i - 8) 0 /\ (u.set (i - 16) (u.getD (i - 16) 0 + u.getD i 0)).getD i 0 = u.getD i 0 := by
 have hl := h.len
 have b0 := h.bd i (Nat.le_refl _)
 rw [qr1 i hi hi2] at b0
 have b1 := h.bd (i - 16) (by omega)
 have b2 := h.bd (i - 8) (by omega)
 have c1 := qjL i (i - 16) (by omega) (by omega)
 have c2 := qjL i (i - 8) (by omega) (by omega)
 have c0 : wt i <= 2 := by unfold wt; split <;> omega
 have c0' : (wt i : Int) <= 2 := Int.ofNat_le.2 c0
 have c1' : (cap i (i - 16) : Int) <= 4 := Int.ofNat_le.2 c1
 have c2' : (cap i (i - 8) : Int) <= 4 := Int.ofNat_le.2 c2
 have g1 : (u.set (i - 16) (u.getD (i - 16) 0 + u.getD i 0)).getD (i - 8) 0 = u.getD (i - 8) 0 := by
  rw [qab (by omega), if_neg (by omega)]
 have g2 : (u.set (i - 16) (u.getD (i - 16) 0 + u.getD i 0)).getD i 0 = u.getD i 0 := by
  rw [qab (by omega), if_neg (by omega)]
 refine ⟨⟨?_, ?_, ?_⟩, ⟨by omega, by omega⟩, ⟨by omega, by omega⟩, g1, g2⟩
 ·unfold fstp; rw [List.length_set, List.length_set, hl]
 ·intro j hj
  unfold fstp
  rw [g1, g2, qab (by rw [List.length_set]; omega)]
  by_cases e : i - 8 = j
  ·subst e
   rw [if_pos rfl, qr2 i hi hi2, Int.natCast_add, Int.add_mul]
   omega
  ·rw [if_neg e, qab (by omega)]
   by_cases e2 : i - 16 = j
   ·subst e2
    rw [if_pos rfl, qr3 i hi hi2, Int.natCast_add, Int.add_mul]
    omega
   ·rw [if_neg e2, qr4 i j hi hi2 (Ne.symm e) (Ne.symm e2)]
    exact h.bd j (by omega)
 ·rw [<- h.val, qg5 _ (l := u) (i := i) (by omega)]
  unfold fstp
  rw [g1, g2, show i - 1 + 1 = i by omega, qnI (by omega), qnI (by omega)]
  have t1 : (u.take i).getD (i - 16) 0 = u.getD (i - 16) 0 := by
   simp [List.getD, List.getElem?_take, show i - 16 < i by omega]
  have t2 : (u.take i).getD (i - 8) 0 = u.getD (i - 8) 0 := by
   simp [List.getD, List.getElem?_take, show i - 8 < i by omega]
  have tl : (u.take i).length = i := by rw [List.length_take]; omega
  rw [qc9 _ _ _ _ (by rw [List.length_set, tl]; omega), qc9 _ _ _ _ (by omega), qab (by omega), if_neg (by omega), t1, t2]
  have hp := qr5 (i - 16)
  rw [show i - 16 + 16 = i by omega, show i - 16 + 8 = i - 8 by omega, qaN] at hp
  rw [qaN, qaN, qaN, qeD, qeD, qeD, hp]
  have e1 : u.getD (i - 16) 0 + u.getD i 0 - u.getD (i - 16) 0 = u.getD i 0 := by omega
  have e2 : u.getD (i - 8) 0 + u.getD i 0 - u.getD (i - 8) 0 = u.getD i 0 := by omega
  rw [e1, e2]
  generalize fI (u.getD i 0) = a
  generalize fI (268435456 ^ (i - 16)) = b
  generalize fI (268435456 ^ (i - 8)) = c
  generalize fI (valB 268435456 (u.take i)) = d
  clear hp b0 b1 b2 c1 c2 c0 c0' c1' c2' g1 g2 e1 e2 t1 t2 tl h
  grind -lia -linarith -order -ac (splits := 0)
theorem Fd.done {V : Fp} {u : List Int} (h : Fd V 15 u) : (u.take 16).length = 16 /\ (∀ a ∈ u.take 16, -4611686018427387904 < a /\ a < 4611686018427387904) /\ fI (valB 268435456 (u.take 16)) = V := by
 refine ⟨by rw [List.length_take, h.len]; rfl, fun a ha => ?_, h.val⟩
 obtain ⟨j, hj, rfl⟩ := List.getElem_of_mem ha
 have hj' : j < 16 := by rw [List.length_take, h.len] at hj; exact hj
 have b := h.bd j (by omega)
 have c := qjL 15 j (by omega) (by omega)
 have c' : (cap 15 j : Int) <= 4 := Int.ofNat_le.2 c
 have e : (u.take 16)[j] = u.getD j 0 := by
  rw [List.getElem_take]
  simp [List.getD, show j < u.length by rw [h.len]; omega]
 rw [e]
 omega
theorem qr6 {xs ys : List Int} (hl : xs.length = ys.length) (hx : ∀ a ∈ xs, 0 <= a /\ a < 268435456) (hy : ∀ a ∈ ys, 0 <= a /\ a < 268435456) (h : valB 268435456 xs = valB 268435456 ys) : xs = ys := by
 induction xs generalizing ys with
 | nil => cases ys with
   | nil => rfl
   | cons y ys => simp at hl
 | cons x xs ih =>
   cases ys with
   | nil => simp at hl
   | cons y ys =>
     have h1 := hx x (List.mem_cons_self ..)
     have h2 := hy y (List.mem_cons_self ..)
     simp only [valB] at h
     have e : x = y := by omega
     subst e
     rw [ih (by simpa using hl) (fun a ha => hx a (List.mem_cons_of_mem _ ha)) (fun a ha => hy a (List.mem_cons_of_mem _ ha)) (by omega)]
theorem qr7 {x y : Fp} {xs ys : List Int} (hx : okRe x xs) (hy : okRe y ys) : (xs == ys) = decide (x = y) := by
 have e : xs = ys ↔ x = y := by
  constructor
  ·rintro rfl
   apply Fin.ext
   have := hx.2.2.symm.trans hy.2.2
   omega
  ·rintro rfl
   exact qr6 (hx.1.trans hy.1.symm) hx.2.1 hy.2.1 (hx.2.2.trans hy.2.2.symm)
 by_cases h : x = y
 ·rw [decide_eq_true h, beq_iff_eq]; exact e.2 h
 ·rw [decide_eq_false h, beq_eq_false_iff_ne]; exact fun c => h (e.1 c)
end Go.Sx
end
section
namespace Go.Sx
theorem qdS (b : Int) (hb : 0 < b) : ∀ (l : List Int), (∀ a ∈ l, 0 <= a /\ a < b) -> 0 <= valB b l /\ valB b l < b ^ l.length
 | [], _ => by simp [valB]
 | x :: l, h => by
   have ih := qdS b hb l fun a ha => h a (List.mem_cons_of_mem _ ha)
   have hx := h x (List.mem_cons_self ..)
   simp only [valB, List.length_cons, Int.pow_succ]
   generalize valB b l = v at *
   generalize b ^ l.length = w at *
   have h1 : 0 <= b * v := Int.mul_nonneg (by omega) ih.1
   have h2 : b * (v + 1) <= b * w := Int.mul_le_mul_of_nonneg_left (by omega) (by omega)
   rw [Int.mul_add, Int.mul_one] at h2
   rw [Int.mul_comm w]
   omega
theorem qr9 {bs : List Int} {j n : Nat} (h : j < bs.length) : qw ((bs.drop j).take (n + 1)) = bs.getD j 0 + 256 * qw ((bs.drop (j + 1)).take n) := by
 rw [List.drop_eq_getElem_cons h, List.take_succ_cons]
 have e : bs.getD j 0 = bs[j] := by simp [List.getD, h]
 rw [e]; rfl
theorem qg7 {bs : List Int} (hb : ∀ a ∈ bs, 0 <= a /\ a < 256) (j n : Nat) : 0 <= qw ((bs.drop j).take n) /\ qw ((bs.drop j).take n) < 256 ^ n := by
 have := qdS 256 (by decide) ((bs.drop j).take n) fun a ha => hb a (List.mem_of_mem_drop (List.mem_of_mem_take ha))
 refine ⟨this.1, Int.lt_of_lt_of_le this.2 ?_⟩
 have e : ((256 ^ ((bs.drop j).take n).length : Nat) : Int) <= ((256 ^ n : Nat) : Int) := Int.ofNat_le.2 (Nat.pow_le_pow_right (by decide) (by rw [List.length_take]; omega))
 simpa using e
structure Ofs (bs : List Int) (i : Nat) (v : List Int) : Prop where
 len : v.length = 16
 bd : ∀ j, 0 <= v.getD j 0 /\ v.getD j 0 < 268435456
 z : ∀ j, 2 * i <= j -> v.getD j 0 = 0
 val : valB 268435456 v = qw (bs.take (7 * i))
def z16 : List Int := [0, 0, 0, 0, 0, 0, 0, 0, 0, 0, 0, 0, 0, 0, 0, 0]
theorem qnK (j : Nat) : z16.getD j 0 = 0 := by
 have : z16 = List.replicate 16 0 := rfl
 rw [this, List.getD_eq_getElem?_getD, List.getElem?_replicate]
 split <;> rfl
theorem Ofs.zero (bs : List Int) : Ofs bs 0 z16 := ⟨rfl, fun j => by rw [qnK]; decide, fun j _ => qnK j, by
 show valB 268435456 z16 = 0
 decide⟩
theorem qnL (i : Nat) : (256 : Int) ^ (7 * i) = 268435456 ^ (2 * i) := by
 rw [Int.pow_mul, Int.pow_mul]
 congr 1
theorem qsa {bs : List Int} (i : Nat) : bs.take (7 * (i + 1)) = bs.take (7 * i) ++ (bs.drop (7 * i)).take 7 := by
 rw [Nat.mul_add, Nat.mul_one, List.take_add]
theorem Ofs.step {bs v : List Int} {i : Nat} (h : Ofs bs i v) (hi : i < 8) (hl : bs.length = 56) (hb : ∀ a ∈ bs, 0 <= a /\ a < 256) {n : Int} (hn : n = qw ((bs.drop (7 * i)).take 7)) : Ofs bs (i + 1) ((v.set (2 * i) (n % 268435456)).set (2 * i + 1) (n / 268435456)) := by
 have hbd := qg7 hb (7 * i) 7
 rw [<- hn] at hbd
 have h56 : (256 : Int) ^ 7 = 72057594037927936 := by decide
 rw [h56] at hbd
 have l1 : 2 * i < v.length := by rw [h.len]; omega
 have l2 : 2 * i + 1 < (v.set (2 * i) (n % 268435456)).length := by rw [List.length_set, h.len]; omega
 refine ⟨by rw [List.length_set, List.length_set, h.len], fun j => ?_, fun j hj => ?_, ?_⟩
 ·rw [qab l2, qab l1]
  split
  ·omega
  ·split
   ·omega
   ·exact h.bd j
 ·rw [qab l2, qab l1, if_neg (by omega), if_neg (by omega)]
  exact h.z j (by omega)
 ·rw [qc9 _ _ _ _ l2, qc9 _ _ _ _ l1, qab l1, if_neg (by omega), h.z _ (by omega), h.z _ (by omega), h.val, qsa]
  unfold qw
  rw [qdQ, List.length_take, hl, Nat.min_eq_left (by omega), qnL]
  have e : valB 256 ((bs.drop (7 * i)).take 7) = n := hn.symm
  rw [e, Int.pow_succ]
  generalize (268435456 : Int) ^ (2 * i) = w
  generalize valB 256 (bs.take (7 * i)) = u
  have e2 : n = n % 268435456 + n / 268435456 * 268435456 := by omega
  conv => rhs; rw [e2]
  rw [Int.mul_add, Int.sub_zero, Int.sub_zero, Int.add_assoc]
  congr 1
  rw [Int.mul_comm w, Int.mul_left_comm w]
  congr 1
  rw [Int.mul_comm w]
  ac_rfl
theorem Ofs.done {bs v : List Int} (h : Ofs bs 8 v) (hl : bs.length = 56) : valB 268435456 v = qw bs /\ ∀ a ∈ v, -4611686018427387904 < a /\ a < 4611686018427387904 := by
 refine ⟨by rw [h.val, List.take_of_length_le (by omega)], fun a ha => ?_⟩
 obtain ⟨j, hj, rfl⟩ := List.getElem_of_mem ha
 have := h.bd j
 rw [show v.getD j 0 = v[j] by simp [List.getD, hj]] at this
 omega
def qK (N n : Nat) : List Int := (List.range n).map fun j => ((N / 256 ^ j % 256 : Nat) : Int)
theorem qbg (N n : Nat) : (qK N n).length = n := by simp [qK]
theorem qjN (N n : Nat) : qK N (n + 1) = qK N n ++ [((N / 256 ^ n % 256 : Nat) : Int)] := by
 unfold qK; rw [List.range_succ, List.map_append]; rfl
theorem qg8 (x : Fp) : qA x = qK x.val 56 := by unfold qA qK; rfl
theorem dig2 {xs : List Int} {N i : Nat} (hl : xs.length = 16) (hd : ∀ a ∈ xs, 0 <= a /\ a < 268435456) (hv : valB 268435456 xs = N) (hi : i < 8) : xs.getD (2 * i) 0 + xs.getD (2 * i + 1) 0 * 268435456 = ((N / 256 ^ (7 * i) % 72057594037927936 : Nat) : Int) := by
 have h1 : 2 * i < xs.length := by omega
 have h2 : 2 * i + 1 < xs.length := by omega
 have e : xs = xs.take (2 * i) ++ (xs.getD (2 * i) 0 :: xs.getD (2 * i + 1) 0 :: xs.drop (2 * i + 2)) := by
  conv => lhs; rw [<- List.take_append_drop (2 * i) xs, List.drop_eq_getElem_cons h1, List.drop_eq_getElem_cons h2]
  have e1 : xs.getD (2 * i) 0 = xs[2 * i] := by simp [List.getD, h1]
  have e2 : xs.getD (2 * i + 1) 0 = xs[2 * i + 1] := by simp [List.getD, h2]
  rw [e1, e2]
 have b1 := qdS 268435456 (by decide) (xs.take (2 * i)) fun a ha => hd a (List.mem_of_mem_take ha)
 have b2 := qdS 268435456 (by decide) (xs.drop (2 * i + 2)) fun a ha => hd a (List.mem_of_mem_drop ha)
 have b3 := hd _ (qX h1)
 have b4 := hd _ (qX h2)
 have hv2 := hv
 rw [e, qdQ] at hv2
 simp only [valB] at hv2
 rw [List.length_take, Nat.min_eq_left (by omega)] at hv2 b1
 have hp : (268435456 : Int) ^ (2 * i) = ((256 ^ (7 * i) : Nat) : Int) := by rw [<- qnL]; simp
 rw [hp] at hv2 b1
 have hpos : 0 < 256 ^ (7 * i) := Nat.pow_pos (by decide)
 generalize 256 ^ (7 * i) = w at *
 generalize valB 268435456 (xs.take (2 * i)) = u at *
 generalize valB 268435456 (xs.drop (2 * i + 2)) = t at *
 generalize xs.getD (2 * i) 0 = a at *
 generalize xs.getD (2 * i + 1) 0 = b at *
 have q : ((N / w : Nat) : Int) = a + 268435456 * (b + 268435456 * t) := by
  rw [Int.natCast_ediv, <- hv2, Int.add_mul_ediv_left _ _ (by omega), Int.ediv_eq_zero_of_lt b1.1 b1.2, Int.zero_add]
 rw [Int.natCast_emod, q]
 omega
theorem qg9 (N i k : Nat) (hk : k < 7) : N / 256 ^ (7 * i) % 72057594037927936 / 256 ^ k % 256 = N / 256 ^ (7 * i + k) % 256 := by
 have e : 72057594037927936 = 256 ^ k * 256 ^ (7 - k) := by rw [<- Nat.pow_add, show k + (7 - k) = 7 by omega]
 rw [e, Nat.mod_mul_right_div_self, Nat.mod_mod_of_dvd, Nat.div_div_eq_div_mul, <- Nat.pow_add]
 exact Nat.dvd_trans (Nat.dvd_refl 256) (by rw [show 7 - k = (6 - k) + 1 by omega, Nat.pow_succ]; exact Nat.dvd_mul_left ..)
theorem qnM (a b : Int) (ha : -268435456 <= a /\ a <= 268435456) (hb : -34359738368 <= b /\ b <= 34359738368) : ((z16.set 0 a).set 1 b).length = 16 /\ (∀ x ∈ (z16.set 0 a).set 1 b, -4611686018427387904 < x /\ x < 4611686018427387904) /\ valB 268435456 ((z16.set 0 a).set 1 b) = a + 268435456 * b := by
 refine ⟨rfl, fun x hx => ?_, ?_⟩
 ·have : x = a \/ x = b \/ x = 0 := by
   simp only [z16, List.set_cons_zero, List.set_cons_succ, List.mem_cons, List.not_mem_nil, or_false] at hx
   omega
  omega
 ·simp only [z16, List.set_cons_zero, List.set_cons_succ, valB]; omega
theorem qnN {n : Int} (h0 : -9223372036854775808 <= n) (h1 : n < 9223372036854775808) : (-268435456 < n.tmod 268435456 /\ n.tmod 268435456 < 268435456) /\ (-34359738368 <= n.tdiv 268435456 /\ n.tdiv 268435456 <= 34359738368) /\ 268435456 * n.tdiv 268435456 + n.tmod 268435456 = n := by
 have e := Int.mul_tdiv_add_tmod n 268435456
 rcases qjz n with h | h
 ·omega
 ·omega
def qbt : List Int := [255, 255, 255, 255, 255, 255, 255, 255, 255, 255, 255, 255, 255, 255, 255, 255, 255, 255, 255, 255, 255, 255, 255, 255, 255, 255, 255, 255, 254, 255, 255, 255, 255, 255, 255, 255, 255, 255, 255, 255, 255, 255, 255, 255, 255, 255, 255, 255, 255, 255, 255, 255, 255, 255, 255, 255]
theorem qsb : qK (valB 268435456 pL).toNat 56 = qbt := by decide +kernel
end Go.Sx
end
section
namespace Go.Sx
abbrev Byt (bs : List Int) : Prop := ∀ a ∈ bs, 0 <= a /\ a < 256
def nV (bs : List Int) : Nat := (qw bs).toNat
theorem qff {bs : List Int} (h : Byt bs) : ((nV bs : Nat) : Int) = qw bs := by
 have := (qdS 256 (by decide) bs h).1
 unfold nV qw; omega
theorem qaO {bs : List Int} (h : Byt bs) : nV bs < 256 ^ bs.length := by
 have h1 := (qdS 256 (by decide) bs h).2
 have h2 := qff h
 have e : ((nV bs : Nat) : Int) < ((256 ^ bs.length : Nat) : Int) := by
  rw [h2, Int.natCast_pow]; exact h1
 exact Int.ofNat_lt.1 e
theorem qsd {bs : List Int} (h : Byt bs) (i : Nat) : Byt (bs.drop i) := fun a ha => h a (List.mem_of_mem_drop ha)
theorem qaz {bs : List Int} (h : Byt bs) (i : Nat) : Byt (bs.take i) := fun a ha => h a (List.mem_of_mem_take ha)
theorem qaJ {bs : List Int} (h : Byt bs) (i : Nat) : 0 <= bs.getD i 0 /\ bs.getD i 0 < 256 := by
 by_cases hi : i < bs.length
 ·exact h _ (qX hi)
 ·rw [show bs.getD i 0 = 0 by simp [List.getD, Nat.not_lt.1 hi]]; decide
theorem qjP {x : Int} {l : List Int} (hx : 0 <= x) (h : Byt l) : nV (x :: l) = x.toNat + 256 * nV l := by
 have h2 := qff h
 show (x + 256 * valB 256 l).toNat = _
 unfold qw at h2
 rw [<- h2]; omega
theorem qnP {l m : List Int} (hl : Byt l) (hm : Byt m) : nV (l ++ m) = nV l + 256 ^ l.length * nV m := by
 have h1 := qff hl
 have h2 := qff hm
 have h3 := qff (bs := l ++ m) (fun a ha => (List.mem_append.1 ha).elim (hl a) (hm a))
 have h4 := qdQ 256 l m
 unfold qw at *
 rw [h4, <- h1, <- h2] at h3
 have e : ((nV (l ++ m) : Nat) : Int) = ((nV l + 256 ^ l.length * nV m : Nat) : Int) := by
  rw [h3, Int.natCast_add, Int.natCast_mul, Int.natCast_pow]; rfl
 exact Int.ofNat_inj.1 e
theorem qdc {bs : List Int} (h : Byt bs) (i : Nat) : bs.getD i 0 = ((nV bs / 256 ^ i % 256 : Nat) : Int) := by
 induction i generalizing bs with
 | zero => cases bs with
   | nil => rfl
   | cons x l =>
     have hx := h x (List.mem_cons_self ..)
     rw [qjP hx.1 (fun a ha => h a (List.mem_cons_of_mem _ ha)), Nat.pow_zero, Nat.div_one, List.getD_cons_zero]; omega
 | succ i ih => cases bs with
   | nil =>
     have e : nV [] = 0 := rfl
     rw [e, Nat.zero_div]; rfl
   | cons x l =>
     have hx := h x (List.mem_cons_self ..)
     have hl : Byt l := fun a ha => h a (List.mem_cons_of_mem _ ha)
     rw [qjP hx.1 hl, List.getD_cons_succ, ih hl, Nat.pow_succ', <- Nat.div_div_eq_div_mul]
     congr 3; omega
theorem qjQ {bs : List Int} (h : Byt bs) (i : Nat) : nV (bs.take i) = nV bs % 256 ^ i := by
 by_cases hi : i <= bs.length
 ·have e := qnP (qaz h i) (qsd h i)
  rw [List.take_append_drop, List.length_take, Nat.min_eq_left hi] at e
  have := qaO (qaz h i)
  rw [List.length_take, Nat.min_eq_left hi] at this
  rw [e, Nat.add_mul_mod_self_left, Nat.mod_eq_of_lt this]
 ·rw [List.take_of_length_le (by omega), Nat.mod_eq_of_lt]
  exact Nat.lt_of_lt_of_le (qaO h) (Nat.pow_le_pow_right (by decide) (by omega))
theorem qdd {bs : List Int} (h : Byt bs) (i : Nat) : ((nV (bs.take (i + 1)) : Nat) : Int) = nV (bs.take i) + bs.getD i 0 * 256 ^ i := by
 rw [qjQ h, qjQ h, qdc h, Nat.pow_succ, Nat.mod_mul, Int.natCast_add, Int.natCast_mul, Int.mul_comm (256 ^ i : Nat), Int.natCast_pow]; rfl
theorem qfg {l : List Int} {x : Int} (hl : Byt l) (hx : 0 <= x /\ x < 256) : ((nV (l ++ [x]) : Nat) : Int) = nV l + x * 256 ^ l.length := by
 rw [qnP hl (fun a ha => by rw [List.mem_singleton] at ha; rw [ha]; exact hx), qjP hx.1 (fun a ha => by simp at ha)]
 have e : nV [] = 0 := rfl
 rw [e, Int.natCast_add, Int.natCast_mul, Int.natCast_pow, Int.mul_comm]
 congr 2
 omega
theorem qfh {l : List Int} {x : Int} (hl : Byt l) (hx : 0 <= x /\ x < 256) : Byt (l ++ [x]) := fun a ha => by
 rcases List.mem_append.1 ha with h | h
 ·exact hl a h
 ·rw [List.mem_singleton] at h; rw [h]; exact hx
theorem qdU {bs : List Int} (h : Byt bs) {n : Nat} (hz : bs.getD n 0 = 0) (e : nV (bs.take (n + 1)) = nV bs) : nV (bs.take n) = nV bs := by
 have := qdd h n
 rw [hz, Int.zero_mul, Int.add_zero, e] at this
 omega
def bitN (V i : Nat) : Nat := V / 2 ^ i % 2
theorem qnQ (V i : Nat) : V / 256 ^ (i / 8) % 256 / 2 ^ (i % 8) % 2 = bitN V i := by
 have e : (256 : Nat) = 2 ^ (i % 8) * 2 ^ (8 - i % 8) := by
  rw [<- Nat.pow_add, show i % 8 + (8 - i % 8) = 8 by omega]
 unfold bitN
 have e3 : (256 : Nat) ^ (i / 8) * 2 ^ (i % 8) = 2 ^ i := by
  rw [show (256 : Nat) = 2 ^ 8 from rfl, <- Nat.pow_mul, <- Nat.pow_add, show 8 * (i / 8) + i % 8 = i by omega]
 have e2 : V / 256 ^ (i / 8) % 256 / 2 ^ (i % 8) % 2 = V / 256 ^ (i / 8) / 2 ^ (i % 8) % 2 := by
  generalize V / 256 ^ (i / 8) = W
  rw [e, Nat.mod_mul_right_div_self, Nat.mod_mod_of_dvd]
  rw [show 8 - i % 8 = (7 - i % 8) + 1 by omega, Nat.pow_succ]
  exact Nat.dvd_mul_left ..
 rw [e2, Nat.div_div_eq_div_mul, e3]
theorem qbT (V i : Nat) : bitN V i < 2 := Nat.mod_lt _ (by decide)
def IsLen (V n : Nat) : Prop := V < 2 ^ n /\ (n = 0 \/ 2 ^ (n - 1) <= V)
theorem qnR {V n : Nat} (h : V < 2 ^ (n + 1)) (hb : bitN V n = 0) : V < 2 ^ n := by
 unfold bitN at hb
 have : V / 2 ^ n < 2 := by exact (Nat.div_lt_iff_lt_mul (Nat.pow_pos (by decide))).2 (by rw [Nat.mul_comm, <- Nat.pow_succ]; exact h)
 have e : V / 2 ^ n = 0 := by
  revert this hb; generalize V / 2 ^ n = q; omega
 rcases Nat.div_eq_zero_iff.1 e with h | h
 ·exact absurd h (Nat.ne_of_gt (Nat.pow_pos (by decide)))
 ·exact h
theorem qnS {V n : Nat} (hb : bitN V n ≠ 0) : 2 ^ n <= V := by
 apply Nat.le_of_not_lt
 intro h
 apply hb
 unfold bitN
 rw [Nat.div_eq_of_lt h]
theorem half_bit (V i : Nat) : V / 2 ^ i = 2 * (V / 2 ^ (i + 1)) + bitN V i := by
 unfold bitN
 rw [Nat.pow_succ, <- Nat.div_div_eq_div_mul]; omega
theorem qdV {bs : List Int} (h : Byt bs) : nV bs < 2 ^ (8 * bs.length) := by
 rw [Nat.pow_mul]; exact qaO h
theorem qfi (V n : Nat) : nV (qK V n) = V % 256 ^ n := by
 unfold nV qK; rw [qnd]; rfl
theorem qde (V n : Nat) : Byt (qK V n) := fun a ha => by
 unfold qK at ha
 obtain ⟨j, _, rfl⟩ := List.mem_map.1 ha
 omega
theorem qcw {V n : Nat} (h : V < 256 ^ n) : ∃ z : List Int × Nat, nV z.1 = V /\ Byt z.1 /\ z.1.length <= n /\ z.1.length <= z.2 :=
 ⟨(qK V n, n), by rw [qfi, Nat.mod_eq_of_lt h], qde V n, by simp [qbg], by simp [qbg]⟩
theorem qjR {V n : Nat} (h : V < 2 ^ n) : ∃ z, IsLen V z /\ z <= n := by
 induction n with
 | zero => exact ⟨0, ⟨h, .inl rfl⟩, Nat.le_refl _⟩
 | succ n ih =>
   by_cases hb : bitN V n = 0
   · obtain ⟨z, h1, h2⟩ := ih (qnR h hb)
     exact ⟨z, h1, by omega⟩
   · exact ⟨n + 1, ⟨h, .inr (qnS hb)⟩, Nat.le_refl _⟩
theorem qnT (V m : Nat) : V / 256 ^ m = 256 * (V / 256 ^ (m + 1)) + V / 256 ^ m % 256 := by
 rw [Nat.pow_succ, <- Nat.div_div_eq_div_mul]; omega
theorem qnU {bs : List Int} (h : Byt bs) {n : Nat} (hn : bs.length <= n) : nV bs / 256 ^ n = 0 := Nat.div_eq_of_lt (Nat.lt_of_lt_of_le (qaO h) (Nat.pow_le_pow_right (by decide) hn))
theorem qjS {a b w : Nat} (h : a / w < b / w) : a < b := by
 apply Nat.lt_of_not_le
 intro hl
 exact absurd (Nat.div_le_div_right (c := w) hl) (by omega)
theorem qnV {A B q x y : Nat} (ha : A = 256 * q + x) (hb : B = 256 * q + y) (h : x < y) : A < B := by omega
theorem qnW {a b : Nat} (h : ((a % 256 : Nat) : Int) < ((b % 256 : Nat) : Int)) : a % 256 < b % 256 := Int.ofNat_lt.1 h
theorem qse {xs ys u : List Int} {i : Nat} {l : Nat} (bx : Byt xs) (bys : Byt ys) (hl : l <= 1) (hub : Byt u) (hul : u.length = i) (hv : ((nV u : Nat) : Int) = nV (xs.take i) - nV (ys.take i) + l * 256 ^ i) {d : Int} (hd : d = xs.getD i 0 - ys.getD i 0 - l) :
  (d < 0 -> Byt (u ++ [d + 256]) /\ ((nV (u ++ [d + 256]) : Nat) : Int) = nV (xs.take (i + 1)) - nV (ys.take (i + 1)) + (1 : Nat) * 256 ^ (i + 1)) /\ (¬ d < 0 -> Byt (u ++ [d]) /\ ((nV (u ++ [d]) : Nat) : Int) = nV (xs.take (i + 1)) - nV (ys.take (i + 1)) + (0 : Nat) * 256 ^ (i + 1)) := by
 have gx := qaJ bx i
 have gy := qaJ bys i
 have ex := qdd bx i
 have ey := qdd bys i
 rw [ex, ey, Int.pow_succ]
 have l1 : (l : Int) <= 1 := by omega
 have l0 : (0 : Int) <= l := by omega
 refine ⟨fun h => ?_, fun h => ?_⟩
 ·have hr : 0 <= d + 256 /\ d + 256 < 256 := by omega
  refine ⟨qfh hub hr, ?_⟩
  rw [qfg hub hr, hv, hul]
  generalize (256 : Int) ^ i = w
  rw [hd]
  generalize xs.getD i 0 = a
  generalize ys.getD i 0 = b
  have e : (a - b - (l : Int) + 256) * w = a * w - b * w - l * w + w * 256 := by rw [Int.add_mul, Int.sub_mul, Int.sub_mul, Int.mul_comm 256]
  rw [e]; omega
 ·have hr : 0 <= d /\ d < 256 := by omega
  refine ⟨qfh hub hr, ?_⟩
  rw [qfg hub hr, hv, hul]
  generalize (256 : Int) ^ i = w
  rw [hd]
  generalize xs.getD i 0 = a
  generalize ys.getD i 0 = b
  have e : (a - b - (l : Int)) * w = a * w - b * w - l * w := by rw [Int.sub_mul, Int.sub_mul]
  rw [e]; omega
theorem qsf {xs ys u : List Int} {l : Nat} (bx : Byt xs) (bys : Byt ys) (hub : Byt u) (hul : u.length = xs.length) (hv : ((nV u : Nat) : Int) = nV (xs.take xs.length) - nV (ys.take xs.length) + l * 256 ^ xs.length) (hle : nV ys <= nV xs) : nV u = nV xs - nV ys := by
 have h1 := qaO bx
 have h2 := qaO hub
 rw [hul] at h2
 rw [List.take_length, qjQ bys, Nat.mod_eq_of_lt (Nat.lt_of_le_of_lt hle h1)] at hv
 have e : (256 : Int) ^ xs.length = ((256 ^ xs.length : Nat) : Int) := by rw [Int.natCast_pow]; rfl
 rw [e] at hv
 generalize 256 ^ xs.length = w at *
 rcases Nat.eq_zero_or_pos l with h | h
 ·subst h
  simp only [Int.natCast_zero, Int.zero_mul, Int.add_zero] at hv
  omega
 ·have : (1 : Int) * w <= l * w := Int.mul_le_mul_of_nonneg_right (by omega) (by omega)
  omega
theorem qnX {xs ys u : List Int} {i : Nat} {o : Nat} (bx : Byt xs) (bys : Byt ys) (ho : o <= 1) (hub : Byt u) (hul : u.length = i) (hv : ((nV u : Nat) : Int) + o * 256 ^ i = nV (xs.take i) + nV (ys.take i)) {d : Nat} (hd : (d : Int) = o + xs.getD i 0 + ys.getD i 0) :
  Byt (u ++ [((d % 256 : Nat) : Int)]) /\ ((nV (u ++ [((d % 256 : Nat) : Int)]) : Nat) : Int) + ((d / 256 : Nat) : Int) * 256 ^ (i + 1) = nV (xs.take (i + 1)) + nV (ys.take (i + 1)) /\ d / 256 <= 1 := by
 have gx := qaJ bx i
 have gy := qaJ bys i
 have ex := qdd bx i
 have ey := qdd bys i
 have hr : 0 <= ((d % 256 : Nat) : Int) /\ ((d % 256 : Nat) : Int) < 256 := by omega
 refine ⟨qfh hub hr, ?_, by omega⟩
 rw [ex, ey, Int.pow_succ, qfg hub hr, hul]
 generalize (256 : Int) ^ i = w at *
 generalize xs.getD i 0 = a at *
 generalize ys.getD i 0 = b at *
 have e : ((d % 256 : Nat) : Int) * w + ((d / 256 : Nat) : Int) * (w * 256) = (d : Int) * w := by
  have : (d : Int) = ((d % 256 : Nat) : Int) + ((d / 256 : Nat) : Int) * 256 := by omega
  conv => rhs; rw [this]
  rw [Int.add_mul, Int.mul_assoc, Int.mul_comm 256]
 rw [Int.add_assoc, e, hd, Int.add_mul, Int.add_mul]
 omega
theorem qsg {xs ys u : List Int} {i : Nat} (bx : Byt xs) (bys : Byt ys) (hi : max xs.length ys.length <= i) (hv : ((nV u : Nat) : Int) + (0 : Nat) * 256 ^ i = nV (xs.take i) + nV (ys.take i)) : nV u = nV xs + nV ys := by
 rw [List.take_of_length_le (by omega), List.take_of_length_le (by omega)] at hv
 simp only [Int.natCast_zero, Int.zero_mul, Int.add_zero] at hv
 omega
theorem qsh {xs ys : List Int} (bx : Byt xs) (bys : Byt ys) : nV xs + nV ys < 256 ^ (max xs.length ys.length + 1) := by
 have h1 := qaO bx
 have h2 := qaO bys
 have h3 : 256 ^ xs.length <= 256 ^ max xs.length ys.length := Nat.pow_le_pow_right (by decide) (by omega)
 have h4 : 256 ^ ys.length <= 256 ^ max xs.length ys.length := Nat.pow_le_pow_right (by decide) (by omega)
 rw [Nat.pow_succ]; omega
theorem qsi (V s j : Nat) : bitN V (j + s) = bitN (V / 2 ^ s) j := by
 unfold bitN
 rw [Nat.div_div_eq_div_mul, <- Nat.pow_add, Nat.add_comm s]
theorem qsj (W i m : Nat) (n : Nat) : W / 2 ^ (i + m) % 2 ^ (n + 1) = 2 * (W / 2 ^ (i + (m + 1)) % 2 ^ n) + bitN W (i + m) := by
 unfold bitN
 rw [<- Nat.add_assoc, Nat.pow_succ 2 (i + m), <- Nat.div_div_eq_div_mul]
 generalize W / 2 ^ (i + m) = A
 rw [Nat.pow_succ', Nat.mod_mul]; omega
theorem qsk {V s z : Nat} (h : V < 2 ^ z) : V / 2 ^ s < 2 ^ (z - s) := by
 rw [Nat.div_lt_iff_lt_mul (Nat.pow_pos (by decide)), <- Nat.pow_add]
 exact Nat.lt_of_lt_of_le h (Nat.pow_le_pow_right (by decide) (by omega))
end Go.Sx
end
section
namespace Go.Sx
theorem qsr (a : Fp) : pw a 181709681073901722637330951972001133588410340171829515070372549795153082041682693171599095924669136482522221115460909340263374504591360 = a * qq a := by
 unfold qq
 rw [qi5 a (show (181709681073901722637330951972001133588410340171829515070372549795153082041682693171599095924669136482522221115460909340263374504591360 : Nat) = 181709681073901722637330951972001133588410340171829515070372549795153082041682693171599095924669136482522221115460909340263374504591359 + 1 from rfl), Fin.mul_comm]
theorem qss (a b : Fp) : qq (a * b) = qq a * qq b := by unfold qq; exact qgq ..
theorem qst : qq 0 = 0 := by unfold qq; exact qi6 (by decide +kernel)
section
variable {u v q f g h k w : Fp}
theorem rq1 (hv : v * w = 1) (hq : q = u * w) : q * v = u := by
 have : q * v = u * (v * w) := by rw [hq]; grind -lia -linarith -order -ac (splits := 0)
 rw [this, hv]; grind -lia -linarith -order -ac (splits := 0)
theorem rq2 (e : q * v = u) (hf : f = g * h) (h1 : v * v * (h * h) = 1) : u * v * (f * f) = q * (g * g) := by
 have : u * v * (f * f) = q * (g * g) * (v * v * (h * h)) := by rw [hf, <- e]; grind -lia -linarith -order -ac (splits := 0)
 rw [this, h1]; grind -lia -linarith -order -ac (splits := 0)
theorem rq3 (e : u * v * (f * f) = k) : v * (u * f * (u * f)) = u * k := by rw [<- e]; grind -lia -linarith -order -ac (splits := 0)
theorem rq4 (e : q * (g * g) = k) : q * g * (q * g) = q * k := by rw [<- e]; grind -lia -linarith -order -ac (splits := 0)
end
theorem qsu {u v : Fp} (hu : u ≠ 0) (hv : v ≠ 0) :
  (u * finv v * qq (u * finv v) * (u * finv v * qq (u * finv v)) = u * finv v -> qL u v = fabs (u * finv v * qq (u * finv v)) /\ v * (u * qq (u * v) * (u * qq (u * v))) = u) /\
  (¬ u * finv v * qq (u * finv v) * (u * finv v * qq (u * finv v)) = u * finv v -> qL u v = fabs (-(u * finv v) * qq (-(u * finv v))) /\ -(u * finv v) * qq (-(u * finv v)) * (-(u * finv v) * qq (-(u * finv v))) = -(u * finv v) /\ ¬ v * (u * qq (u * v) * (u * qq (u * v))) = u) := by
 obtain ⟨w, hw⟩ : ∃ w, w = finv v := ⟨_, rfl⟩
 have hvw := qby hv
 rw [<- hw] at hvw ⊢
 obtain ⟨q, hq⟩ : ∃ q, q = u * w := ⟨_, rfl⟩
 rw [<- hq]
 have hqv := rq1 hvw hq
 have hq0 : q ≠ 0 := by rintro rfl; apply hu; rw [<- hqv]; grind -lia -linarith -order -ac (splits := 0)
 have huv : u * v = q * (v * v) := by rw [<- hqv]; grind -lia -linarith -order -ac (splits := 0)
 have hf : qq (u * v) = qq q * qq (v * v) := by rw [huv, qss]
 have h1 : v * v * (qq (v * v) * qq (v * v)) = 1 := by
  rcases qeB (qF hv hv) with h | h
  ·exact h
  ·exfalso
   refine qgs (v * qq (v * v)) ?_
   rw [<- h]
   generalize qq (v * v) = z
   grind -lia -linarith -order -ac (splits := 0)
 have h2 := rq2 hqv hf h1
 unfold qL
 obtain ⟨f, ef⟩ : ∃ f, f = qq (u * v) := ⟨_, rfl⟩
 obtain ⟨g, eg⟩ : ∃ g, g = qq q := ⟨_, rfl⟩
 obtain ⟨g2, eg2⟩ : ∃ g2, g2 = qq (-q) := ⟨_, rfl⟩
 have hm := qeB hq0
 have hnq : -q ≠ 0 := by
  intro h
  apply hq0
  have e : q = -(-q) := by grind -lia -linarith -order -ac (splits := 0)
  rw [e, h]
  grind -lia -linarith -order -ac (splits := 0)
 have hmn := qeB hnq
 rw [<- ef] at h2 ⊢
 rw [<- eg] at h2 hm ⊢
 rw [<- eg2] at hmn ⊢
 have neg_ne : ∀ z : Fp, z ≠ 0 -> z * -1 ≠ z := by
  intro z hz h
  have : 2 * z = 0 := by grind -lia -linarith -order -ac (splits := 0)
  rcases qaM this with h | h
  ·exact qmC h
  ·exact hz h
 refine ⟨fun h => ?_, fun h => ?_⟩
 ·have hk : q * (g * g) = 1 := by
   rcases hm with h3 | h3
   ·exact h3
   ·exfalso
    rw [rq4 h3] at h
    exact neg_ne q hq0 h
  have h3 := rq3 (h2.trans hk)
  have e1 : v * (u * f * (u * f)) = u := by rw [h3]; grind -lia -linarith -order -ac (splits := 0)
  refine ⟨qg2 ?_, e1⟩
  rw [h]
  exact qau hv (by rw [Fin.mul_comm, e1, hqv])
 ·have hk : q * (g * g) = -1 := by
   rcases hm with h3 | h3
   ·exfalso
    apply h
    rw [rq4 h3]; grind -lia -linarith -order -ac (splits := 0)
   ·exact h3
  have h3 := rq3 (h2.trans hk)
  have hk2 : -q * (g2 * g2) = 1 := by
   rcases hmn with h4 | h4
   ·exact h4
   ·exfalso
    refine qgs (q * g * g2) ?_
    have : q * g * g2 * (q * g * g2) = -(q * (g * g)) * (-q * (g2 * g2)) := by grind -lia -linarith -order -ac (splits := 0)
    rw [this, hk, h4]; grind -lia -linarith -order -ac (splits := 0)
  have e0 : -q * g2 * (-q * g2) = -q := by rw [rq4 hk2]; grind -lia -linarith -order -ac (splits := 0)
  refine ⟨qg2 ?_, e0, ?_⟩
  ·rw [e0]
   refine qau hv ?_
   rw [Fin.mul_comm, h3]
   have : -q * v = -(q * v) := by grind -lia -linarith -order -ac (splits := 0)
   rw [this, hqv]; grind -lia -linarith -order -ac (splits := 0)
  ·rw [h3]; exact neg_ne u hu
theorem qnY (v : Fp) : qL 0 v = 0 /\ v * (0 * qq (0 * v) * (0 * qq (0 * v))) = 0 := by
 have e : (0 : Fp) * qq (0 * v) = 0 := Fin.zero_mul _
 unfold qL
 rw [e, qfb]
 exact ⟨rfl, by grind -lia -linarith -order -ac (splits := 0)⟩
theorem qsv {u : Fp} (hu : u ≠ 0) : qL u 0 = 0 /\ ¬ 0 * (u * qq (u * 0) * (u * qq (u * 0))) = u := by
 have e : u * 0 = 0 := by grind -lia -linarith -order -ac (splits := 0)
 unfold qL
 rw [e, qst, e, qfb]
 refine ⟨rfl, fun h => hu ?_⟩
 rw [<- h]; grind -lia -linarith -order -ac (splits := 0)
theorem qhe (x : Fp) : reEq x [0, 0, 0, 0, 0, 0, 0, 0, 0, 0, 0, 0, 0, 0, 0, 0] = decide (x = 0) := by
 unfold reEq
 apply decide_eq_decide.2
 constructor
 ·rintro ⟨_, _, h⟩
  apply Fin.ext
  have e : valB 268435456 [0, 0, 0, 0, 0, 0, 0, 0, 0, 0, 0, 0, 0, 0, 0, 0] = 0 := by decide
  rw [e] at h
  exact (Int.ofNat_inj.1 h).symm
 ·rintro rfl
  exact ⟨rfl, by decide, by decide⟩
theorem qjV : okRe 0 [0, 0, 0, 0, 0, 0, 0, 0, 0, 0, 0, 0, 0, 0, 0, 0] := ⟨rfl, by decide, by decide⟩
theorem qsw (a : Fp) : pw a (nV qbt - nV [2]) = finv a := by
 unfold finv
 have : nV qbt - nV [2] = pN - 2 := by decide +kernel
 rw [this]
theorem qsx {x : Fp} {xs : List Int} (h : okRe x xs) : xs.getD 0 0 % 2 = ((x.val % 2 : Nat) : Int) := by
 obtain ⟨hl, hd, hv⟩ := h
 match xs, hl with
 | a :: l, _ =>
   simp only [valB] at hv
   simp only [List.getD_cons_zero]
   omega
end Go.Sx
end
section
namespace Go.Sx
def nsm : Nat -> AP -> AP
 | 0, _ => pid
 | n + 1, P => padd (nsm n P) P
theorem qam {P : AP} (h : P.on) : ∀ n, (nsm n P).on
 | 0 => qdM
 | n + 1 => qaw (qam h n) h
theorem qdZ {P : AP} (h : P.on) (m : Nat) : ∀ n, nsm (m + n) P = padd (nsm m P) (nsm n P)
 | 0 => (qeS _).symm
 | n + 1 => by
   show padd (nsm (m + n) P) P = padd (nsm m P) (padd (nsm n P) P)
   rw [qdZ h m n, qbR (qam h m) (qam h n) h]
theorem qn3 {P : AP} (h : P.on) (m : Nat) : nsm (2 * m) P = padd (nsm m P) (nsm m P) := by
 rw [show 2 * m = m + m by omega, qdZ h]
theorem qsz {P : AP} (h : P.on) (m b : Nat) (hb : b < 2) : nsm (2 * m + b) P = if b = 1 then padd (padd (nsm m P) (nsm m P)) P else padd (nsm m P) (nsm m P) := by
 rw [<- qn3 h]
 by_cases e : b = 1
 ·rw [if_pos e, e]; rfl
 ·rw [if_neg e, show b = 0 by omega]; rfl
theorem qsA {P Q : AP} {X1 Y1 Z1 X2 Y2 Z2 : Fp} (hP : P.on) (hQ : Q.on) (z1 : Z1 ≠ 0) (x1 : X1 = P.x * Z1) (y1 : Y1 = P.y * Z1) (z2 : Z2 ≠ 0) (x2 : X2 = Q.x * Z2) (y2 : Y2 = Q.y * Z2) :
  (Z1 * Z2 * (Z1 * Z2) + dF * (X1 * Y2 * (X2 * Y1))) * (Z1 * Z2 * (Z1 * Z2) - dF * (X1 * Y2 * (X2 * Y1))) ≠ 0 /\
  Z1 * Z2 * (X1 * Y2 + X2 * Y1) * (Z1 * Z2 * (Z1 * Z2) - dF * (X1 * Y2 * (X2 * Y1))) = (padd P Q).x * ((Z1 * Z2 * (Z1 * Z2) + dF * (X1 * Y2 * (X2 * Y1))) * (Z1 * Z2 * (Z1 * Z2) - dF * (X1 * Y2 * (X2 * Y1)))) /\
  Z1 * Z2 * (Y1 * Y2 - X1 * X2) * (Z1 * Z2 * (Z1 * Z2) + dF * (X1 * Y2 * (X2 * Y1))) = (padd P Q).y * ((Z1 * Z2 * (Z1 * Z2) + dF * (X1 * Y2 * (X2 * Y1))) * (Z1 * Z2 * (Z1 * Z2) - dF * (X1 * Y2 * (X2 * Y1)))) := by
 have hc := qbr hP hQ
 have hx := qbz hP hQ
 have hy := qbQ hP hQ
 obtain ⟨t, ht⟩ : ∃ t, t = pt P Q := ⟨_, rfl⟩
 have ht2 : t = dF * P.x * Q.x * P.y * Q.y := ht
 rw [<- ht] at hc hx hy
 obtain ⟨u, hu⟩ : ∃ u, u = (padd P Q).x := ⟨_, rfl⟩
 obtain ⟨v, hv⟩ : ∃ v, v = (padd P Q).y := ⟨_, rfl⟩
 rw [<- hu] at hx ⊢
 rw [<- hv] at hy ⊢
 clear hu hv ht hP hQ
 obtain ⟨x, y⟩ := P
 obtain ⟨z, w⟩ := Q
 simp only at *
 generalize dF = d at *
 have e1 : Z1 * Z2 * (Z1 * Z2) + d * (X1 * Y2 * (X2 * Y1)) = Z1 * Z2 * (Z1 * Z2) * (1 + t) := by rw [x1, y1, x2, y2, ht2]; clear hx hy hc; grind -lia -linarith -order -ac (splits := 0)
 have e2 : Z1 * Z2 * (Z1 * Z2) - d * (X1 * Y2 * (X2 * Y1)) = Z1 * Z2 * (Z1 * Z2) * (1 - t) := by rw [x1, y1, x2, y2, ht2]; clear hx hy hc; grind -lia -linarith -order -ac (splits := 0)
 rw [e1, e2]
 have n12 := qF z1 z2
 refine ⟨qF (qF (qF n12 n12) hc.1) (qF (qF n12 n12) hc.2), ?_, ?_⟩
 ·have e3 : Z1 * Z2 * (X1 * Y2 + X2 * Y1) = Z1 * Z2 * (Z1 * Z2) * (u * (1 + t)) := by rw [hx, x1, y1, x2, y2]; clear hx hy hc ht2 e1 e2; grind -lia -linarith -order -ac (splits := 0)
  rw [e3]; clear hx hy hc ht2 e1 e2 e3; grind -lia -linarith -order -ac (splits := 0)
 ·have e3 : Z1 * Z2 * (Y1 * Y2 - X1 * X2) = Z1 * Z2 * (Z1 * Z2) * (v * (1 - t)) := by rw [hy, x1, y1, x2, y2]; clear hx hy hc ht2 e1 e2; grind -lia -linarith -order -ac (splits := 0)
  rw [e3]; clear hx hy hc ht2 e1 e2 e3; grind -lia -linarith -order -ac (splits := 0)
abbrev qbE (b : Int) : Prop := (48 <= b /\ b <= 57) \/ (97 <= b /\ b <= 102)
def hd (b : Int) : Int := if 97 <= b then b - 87 else b - 48
theorem hd_rng {b : Int} (h : qbE b) : 0 <= hd b /\ hd b < 16 := by
 unfold hd; split <;> omega
def hexB (xs : List Int) : List Int := (List.range 56).map fun t => hd (xs.getD (111 - 2 * t) 48) + 16 * hd (xs.getD (110 - 2 * t) 48)
def hexT (xs : List Int) (i : Nat) : List Int := (List.range i).map fun t => hd (xs.getD (111 - 2 * t) 48) + 16 * hd (xs.getD (110 - 2 * t) 48)
theorem hexT_succ (xs : List Int) (i : Nat) : hexT xs (i + 1) = hexT xs i ++ [hd (xs.getD (111 - 2 * i) 48) + 16 * hd (xs.getD (110 - 2 * i) 48)] := by
 unfold hexT; rw [List.range_succ, List.map_append]; rfl
theorem hexT_len (xs : List Int) (i : Nat) : (hexT xs i).length = i := by simp [hexT]
def hexE (xs : List Int) (i : Nat) : List Int := (List.range 56).map fun t => if 2 * t + 1 < i then hd (xs.getD (111 - 2 * t) 48) + 16 * hd (xs.getD (110 - 2 * t) 48) else if 2 * t < i then hd (xs.getD (111 - 2 * t) 48) else 0
theorem hexE_len (xs : List Int) (i : Nat) : (hexE xs i).length = 56 := by simp [hexE]
theorem hexE_get (xs : List Int) (i t : Nat) (ht : t < 56) : (hexE xs i).getD t 0 = if 2 * t + 1 < i then hd (xs.getD (111 - 2 * t) 48) + 16 * hd (xs.getD (110 - 2 * t) 48) else if 2 * t < i then hd (xs.getD (111 - 2 * t) 48) else 0 := by
 simp [hexE, List.getD, ht]
theorem hexE_zero (xs : List Int) : hexE xs 0 = List.replicate 56 0 := by
 apply List.ext_getElem
 ·simp [hexE]
 ·intro i h1 h2
  simp only [hexE, List.getElem_map, List.getElem_range, List.getElem_replicate]
  rw [if_neg (by omega), if_neg (by omega)]
theorem hexE_end (xs : List Int) : hexE xs 112 = hexB xs := by
 unfold hexE hexB
 apply List.map_congr_left
 intro t ht
 rw [List.mem_range] at ht
 rw [if_pos (by omega)]
theorem hexE_even (xs : List Int) {k : Nat} (hk : k < 56) : hexE xs (2 * k + 1) = (hexE xs (2 * k)).set k (hd (xs.getD (111 - 2 * k) 48)) := by
 apply List.ext_getElem
 ·simp [hexE]
 ·intro i h1 h2
  rw [List.getElem_set]
  have hi : i < 56 := by rw [hexE_len] at h1; exact h1
  by_cases e : k = i
  ·subst e
   rw [if_pos rfl]
   simp [hexE]
  ·rw [if_neg e]
   simp only [hexE, List.getElem_map, List.getElem_range]
   by_cases c : 2 * i + 1 < 2 * k
   ·rw [if_pos c, if_pos (by omega)]
   ·rw [if_neg c, if_neg (by omega)]
    by_cases c2 : 2 * i < 2 * k
    ·exfalso; omega
    ·rw [if_neg c2, if_neg (by omega)]
theorem hexE_odd (xs : List Int) {k : Nat} (hk : k < 56) : hexE xs (2 * k + 2) = (hexE xs (2 * k + 1)).set k ((hexE xs (2 * k + 1)).getD k 0 + 16 * hd (xs.getD (110 - 2 * k) 48)) := by
 have g : (hexE xs (2 * k + 1)).getD k 0 = hd (xs.getD (111 - 2 * k) 48) := by
  rw [hexE_get xs _ _ hk, if_neg (by omega), if_pos (by omega)]
 rw [g]
 apply List.ext_getElem
 ·simp [hexE]
 ·intro i h1 h2
  rw [List.getElem_set]
  have hi : i < 56 := by rw [hexE_len] at h1; exact h1
  by_cases e : k = i
  ·subst e
   rw [if_pos rfl]
   simp only [hexE, List.getElem_map, List.getElem_range]
   rw [if_pos (by omega)]
  ·rw [if_neg e]
   simp only [hexE, List.getElem_map, List.getElem_range]
   by_cases c : 2 * i + 1 < 2 * k + 2
   ·rw [if_pos c, if_pos (by omega)]
   ·rw [if_neg c, if_neg (by omega), if_neg (by omega), if_neg (by omega)]
theorem or16 : ∀ a b : Fin 16, binL .or .u8 (a.val : Int) (binL .mul .u8 (b.val : Int) 16) = (a.val : Int) + 16 * (b.val : Int) := by decide +kernel
theorem qn4 {a b : Int} (ha : 0 <= a /\ a < 16) (hb : 0 <= b /\ b < 16) : binL .or .u8 a (binL .mul .u8 b 16) = a + 16 * b := by
 have h := or16 ⟨a.toNat, by omega⟩ ⟨b.toNat, by omega⟩
 simp only at h
 rw [show ((a.toNat : Nat) : Int) = a by omega, show ((b.toNat : Nat) : Int) = b by omega] at h
 exact h
def baseP : AP := ⟨fI 224580040295924300187604334099896036246789641632564134246125461686950415467406032909029192869357953282578032075146446173674602635247710, fI 298819210078481492676017930443930673437544040154080242095928241372331506189835876003536878655418784733982303233503462500531545062832660⟩
theorem qd0 : baseP.on := by unfold baseP AP.on; decide +kernel
def torP (n : Int) : AP := if n = 1 then ⟨fI 1, fI 0⟩ else if n = 2 then ⟨fI 0, -fI 1⟩ else if n = 3 then ⟨-fI 1, fI 0⟩ else ⟨fI 0, fI 1⟩
theorem qhg (n : Int) : (torP n).on := by
 unfold torP
 split
 ·unfold AP.on; decide +kernel
 split
 ·unfold AP.on; decide +kernel
 split
 ·unfold AP.on; decide +kernel
 ·unfold AP.on; decide +kernel
def codB (P : AP) : List Int := qA P.y ++ [if P.x.val % 2 = 1 then 128 else 0]
theorem qhh (P : AP) : (codB P).length = 57 := by simp [codB, qaV]
theorem qsB {P : AP} {x1 : List Int} {X Y Z : Fp} (h1 : okRe X x1) (h : P.on) (hz : Z ≠ 0) (hx : X = P.x * Z) (hy : Y = P.y * Z) : qdw [.row .i64 16 x1, .ab (.re Y), .ab (.re Z)] (.rp P) := by
 intro ρ H us hr
 obtain ⟨u1, w1, rfl, h1', r1⟩ := RepC_cons.1 hr
 obtain ⟨u2, w2, rfl, h2, r2⟩ := RepC_cons.1 r1
 obtain ⟨u3, w3, rfl, h3, r3⟩ := RepC_cons.1 r2
 simp only [RepC] at r3
 subst r3
 simp only [Rep] at h1' h2 h3
 obtain ⟨_, rfl⟩ := h1'
 obtain ⟨b, rfl, h2⟩ := h2
 obtain ⟨c, rfl, h3⟩ := h3
 exact ⟨x1 ++ (b ++ c), by simp [Pay.k], h, X, Y, Z, x1, b, c, rfl, h1, h2, h3, hz, hx, hy⟩
end Go.Sx
end
section
namespace Go.Sx
theorem rr1 (U x d : Fp) : U * x * x * d = d * (U * (x * x)) := by grind -lia -linarith -order -ac (splits := 0)
theorem rr2 (r U q : Fp) : r * U * q = r * (U * q) := by grind -lia -linarith -order -ac (splits := 0)
theorem rr3 (r x q d : Fp) : r * x * q * d = d * (r * (x * q)) := by grind -lia -linarith -order -ac (splits := 0)
theorem qsH (P : AP) {z u r w : Fp} (hz : z = P.x * P.y) (hu : u = (P.x + z) * (P.x - z)) (hr : r = qL (fI 1) (fI 39082 * (u * (P.x * P.x)))) (hw : w = fabs (r * (u * qax))) : fabs (fI 39082 * (r * (P.x * (qay * w - z)))) = encF P := by
 subst hz
 rw [qjH] at hr ⊢
 rw [qjK P (r2 := r) (w2 := w) hu (by rw [hr, rr1]) (by rw [hw, rr2]), rr3]
def codY (bs : List Int) : Fp := fI (qw (bs.take 56))
def codU (bs : List Int) : Fp := codY bs * codY bs - fI 1
def codV (bs : List Int) : Fp := codY bs * codY bs * fI (-39081) - fI 1
def codX (bs : List Int) : Fp := if bs.getD 56 0 / 128 % 2 = 0 then qL (codU bs) (codV bs) else -qL (codU bs) (codV bs)
def qd2 (bs : List Int) : Bool := decide (codV bs * (codU bs * qq (codU bs * codV bs) * (codU bs * qq (codU bs * codV bs))) = codU bs)
def qaP (bs : List Int) : AP := ⟨codX bs, codY bs⟩
def qaE (bs : List Int) : Bool := bs.length == 57 && (decide (qw (bs.take 56) < 726838724295606890549323807888004534353641360687318060281490199180612328166730772686396383698676545930088884461843637361053498018365439) && ((bs.getD 56 0 == 0 || bs.getD 56 0 == 128) && (qd2 bs && (!(decide (qL (codU bs) (codV bs) = 0) && bs.getD 56 0 == 128) && decide (qaP bs).on))))
end Go.Sx
end
section
namespace Go.Sx
theorem cr1 (x y d : Fp) (h : x * x + y * y = 1 + d * x * x * y * y) : x * x * (y * y * d - 1) = y * y - 1 := by grind -lia -linarith -order -ac (splits := 0)
theorem cr2 (y d : Fp) (h : y * y * d - 1 = 0) : d * (y * y) = 1 * 1 := by grind -lia -linarith -order -ac (splits := 0)
theorem qsQ {u v x : Fp} (hv : v ≠ 0) (hx : x * x * v = u) : qL u v = fabs x /\ v * (u * qq (u * v) * (u * qq (u * v))) = u := by
 by_cases hu : u = 0
 ·subst hu
  have hx0 : x = 0 := by
   rcases qaM hx with h | h
   ·exact qgM h
   ·exact absurd h hv
  rw [hx0, qfb]
  exact qnY v
 ·have huv : u * v = x * v * (x * v) := by rw [<- hx]; grind -lia -linarith -order -ac (splits := 0)
  have h2 := qeB (qF hu hv)
  have h1 : u * v * (qq (u * v) * qq (u * v)) = 1 := by
   rcases h2 with h | h
   ·exact h
   ·exfalso
    refine qgs (x * v * qq (u * v)) ?_
    rw [<- h]
    generalize qq (u * v) = f at *
    have : x * v * f * (x * v * f) = x * v * (x * v) * (f * f) := by grind -lia -linarith -order -ac (splits := 0)
    rw [this, <- huv]
  unfold qL
  generalize qq (u * v) = f at *
  have e1 := rq3 h1
  have e2 : u * 1 = u := by grind -lia -linarith -order -ac (splits := 0)
  rw [e2] at e1
  refine ⟨qg2 (qau hv ?_), e1⟩
  rw [Fin.mul_comm, e1, hx]
theorem qsR {x : Fp} (h : x.val % 2 = 1) : -fabs x = x := by
 unfold fabs; rw [if_pos h]; grind -lia -linarith -order -ac (splits := 0)
theorem qsS {P : AP} (h : P.on) : qaE (codB P) = true /\ qaP (codB P) = P := by
 obtain ⟨x, y⟩ := P
 have hon : x * x + y * y = 1 + dF * x * x * y * y := h
 have ht : (codB ⟨x, y⟩).take 56 = qA y := by
  unfold codB
  rw [List.take_append_of_le_length (by rw [qaV]; exact Nat.le_refl _), List.take_of_length_le (by rw [qaV]; exact Nat.le_refl _)]
 have h56 : (codB ⟨x, y⟩).getD 56 0 = if x.val % 2 = 1 then 128 else 0 := by
  unfold codB
  rw [List.getD_eq_getElem?_getD, List.getElem?_append_right (by rw [qaV]; exact Nat.le_refl _), qaV]; rfl
 have hy : codY (codB ⟨x, y⟩) = y := by unfold codY; rw [ht, qeY]; exact qcY y
 have hlt : qw ((codB ⟨x, y⟩).take 56) < 726838724295606890549323807888004534353641360687318060281490199180612328166730772686396383698676545930088884461843637361053498018365439 := by
  rw [ht, qeY]; exact Int.ofNat_lt.2 y.isLt
 have hv0 : codV (codB ⟨x, y⟩) ≠ 0 := by
  unfold codV
  rw [hy, qaD, fI_d]
  intro e
  have y0 := d_sq (cr2 y dF e)
  rw [y0] at e
  apply qbM
  generalize dF = d at e
  have : (1 : Fp) = -(0 * 0 * d - 1) := by grind -lia -linarith -order -ac (splits := 0)
  rw [this, e]; grind -lia -linarith -order -ac (splits := 0)
 have hxv : x * x * codV (codB ⟨x, y⟩) = codU (codB ⟨x, y⟩) := by
  unfold codV codU
  rw [hy, qaD, fI_d]
  exact cr1 x y dF hon
 obtain ⟨r1, r2⟩ := qsQ hv0 hxv
 have hX : codX (codB ⟨x, y⟩) = x := by
  unfold codX
  rw [h56, r1]
  by_cases ho : x.val % 2 = 1
  ·rw [if_pos ho, if_neg (by decide)]; exact qsR ho
  ·rw [if_neg ho, if_pos (by decide)]; exact qnE ho
 have hpt : qaP (codB ⟨x, y⟩) = ⟨x, y⟩ := by unfold qaP; rw [hX, hy]
 refine ⟨?_, hpt⟩
 unfold qaE
 rw [hpt, decide_eq_true h, qhh, decide_eq_true hlt, show qd2 (codB ⟨x, y⟩) = true from decide_eq_true r2, r1, h56]
 by_cases ho : x.val % 2 = 1
 ·have hx0 : fabs x ≠ 0 := by
   intro e
   have : x = 0 := by
    have h2 := qbB x
    rw [e] at h2
    exact qgM (by rw [<- h2]; grind -lia -linarith -order -ac (splits := 0))
   rw [this] at ho
   exact absurd ho (by decide)
  rw [if_pos ho, decide_eq_false hx0]; rfl
 ·rw [if_neg ho]; simp
def spP (K : List Int) (T : Int) : AP := padd (nsm (nV K) baseP) (torP T)
theorem qfr (K : List Int) (T : Int) : (spP K T).on := qaw (qam qd0 _) (qhg _)
theorem qn7 : Ev pid := ⟨0, by unfold pid; simp only; generalize dF = d; grind -lia -linarith -order -ac (splits := 0)⟩
theorem qsT : encF pid = 0 := by
 rw [qjK pid rfl rfl rfl]
 have : ∀ r q : Fp, r * pid.x * q * (1 - dF) = 0 := by
  intro r q; show r * 0 * q * (1 - dF) = 0; generalize dF = d; grind -lia -linarith -order -ac (splits := 0)
 rw [this, qfb]
theorem qsU : qA 0 = List.replicate 56 0 := by rw [qg8]; decide +kernel
theorem qsV (x : Fp) : fI (qw (qA x)) = x := by rw [qeY]; exact qcY x
theorem qn8 {P : AP} (hP : P.on) (hev : Ev P) : qaW (qA (encF P)) = true /\ (qaq (qA (encF P))).on /\ (qaq (qA (encF P))).x * P.y = (qaq (qA (encF P))).y * P.x := by
 obtain ⟨h1, h2, h3⟩ := qrY hP hev
 have e := qsV (encF P)
 have hl : qw (qA (encF P)) < 726838724295606890549323807888004534353641360687318060281490199180612328166730772686396383698676545930088884461843637361053498018365439 := by
  rw [qeY]; exact Int.ofNat_lt.2 (encF P).isLt
 have hodd : ¬ (encF P).val % 2 = 1 := by unfold encF; exact qrK _
 refine ⟨?_, ?_, ?_⟩
 ·unfold qaW
  rw [e, qaV, decide_eq_true hl, decide_eq_false hodd, h1, decide_eq_true h2]; rfl
 ·unfold qaq; rw [e]; exact h2
 ·unfold qaq; rw [e]; exact h3
theorem aw1 (x : Fp) (h : x * 1 = 0) : x = 0 := by rw [<- h]; grind -lia -linarith -order -ac (splits := 0)
theorem qsW : (qaq (qA (encF pid))).x = 0 /\ (qaq (qA (encF pid))).y * (qaq (qA (encF pid))).y = 1 := by
 obtain ⟨_, h2, h3⟩ := qn8 qdM qn7
 obtain ⟨⟨x, y⟩, hx⟩ : ∃ Q, Q = qaq (qA (encF pid)) := ⟨_, rfl⟩
 rw [<- hx] at h2 h3 ⊢
 have h4 : x * 1 = y * 0 := h3
 have hx0 : x = 0 := by refine aw1 x ?_; rw [h4]; grind -lia -linarith -order -ac (splits := 0)
 subst hx0
 have h5 : (0 : Fp) * 0 + y * y = 1 + dF * 0 * 0 * y * y := h2
 refine ⟨rfl, ?_⟩
 show y * y = 1
 have e1 : (0 : Fp) * 0 + y * y = y * y := by grind -lia -linarith -order -ac (splits := 0)
 have e2 : 1 + dF * 0 * 0 * y * y = 1 := by generalize dF = d; grind -lia -linarith -order -ac (splits := 0)
 rw [<- e1, h5, e2]
theorem qsX : (padd baseP baseP).x ≠ 0 := by
 intro h
 have h1 := qbz qd0 qd0
 rw [h] at h1
 have : baseP.x * baseP.y + baseP.x * baseP.y ≠ 0 := by unfold baseP; decide +kernel
 apply this
 rw [<- h1]; exact Fin.zero_mul _
theorem qsY {P E : AP} (hE : E.x = 0) : (padd P E).x * P.y = (padd P E).y * P.x := by
 have hp : pt P E = 0 := by unfold pt; rw [hE]; generalize dF = d; grind -lia -linarith -order -ac (splits := 0)
 have e1 : (1 : Fp) + 0 = 1 := by grind -lia -linarith -order -ac (splits := 0)
 have e2 : (1 : Fp) - 0 = 1 := by grind -lia -linarith -order -ac (splits := 0)
 unfold padd
 simp only
 rw [hp, hE, e1, e2, qm5]
 grind -lia -linarith -order -ac (splits := 0)
end Go.Sx
end
section

end
section
namespace Go.Sx
theorem qoG (P Q : AP) : pneg (padd P Q) = padd (pneg P) (pneg Q) := by
 have hp : pt (pneg P) (pneg Q) = pt P Q := by unfold pt pneg; simp only; generalize dF = d; grind -lia -linarith -order -ac (splits := 0)
 unfold padd
 rw [hp]
 unfold pneg
 simp only
 apply AP.ext
 ·show -((P.x * Q.y + Q.x * P.y) * finv (1 + pt P Q)) = (-P.x * Q.y + -Q.x * P.y) * finv (1 + pt P Q)
  generalize finv (1 + pt P Q) = f; grind -lia -linarith -order -ac (splits := 0)
 ·show (P.y * Q.y - P.x * Q.x) * finv (1 - pt P Q) = (P.y * Q.y - -P.x * -Q.x) * finv (1 - pt P Q)
  generalize finv (1 - pt P Q) = f; grind -lia -linarith -order -ac (splits := 0)
theorem qhU {a b c e : AP} (ha : a.on) (hb : b.on) (hc : c.on) (he : e.on) : padd (padd a b) (padd c e) = padd (padd a c) (padd b e) := by
 rw [qbR ha hb (qaw hc he), <- qbR hb hc he, qgN b c, qbR hc hb he, <- qbR ha hc (qaw hb he)]
instance (P Q : AP) : Decidable (P = Q) := if hx : P.x = Q.x then if hy : P.y = Q.y then .isTrue (AP.ext hx hy) else .isFalse fun h => hy (by rw [h]) else .isFalse fun h => hx (by rw [h])
end Go.Sx
end
