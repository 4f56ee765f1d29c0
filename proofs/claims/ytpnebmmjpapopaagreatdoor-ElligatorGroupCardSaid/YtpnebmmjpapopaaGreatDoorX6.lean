/-
  Part of the proof of a statement: the means.
-/
import Derived.Test.YtpnebmmjpapopaaGreatDoorX5
import Derived.Test.YtpnebmmjpapopaaGreatDoorX31
set_option linter.unusedSectionVars false
set_option linter.unusedVariables false
set_option linter.unusedSimpArgs false
set_option linter.deprecated false
section
namespace Go.Sx
theorem qba (a : Fp) : fabs a * fabs a = a * a := by
 unfold fabs; split
 ·grind -lia -linarith -order -ac (splits := 0)
 ·rfl
theorem qi9 {a : Fp} (h : a ≠ 0) : (-a).val = pN - a.val := by
 have h0 : a.val ≠ 0 := fun e => h (Fin.ext e)
 have h1 := a.isLt
 rw [Fin.val_neg]
 rw [if_neg h]
theorem qnk (a : Fp) : fabs (-a) = fabs a := by
 by_cases h : a = 0
 ·rw [h]
  have : -(0 : Fp) = 0 := by grind -lia -linarith -order -ac (splits := 0)
  rw [this]
 have h1 := qi9 h
 have h2 := a.isLt
 have h3 : pN % 2 = 1 := by decide +kernel
 unfold fabs
 rw [h1]
 have nn : -(-a) = a := by grind -lia -linarith -order -ac (splits := 0)
 by_cases h4 : a.val % 2 = 1
 ·rw [if_pos h4, if_neg (by omega)]
 ·rw [if_neg h4, if_pos (by omega), nn]
theorem qja {a b : Fp} (h : a * a = b * b) : fabs a = fabs b := by
 rcases qiA h with h | h
 ·rw [h]
 ·rw [h, qnk]
theorem qrN (a : Fp) : ¬ (fabs a).val % 2 = 1 := by
 unfold fabs
 by_cases h4 : a.val % 2 = 1
 ·rw [if_pos h4]
  have h : a ≠ 0 := by rintro rfl; exact absurd h4 (by decide)
  have h1 := qi9 h
  have h2 := a.isLt
  have h3 : pN % 2 = 1 := by decide +kernel
  omega
 ·rw [if_neg h4]; exact h4
theorem qrO {a : Fp} (h : ¬ a.val % 2 = 1) : fabs a = a := if_neg h
theorem qnl : fabs 0 = 0 := qrO (by decide)
theorem qjb {c m : Fp} (hc : c ≠ 0) (hm : m = c * c) : qa9 (fI 1) m * qa9 (fI 1) m * m = 1 := by
 have hm0 : m ≠ 0 := by rw [hm]; exact qC hc hc
 have h := qiB hm0
 unfold qa9
 rw [qba, qZ]
 have e1 : (1 : Fp) * m = m := by grind -lia -linarith -order -ac (splits := 0)
 rw [e1]
 rcases h with h | h
 ·generalize qz m = f at *
  grind -lia -linarith -order -ac (splits := 0)
 ·exfalso
  refine qiC (c * qz m) ?_
  rw [<- h]
  generalize qz m = f at *
  grind -lia -linarith -order -ac (splits := 0)
theorem rootD_sq : qaH * qaH = 39081 := by
 unfold qaH
 rw [qba, qgK pw_d]
 decide +kernel
theorem qrP : qaI * qaI * 39081 = 1 := by
 unfold qaI
 rw [qba, qgK pw_e]
 have h := qaw d_ne
 have e : fI 39081 = 39081 := by decide +kernel
 rw [e] at h ⊢
 generalize finv 39081 = f at *
 grind -lia -linarith -order -ac (splits := 0)
theorem qjc : (39081 : Fp) = -dF := by decide +kernel
theorem qnm : fI 156324 = -(4 * dF) := by decide +kernel
theorem qnn : fI 39082 = 1 - dF := by decide +kernel
theorem qgR : (1 : Fp) - dF ≠ 0 := by decide +kernel
theorem qjd : (4 : Fp) ≠ 0 := by decide +kernel
section
variable {s t a w r W C d X Y U r2 w2 v2 : Fp}
theorem rt1 (h1 : r * r * (w * (a * a)) = 1) (hW : W * W = 4 * t * (r * r) * (a * a) * -d) (hC : C * C * -d = 1) (hX : X = W * r * w * C) : X * X * (a * a) = 4 * t := by
 have e : X * X * (a * a) = W * W * (r * r * w * w * (C * C) * (a * a)) := by rw [hX]; grind -lia -linarith -order -ac (splits := 0)
 rw [e, hW]
 have e2 : 4 * t * (r * r) * (a * a) * -d * (r * r * w * w * (C * C) * (a * a)) = 4 * t * (r * r * (w * (a * a))) * (r * r * (w * (a * a))) * (C * C * -d) := by grind -lia -linarith -order -ac (splits := 0)
 rw [e2, h1, hC]; grind -lia -linarith -order -ac (splits := 0)
end
end Go.Sx
end
section
namespace Go.Sx
theorem qdT (a b c : Fp) : qA [a, b, c] = a * b * c := by simp only [qA, List.foldl, qZ]; grind -lia -linarith -order -ac (splits := 0)
theorem qrQ (a b c e : Fp) : qA [a, b, c, e] = a * b * c * e := by simp only [qA, List.foldl, qZ]; grind -lia -linarith -order -ac (splits := 0)
theorem qrR (a b c e f : Fp) : qA [a, b, c, e, f] = a * b * c * e * f := by simp only [qA, List.foldl, qZ]; grind -lia -linarith -order -ac (splits := 0)
theorem qrS (s r a q d : Fp) (h : q * q = -d) : 2 * s * r * a * q * (2 * s * r * a * q) = 4 * (s * s) * (r * r) * (a * a) * -d := by rw [<- h]; grind -lia -linarith -order -ac (splits := 0)
theorem qrT (r U q d : Fp) (h : q * q = -d) : r * U * q * (r * U * q) = r * U * (r * U) * -d := by rw [<- h]; grind -lia -linarith -order -ac (splits := 0)
theorem qrU (P : AP) {U r2 w2 : Fp} (hU : U = (P.x + P.x * P.y) * (P.x - P.x * P.y)) (h2 : r2 = qa9 (fI 1) (U * P.x * P.x * (1 - dF))) (hw : w2 = fabs (r2 * U * qaH)) : encF P = fabs (r2 * P.x * (qaI * w2 - P.x * P.y) * (1 - dF)) := by
 have e1 : qA [U, P.x, P.x] * fI 39082 = U * P.x * P.x * (1 - dF) := by rw [qdT, qnn]
 unfold encF
 rw [<- hU, e1, <- h2]
 have e2 : qA [r2, U, qaH] = r2 * U * qaH := qdT ..
 rw [e2, <- hw]
 have e3 : qA [r2, P.x, qaI * w2 - P.x * P.y] * fI 39082 = r2 * P.x * (qaI * w2 - P.x * P.y) * (1 - dF) := by rw [qdT, qnn]
 rw [e3]
section
variable {s a w r W : Fp} (ha : a = 1 + s * s) (hw : w = a * a - 4 * dF * (s * s)) (hr : r = decR s)
include ha hw
theorem qno : qA [(fI 1 + s * s) * (fI 1 + s * s) + s * s * fI 156324, fI 1 + s * s, fI 1 + s * s] = w * (a * a) := by
 simp only [qA, List.foldl, qnm, qZ, hw, ha]; generalize dF = d; grind -lia -linarith -order -ac (splits := 0)
theorem qnp : decR s = qa9 (fI 1) (w * (a * a)) := by
 unfold decR; rw [qno ha hw]
theorem qrV : qdQ s = true ↔ decR s * decR s * (w * (a * a)) = 1 := by
 rw [qnp ha hw]
 unfold qdQ qa9
 rw [qno ha hw, qba, decide_eq_true_eq, qZ]
 generalize 1 * qz (1 * (w * (a * a))) = z
 constructor
 ·intro h; rw [<- h]; grind -lia -linarith -order -ac (splits := 0)
 ·intro h; rw [<- h]; grind -lia -linarith -order -ac (splits := 0)
include hr
theorem qrW (hW : W = fabs (2 * s * r * a * qaH)) : decX s = W * r * w * qaI := by
 have e : qA [fI 2, s, r, a, qaH] = 2 * s * r * a * qaH := by rw [qrR, fI_2]
 have e2 : (fI 1 + s * s) * (fI 1 + s * s) + s * s * fI 156324 = w := by
  rw [hw, ha, qnm, qZ]; generalize dF = d; grind -lia -linarith -order -ac (splits := 0)
 unfold decX
 rw [e2, <- hr, show fI 1 + s * s = a by rw [ha, qZ], e, <- hW]
 exact qrQ ..
theorem qrX : decY s = (1 - s * s) * r * a := by
 unfold decY
 rw [<- hr, show fI 1 + s * s = a by rw [ha, qZ]]
 simp only [qA, List.foldl, qZ]; grind -lia -linarith -order -ac (splits := 0)
end
theorem qgS : qaI * qaI * -dF = 1 := by rw [<- qjc]; exact qrP
theorem W_sq {s r a W : Fp} (hW : W = fabs (2 * s * r * a * qaH)) : W * W = 4 * (s * s) * (r * r) * (a * a) * -dF := by
 rw [hW, qba]
 exact qrS _ _ _ _ _ (rootD_sq.trans qjc)
theorem qrY {r U w : Fp} (hw : w = fabs (r * U * qaH)) : w * w = r * U * (r * U) * -dF := by
 rw [hw, qba]
 exact qrT _ _ _ _ (rootD_sq.trans qjc)
theorem qrZ {a b w v : Fp} (hw : w = fabs a) (hv : v = fabs b) (h : w * w = v * v) : w = v := by
 rw [hw, hv] at h ⊢
 rw [qba, qba] at h
 exact qja h
def Ev (P : AP) : Prop := ∃ g, (1 - P.y * P.y) * (1 - dF) = g * g
theorem qr0 : bp pN 0 (39082, 0) 448 363419362147803445274661903944002267176820680343659030140745099590306164083365386343198191849338272965044442230921818680526749009182719 = (726838724295606890549323807888004534353641360687318060281490199180612328166730772686396383698676545930088884461843637361053498018365438, 0) := by decide +kernel
theorem qr1 : pw (1 - dF) 363419362147803445274661903944002267176820680343659030140745099590306164083365386343198191849338272965044442230921818680526749009182719 = -1 := by
 have hg := qbZ (q := pN) (n := pN) (Nat.dvd_refl _) 0 (39082, 0) 448 363419362147803445274661903944002267176820680343659030140745099590306164083365386343198191849338272965044442230921818680526749009182719 (by decide +kernel)
 rw [qr0] at hg
 simp only [toQ, ofNat_zero, qbJ] at hg
 have h1 := congrArg Prod.fst hg
 simp only at h1
 have e : 1 - dF = Fin.ofNat pN 39082 := by decide +kernel
 rw [e, <- h1]
 decide +kernel
theorem qr2 (b : Fp) : 1 - dF ≠ b * b := qeF qr1
section
variable {x y d g U r2 w2 c C e t a w r W X Y f : Fp}
theorem qa1 (hU : U = (x + x * y) * (x - x * y)) : U = x * x * (1 - y * y) := by rw [hU]; grind -lia -linarith -order -ac (splits := 0)
theorem qa2 (hU : U = x * x * (1 - y * y)) (hg : (1 - y * y) * (1 - d) = g * g) : U * x * x * (1 - d) = x * x * g * (x * x * g) := by
 have e1 : U * x * x * (1 - d) = x * x * (x * x) * ((1 - y * y) * (1 - d)) := by rw [hU]; grind -lia -linarith -order -ac (splits := 0)
 rw [e1, hg]; grind -lia -linarith -order -ac (splits := 0)
theorem qb1 (hU : U = x * x * (1 - y * y)) (h2 : r2 * r2 * (U * x * x * (1 - d)) = 1) (hw2 : w2 * w2 = r2 * U * (r2 * U) * -d) (hC : C * C * -d = 1) (hc : c = C * w2) : c * c * (1 - d) = 1 - y * y := by
 have e1 : c * c * (1 - d) = C * C * (w2 * w2) * (1 - d) := by rw [hc]; grind -lia -linarith -order -ac (splits := 0)
 rw [e1, hw2]
 have e2 : C * C * (r2 * U * (r2 * U) * -d) * (1 - d) = (C * C * -d) * (r2 * r2 * U * U * (1 - d)) := by grind -lia -linarith -order -ac (splits := 0)
 rw [e2, hC]
 have e3 : 1 * (r2 * r2 * U * U * (1 - d)) = r2 * r2 * (U * x * x * (1 - d)) * (1 - y * y) := by
  have : r2 * r2 * (U * x * x * (1 - d)) * (1 - y * y) = r2 * r2 * U * (x * x * (1 - y * y)) * (1 - d) := by grind -lia -linarith -order -ac (splits := 0)
  rw [this, <- hU]; grind -lia -linarith -order -ac (splits := 0)
 rw [e3, h2]; grind -lia -linarith -order -ac (splits := 0)
theorem qb2 (hon : x * x + y * y = 1 + d * x * x * y * y) (hd : 1 - d ≠ 0) (hb : c * c * (1 - d) = 1 - y * y) (hc0 : c * c ≠ 0) (he : e * c = x * y) : e * e = 1 - x * x := by
 refine qas (qC hc0 hd) ?_
 have e1 : e * e * (c * c * (1 - d)) = e * c * (e * c) * (1 - d) := by grind -lia -linarith -order -ac (splits := 0)
 rw [e1, he, hb]; grind -lia -linarith -order -ac (splits := 0)
theorem qb3 (hU : U = x * x * (1 - y * y)) (h2 : r2 * r2 * (U * x * x * (1 - d)) = 1) (hb : c * c * (1 - d) = 1 - y * y) (he : e * c = x * y) (ht : t = r2 * x * (c - x * y) * (1 - d) * (r2 * x * (c - x * y) * (1 - d))) : t * (x * x) = (1 - e) * (1 - e) := by
 have e0 : r2 * r2 * (x * x * (x * x)) * (c * c) * ((1 - d) * (1 - d)) = 1 := by
  rw [<- h2, hU, <- hb]; grind -lia -linarith -order -ac (splits := 0)
 have e1 : t * (x * x) = (1 - e) * (1 - e) * (r2 * r2 * (x * x * (x * x)) * (c * c) * ((1 - d) * (1 - d))) := by rw [ht, <- he]; grind -lia -linarith -order -ac (splits := 0)
 rw [e1, e0]; grind -lia -linarith -order -ac (splits := 0)
theorem qb4 (hx : x * x ≠ 0) (hee : e * e = 1 - x * x) (ht : t * (x * x) = (1 - e) * (1 - e)) : 1 + e ≠ 0 /\ 1 - e ≠ 0 /\ t * (1 + e) = 1 - e := by
 have e0 : x * x = (1 - e) * (1 + e) := by
  have : (1 - e) * (1 + e) = 1 - e * e := by grind -lia -linarith -order -ac (splits := 0)
  rw [this, hee]; grind -lia -linarith -order -ac (splits := 0)
 have h1 : 1 + e ≠ 0 := fun h => hx (by rw [e0, h]; grind -lia -linarith -order -ac (splits := 0))
 have h2 : 1 - e ≠ 0 := fun h => hx (by rw [e0, h]; grind -lia -linarith -order -ac (splits := 0))
 refine ⟨h1, h2, qas h2 ?_⟩
 have e1 : t * (1 + e) * (1 - e) = t * (x * x) := by rw [e0]; grind -lia -linarith -order -ac (splits := 0)
 rw [e1, ht]
theorem qb5 (ha : a = 1 + t) (hw : w = a * a - 4 * d * t) (hee : e * e = 1 - x * x) (ht : t * (1 + e) = 1 - e) : a * (1 + e) = 2 /\ w * ((1 + e) * (1 + e)) = 4 * (1 - d * (x * x)) := by
 have e1 : a * (1 + e) = 2 := by
  have : a * (1 + e) = 1 + e + t * (1 + e) := by rw [ha]; grind -lia -linarith -order -ac (splits := 0)
  rw [this, ht]; grind -lia -linarith -order -ac (splits := 0)
 refine ⟨e1, ?_⟩
 have e2 : w * ((1 + e) * (1 + e)) = a * (1 + e) * (a * (1 + e)) - 4 * d * (t * (1 + e)) * (1 + e) := by rw [hw]; grind -lia -linarith -order -ac (splits := 0)
 rw [e2, e1, ht]
 have e3 : x * x = 1 - e * e := by rw [hee]; grind -lia -linarith -order -ac (splits := 0)
 rw [e3]; grind -lia -linarith -order -ac (splits := 0)
theorem qb6 (hon : x * x + y * y = 1 + d * x * x * y * y) (hee : e * e = 1 - x * x) : y * y * (1 - d * (x * x)) = e * e := by
 rw [hee]; grind -lia -linarith -order -ac (splits := 0)
theorem qb7 (h1 : 1 + e ≠ 0) (hy : y ≠ 0) (hf : (1 + e) * (1 + e) * y * f = 1) (ha : a * (1 + e) = 2) (hw : w * ((1 + e) * (1 + e)) = 4 * (1 - d * (x * x))) (h6 : y * y * (1 - d * (x * x)) = e * e) : w * (a * a) = 4 * e * f * (4 * e * f) := by
 have n := qC (qC h1 h1) hy
 refine qas (qC n n) ?_
 have e1 : w * (a * a) * ((1 + e) * (1 + e) * y * ((1 + e) * (1 + e) * y)) = w * ((1 + e) * (1 + e)) * (a * (1 + e)) * (a * (1 + e)) * (y * y) := by grind -lia -linarith -order -ac (splits := 0)
 have e2 : 4 * e * f * (4 * e * f) * ((1 + e) * (1 + e) * y * ((1 + e) * (1 + e) * y)) = 16 * (e * e) * ((1 + e) * (1 + e) * y * f) * ((1 + e) * (1 + e) * y * f) := by grind -lia -linarith -order -ac (splits := 0)
 rw [e1, e2, hf, ha, hw, <- h6]; grind -lia -linarith -order -ac (splits := 0)
theorem qb8 (hon : x * x + y * y = 1 + d * x * x * y * y) (hd : 1 - d ≠ 0) (hb : c * c * (1 - d) = 1 - y * y) : c * c * (1 - d * (x * x)) = x * x := by
 refine qas hd ?_
 have e1 : c * c * (1 - d * (x * x)) * (1 - d) = c * c * (1 - d) * (1 - d * (x * x)) := by grind -lia -linarith -order -ac (splits := 0)
 rw [e1, hb]; grind -lia -linarith -order -ac (splits := 0)
theorem qb9 (hr : r * r * (w * (a * a)) = 1) (h1 : 1 + e ≠ 0) (hee : e * e = 1 - x * x) (ht : t * (1 + e) = 1 - e) (hw : w * ((1 + e) * (1 + e)) = 4 * (1 - d * (x * x))) (h8 : c * c * (1 - d * (x * x)) = x * x) (hn : 1 - d * (x * x) ≠ 0) : 4 * t * (r * r) * (a * a) = c * c := by
 refine qas (qC qjd hn) ?_
 have e1 : 4 * t * (r * r) * (a * a) * (4 * (1 - d * (x * x))) = 4 * (t * (1 + e)) * (1 + e) * (r * r * (w * (a * a))) := by rw [<- hw]; grind -lia -linarith -order -ac (splits := 0)
 have e2 : c * c * (4 * (1 - d * (x * x))) = 4 * (c * c * (1 - d * (x * x))) := by grind -lia -linarith -order -ac (splits := 0)
 have e3 : x * x = 1 - e * e := by rw [hee]; grind -lia -linarith -order -ac (splits := 0)
 rw [e1, e2, h8, ht, hr, e3]; grind -lia -linarith -order -ac (splits := 0)
theorem qb10 (hC : C * C * -d = 1) (hc : c = C * w2) : w2 * w2 = c * c * -d := by
 have : c * c * -d = w2 * w2 * (C * C * -d) := by rw [hc]; grind -lia -linarith -order -ac (splits := 0)
 rw [this, hC]; grind -lia -linarith -order -ac (splits := 0)
theorem qb11 (hr : r * r * (w * (a * a)) = 1) (ha0 : a ≠ 0) (h1 : 1 + e ≠ 0) (ha : a * (1 + e) = 2) (ht : t * (1 + e) = 1 - e) (hX : X = W * r * w * C) (hY : Y = (1 - t) * r * a) (hW : C * W = c) (he : e * c = x * y) : X * Y = x * y := by
 refine qas (qC ha0 h1) ?_
 have e1 : X * Y * (a * (1 + e)) = C * W * (r * r * (w * (a * a))) * ((1 + e) - t * (1 + e)) := by rw [hX, hY]; grind -lia -linarith -order -ac (splits := 0)
 rw [e1, hW, hr, ht, ha, <- he]; grind -lia -linarith -order -ac (splits := 0)
theorem qb12 (hx : X * X * (a * a) = 4 * t) (h1 : 1 + e ≠ 0) (ha : a * (1 + e) = 2) (hee : e * e = 1 - x * x) (ht : t * (1 + e) = 1 - e) : X * X = x * x := by
 refine qas qjd ?_
 have e1 : X * X * 4 = X * X * (a * (1 + e)) * (a * (1 + e)) := by rw [ha]; grind -lia -linarith -order -ac (splits := 0)
 have e2 : X * X * (a * (1 + e)) * (a * (1 + e)) = X * X * (a * a) * (1 + e) * (1 + e) := by grind -lia -linarith -order -ac (splits := 0)
 have e4 : 4 * t * (1 + e) * (1 + e) = 4 * (t * (1 + e)) * (1 + e) := by grind -lia -linarith -order -ac (splits := 0)
 have e3 : x * x = 1 - e * e := by rw [hee]; grind -lia -linarith -order -ac (splits := 0)
 rw [e1, e2, hx, e4, ht, e3]; grind -lia -linarith -order -ac (splits := 0)
end
end Go.Sx
end
section
namespace Go.Sx
theorem ng1 (x Y : Fp) : -Y * x = -x * Y := by grind -lia -linarith -order -ac (splits := 0)
theorem ng2 (x Y : Fp) : -x * -Y = Y * x := by grind -lia -linarith -order -ac (splits := 0)
theorem qr3 {P : AP} (hP : P.on) (hev : Ev P) : qdQ (encF P) = true /\ (AP.on ⟨decX (encF P), decY (encF P)⟩) /\ decX (encF P) * P.y = decY (encF P) * P.x := by
 obtain ⟨x, y⟩ := P
 obtain ⟨g, hg⟩ := hev
 have hon : x * x + y * y = 1 + dF * x * x * y * y := hP
 have hg : (1 - y * y) * (1 - dF) = g * g := hg
 obtain ⟨U, hU⟩ : ∃ U, U = (x + x * y) * (x - x * y) := ⟨_, rfl⟩
 obtain ⟨r2, hr2⟩ : ∃ r2, r2 = qa9 (fI 1) (U * x * x * (1 - dF)) := ⟨_, rfl⟩
 obtain ⟨w2, hw2⟩ : ∃ w2, w2 = fabs (r2 * U * qaH) := ⟨_, rfl⟩
 have hs := qrU ⟨x, y⟩ hU hr2 hw2
 obtain ⟨s, es⟩ : ∃ s, s = encF ⟨x, y⟩ := ⟨_, rfl⟩
 rw [<- es] at hs ⊢
 have hs : s = fabs (r2 * x * (qaI * w2 - x * y) * (1 - dF)) := hs
 show _ /\ _ /\ decX s * y = decY s * x
 obtain ⟨a, ha⟩ : ∃ a, a = 1 + s * s := ⟨_, rfl⟩
 obtain ⟨w, hw⟩ : ∃ w, w = a * a - 4 * dF * (s * s) := ⟨_, rfl⟩
 have his := qrV ha hw
 obtain ⟨r, hr⟩ : ∃ r, r = decR s := ⟨_, rfl⟩
 obtain ⟨W, hW⟩ : ∃ W, W = fabs (2 * s * r * a * qaH) := ⟨_, rfl⟩
 have hX := qrW ha hw hr hW
 have hY := qrX ha hw hr
 have hrr := qnp ha hw
 rw [<- hr] at his hrr
 obtain ⟨X, eX⟩ : ∃ X, X = decX s := ⟨_, rfl⟩
 obtain ⟨Y, eY⟩ : ∃ Y, Y = decY s := ⟨_, rfl⟩
 rw [<- eX] at hX ⊢
 rw [<- eY] at hY ⊢
 have hWs := W_sq hW
 have hw2s := qrY hw2
 by_cases hx0 : x = 0
 ·subst hx0
  have hs0 : s = 0 := by
   have e : r2 * 0 * (qaI * w2 - 0 * y) * (1 - dF) = 0 := by generalize dF = d; grind -lia -linarith -order -ac (splits := 0)
   rw [hs, e, qnl]
  have ha1 : a = 1 := by rw [ha, hs0]; grind -lia -linarith -order -ac (splits := 0)
  have hw1 : w = 1 := by rw [hw, ha1, hs0]; generalize dF = d; grind -lia -linarith -order -ac (splits := 0)
  have h1 : r * r * (w * (a * a)) = 1 := by
   rw [hrr]
   exact qjb (c := 1) qbK (by rw [hw1, ha1]; grind -lia -linarith -order -ac (splits := 0))
  have hx := rt1 h1 hWs qgS hX
  have hX0 : X = 0 := by
   refine qmL ?_
   have : X * X = X * X * (a * a) := by rw [ha1]; grind -lia -linarith -order -ac (splits := 0)
   rw [this, hx, hs0]; grind -lia -linarith -order -ac (splits := 0)
  have hYr : Y * Y = 1 := by
   have : Y * Y = r * r * (w * (a * a)) := by rw [hY, hw1, ha1, hs0]; grind -lia -linarith -order -ac (splits := 0)
   rw [this, h1]
  refine ⟨his.2 h1, ?_, ?_⟩
  ·show X * X + Y * Y = 1 + dF * X * X * Y * Y
   rw [hYr, hX0]; generalize dF = d; grind -lia -linarith -order -ac (splits := 0)
  ·rw [hX0]; grind -lia -linarith -order -ac (splits := 0)
 have hxx := qC hx0 hx0
 have hy0 : y ≠ 0 := by
  rintro rfl
  refine qr2 g ?_
  rw [<- hg]; generalize dF = d; grind -lia -linarith -order -ac (splits := 0)
 have hU1 := qa1 hU
 have hm := qa2 hU1 hg
 have hy1 : 1 - y * y ≠ 0 := by
  intro h
  have e : y * y = 1 := by grind -lia -linarith -order -ac (splits := 0)
  have : x * x * (1 - dF) = 0 := by
   have e2 : x * x + 1 = 1 + dF * (x * x) := by
    have : dF * x * x * y * y = dF * (x * x) * (y * y) := by generalize dF = d; grind -lia -linarith -order -ac (splits := 0)
    rw [e, this, e] at hon
    rw [hon]; generalize dF = d; grind -lia -linarith -order -ac (splits := 0)
   generalize dF = d at *
   grind -lia -linarith -order -ac (splits := 0)
  rcases qaC this with h | h
  ·exact hxx h
  ·exact qgR h
 have hg0 : g ≠ 0 := by
  rintro rfl
  have : (1 - y * y) * (1 - dF) = 0 := by rw [hg]; grind -lia -linarith -order -ac (splits := 0)
  rcases qaC this with h | h
  ·exact hy1 h
  ·exact qgR h
 have h2 := qjb (qC hxx hg0) hm
 rw [<- hr2] at h2
 obtain ⟨c, hc⟩ : ∃ c, c = qaI * w2 := ⟨_, rfl⟩
 have hb := qb1 hU1 h2 hw2s qgS hc
 have hcc : c * c ≠ 0 := by
  intro h
  apply hy1
  rw [<- hb, h]; generalize dF = d; grind -lia -linarith -order -ac (splits := 0)
 have hc0 : c ≠ 0 := by rintro rfl; apply hcc; grind -lia -linarith -order -ac (splits := 0)
 obtain ⟨e, he⟩ : ∃ e, e * c = x * y := by
  refine ⟨x * y * finv c, ?_⟩
  have := qaw hc0
  generalize finv c = i at *
  have e1 : x * y * i * c = x * y * (c * i) := by grind -lia -linarith -order -ac (splits := 0)
  rw [e1, this]; grind -lia -linarith -order -ac (splits := 0)
 have hee := qb2 hon qgR hb hcc he
 obtain ⟨t, et⟩ : ∃ t, t = s * s := ⟨_, rfl⟩
 have ht : t = r2 * x * (c - x * y) * (1 - dF) * (r2 * x * (c - x * y) * (1 - dF)) := by
  rw [et, hs, qba, <- hc]
 rw [<- et] at ha hw hY hWs
 have htx := qb3 hU1 h2 hb he ht
 obtain ⟨n1, n2, hte⟩ := qb4 hxx hee htx
 obtain ⟨ha2, hw5⟩ := qb5 ha hw hee hte
 have h6 := qb6 hon hee
 have he0 : e ≠ 0 := by
  rintro rfl
  rcases qaC (show x * y = 0 by rw [<- he]; grind -lia -linarith -order -ac (splits := 0)) with h | h
  ·exact hx0 h
  ·exact hy0 h
 have hn0 := qC (qC n1 n1) hy0
 have hf := qaw hn0
 have hwa := qb7 n1 hy0 hf ha2 hw5 h6
 have hf0 : finv ((1 + e) * (1 + e) * y) ≠ 0 := by
  intro h
  rw [h] at hf
  apply qbK
  rw [<- hf]; grind -lia -linarith -order -ac (splits := 0)
 have h1 := qjb (qC (qC qjd he0) hf0) hwa
 rw [<- hrr] at h1
 have ha0 : a ≠ 0 := by
  rintro rfl
  have : r * r * (w * (0 * 0)) = 0 := by grind -lia -linarith -order -ac (splits := 0)
  rw [this] at h1
  exact qbK h1.symm
 have hnd : 1 - dF * (x * x) ≠ 0 := by
  intro h
  apply he0
  apply qmL
  rw [<- h6, h]; grind -lia -linarith -order -ac (splits := 0)
 have h8 := qb8 hon qgR hb
 have h9 := qb9 h1 n1 hee hte hw5 h8 hnd
 have hWw : W = w2 := qrZ hW hw2 (by rw [hWs, h9, qb10 qgS hc])
 have hCW : qaI * W = c := by rw [hWw, hc]
 have hXY := qb11 h1 ha0 n1 ha2 hte hX hY hCW he
 have hxr := rt1 h1 hWs qgS hX
 have hXX := qb12 hxr n1 ha2 hee hte
 have hYY : Y * Y = y * y := by
  refine qas hxx ?_
  have e1 : Y * Y * (x * x) = X * Y * (X * Y) := by rw [<- hXX]; grind -lia -linarith -order -ac (splits := 0)
  rw [e1, hXY]; grind -lia -linarith -order -ac (splits := 0)
 refine ⟨his.2 h1, ?_, ?_⟩
 ·show X * X + Y * Y = 1 + dF * X * X * Y * Y
  have e1 : dF * X * X * Y * Y = dF * (X * X) * (Y * Y) := by generalize dF = d; grind -lia -linarith -order -ac (splits := 0)
  rw [e1, hXX, hYY, hon]; generalize dF = d; grind -lia -linarith -order -ac (splits := 0)
 ·rcases qiA hXX with h | h
  ·rw [h] at hXY ⊢
   have : Y = y := qas hx0 (by rw [Fin.mul_comm Y, hXY, Fin.mul_comm])
   rw [this, Fin.mul_comm]
  ·rw [h] at hXY ⊢
   have : -Y = y := qas hx0 (by
    rw [ng1, hXY, Fin.mul_comm])
   rw [<- this]; exact ng2 ..
end Go.Sx
end
section
namespace Go.Sx
theorem qe7 (b : Int) : ∀ (l m : List Int), valB b (l ++ m) = valB b l + b ^ l.length * valB b m
 | [], m => by simp [valB]
 | x :: l, m => by
   simp only [List.cons_append, valB, qe7 b l m, List.length_cons, Int.pow_succ]
   generalize b ^ l.length = w
   generalize valB b l = u
   generalize valB b m = v
   have e : w * b * v = b * (w * v) := by rw [Int.mul_comm w, Int.mul_assoc]
   rw [e, Int.mul_add]; omega
theorem qje (b : Int) : ∀ (l : List Int) (j : Nat) (v : Int), j < l.length -> valB b (l.set j v) = valB b l + (v - l.getD j 0) * b ^ j
 | [], j, v, h => by simp at h
 | x :: l, 0, v, _ => by simp only [List.set_cons_zero, valB, List.getD_cons_zero, Int.pow_zero]; omega
 | x :: l, j + 1, v, h => by
   simp only [List.set_cons_succ, valB, List.getD_cons_succ, Int.pow_succ]
   rw [qje b l j v (by simpa using h)]
   generalize b ^ j = w
   generalize v - l.getD j 0 = z
   generalize valB b l = u
   have e : z * (w * b) = b * (z * w) := by rw [<- Int.mul_assoc, Int.mul_comm]
   rw [e, Int.mul_add]; omega
theorem qr4 (b : Int) {l : List Int} {i : Nat} (h : i < l.length) : valB b (l.take (i + 1)) = valB b (l.take i) + l.getD i 0 * b ^ i := by
 rw [List.take_succ_eq_append_getElem h, qe7, List.length_take, Nat.min_eq_left (Nat.le_of_lt h)]
 have e : l.getD i 0 = l[i] := by simp [List.getD, h]
 rw [e]
 simp only [valB, Int.mul_zero, Int.add_zero]
 rw [Int.mul_comm]
theorem qax {l : List Int} {i j : Nat} {v : Int} (h : i < l.length) : (l.set i v).getD j 0 = if i = j then v else l.getD j 0 := by
 split
 ·rename_i e; subst e; simp [List.getD, h]
 ·rename_i e; simp [List.getD, List.getElem?_set_ne e]
def wt (m : Nat) : Nat := if m + 8 <= 30 then 2 else 1
def cap (i j : Nat) : Nat := 1 + (if i < j + 8 /\ j + 8 <= 30 then wt (j + 8) else 0) + (if i < j + 16 /\ j + 16 <= 30 then wt (j + 16) else 0)
end Go.Sx
end
section
namespace Go.Sx
theorem qdU (b : Int) (hb : 0 < b) : ∀ (l : List Int), (∀ a ∈ l, 0 <= a /\ a < b) -> 0 <= valB b l /\ valB b l < b ^ l.length
 | [], _ => by simp [valB]
 | x :: l, h => by
   have ih := qdU b hb l fun a ha => h a (List.mem_cons_of_mem _ ha)
   have hx := h x (List.mem_cons_self ..)
   simp only [valB, List.length_cons, Int.pow_succ]
   generalize valB b l = v at *
   generalize b ^ l.length = w at *
   have h1 : 0 <= b * v := Int.mul_nonneg (by omega) ih.1
   have h2 : b * (v + 1) <= b * w := Int.mul_le_mul_of_nonneg_left (by omega) (by omega)
   rw [Int.mul_add, Int.mul_one] at h2
   rw [Int.mul_comm w]
   omega
theorem qr5 {bs : List Int} {j n : Nat} (h : j < bs.length) : qd ((bs.drop j).take (n + 1)) = bs.getD j 0 + 256 * qd ((bs.drop (j + 1)).take n) := by
 rw [List.drop_eq_getElem_cons h, List.take_succ_cons]
 have e : bs.getD j 0 = bs[j] := by simp [List.getD, h]
 rw [e]; rfl
theorem qgT {bs : List Int} (hb : ∀ a ∈ bs, 0 <= a /\ a < 256) (j n : Nat) : 0 <= qd ((bs.drop j).take n) /\ qd ((bs.drop j).take n) < 256 ^ n := by
 have := qdU 256 (by decide) ((bs.drop j).take n) fun a ha => hb a (List.mem_of_mem_drop (List.mem_of_mem_take ha))
 refine ⟨this.1, Int.lt_of_lt_of_le this.2 ?_⟩
 have e : ((256 ^ ((bs.drop j).take n).length : Nat) : Int) <= ((256 ^ n : Nat) : Int) := Int.ofNat_le.2 (Nat.pow_le_pow_right (by decide) (by rw [List.length_take]; omega))
 simpa using e
structure Ofs (bs : List Int) (i : Nat) (v : List Int) : Prop where
 len : v.length = 16
 bd : ∀ j, 0 <= v.getD j 0 /\ v.getD j 0 < 268435456
 z : ∀ j, 2 * i <= j -> v.getD j 0 = 0
 val : valB 268435456 v = qd (bs.take (7 * i))
def z16 : List Int := [0, 0, 0, 0, 0, 0, 0, 0, 0, 0, 0, 0, 0, 0, 0, 0]
theorem qnq (j : Nat) : z16.getD j 0 = 0 := by
 have : z16 = List.replicate 16 0 := rfl
 rw [this, List.getD_eq_getElem?_getD, List.getElem?_replicate]
 split <;> rfl
theorem Ofs.zero (bs : List Int) : Ofs bs 0 z16 := ⟨rfl, fun j => by rw [qnq]; decide, fun j _ => qnq j, by
 show valB 268435456 z16 = 0
 decide⟩
theorem qnr (i : Nat) : (256 : Int) ^ (7 * i) = 268435456 ^ (2 * i) := by
 rw [Int.pow_mul, Int.pow_mul]
 congr 1
theorem qr6 {bs : List Int} (i : Nat) : bs.take (7 * (i + 1)) = bs.take (7 * i) ++ (bs.drop (7 * i)).take 7 := by
 rw [Nat.mul_add, Nat.mul_one, List.take_add]
theorem Ofs.step {bs v : List Int} {i : Nat} (h : Ofs bs i v) (hi : i < 8) (hl : bs.length = 56) (hb : ∀ a ∈ bs, 0 <= a /\ a < 256) {n : Int} (hn : n = qd ((bs.drop (7 * i)).take 7)) : Ofs bs (i + 1) ((v.set (2 * i) (n % 268435456)).set (2 * i + 1) (n / 268435456)) := by
 have hbd := qgT hb (7 * i) 7
 rw [<- hn] at hbd
 have h56 : (256 : Int) ^ 7 = 72057594037927936 := by decide
 rw [h56] at hbd
 have l1 : 2 * i < v.length := by rw [h.len]; omega
 have l2 : 2 * i + 1 < (v.set (2 * i) (n % 268435456)).length := by rw [List.length_set, h.len]; omega
 refine ⟨by rw [List.length_set, List.length_set, h.len], fun j => ?_, fun j hj => ?_, ?_⟩
 ·rw [qax l2, qax l1]
  split
  ·omega
  ·split
   ·omega
   ·exact h.bd j
 ·rw [qax l2, qax l1, if_neg (by omega), if_neg (by omega)]
  exact h.z j (by omega)
 ·rw [qje _ _ _ _ l2, qje _ _ _ _ l1, qax l1, if_neg (by omega), h.z _ (by omega), h.z _ (by omega), h.val, qr6]
  unfold qd
  rw [qe7, List.length_take, hl, Nat.min_eq_left (by omega), qnr]
  have e : valB 256 ((bs.drop (7 * i)).take 7) = n := hn.symm
  rw [e, Int.pow_succ]
  generalize (268435456 : Int) ^ (2 * i) = w
  generalize valB 256 (bs.take (7 * i)) = u
  have e2 : n = n % 268435456 + n / 268435456 * 268435456 := by omega
  conv => rhs; rw [e2]
  rw [Int.mul_add, Int.sub_zero, Int.sub_zero, Int.add_assoc]
  congr 1
  rw [Int.mul_comm w, Int.mul_left_comm w]
  congr 1
  rw [Int.mul_comm w]
  ac_rfl
theorem Ofs.done {bs v : List Int} (h : Ofs bs 8 v) (hl : bs.length = 56) : valB 268435456 v = qd bs /\ ∀ a ∈ v, -4611686018427387904 < a /\ a < 4611686018427387904 := by
 refine ⟨by rw [h.val, List.take_of_length_le (by omega)], fun a ha => ?_⟩
 obtain ⟨j, hj, rfl⟩ := List.getElem_of_mem ha
 have := h.bd j
 rw [show v.getD j 0 = v[j] by simp [List.getD, hj]] at this
 omega
def qR (N n : Nat) : List Int := (List.range n).map fun j => ((N / 256 ^ j % 256 : Nat) : Int)
theorem qc9 (N n : Nat) : (qR N n).length = n := by simp [qR]
theorem qns (N n : Nat) : qR N (n + 1) = qR N n ++ [((N / 256 ^ n % 256 : Nat) : Int)] := by
 unfold qR; rw [List.range_succ, List.map_append]; rfl
theorem qjf (x : Fp) : qO x = qR x.val 56 := by unfold qO qR; rfl
theorem dig2 {xs : List Int} {N i : Nat} (hl : xs.length = 16) (hd : ∀ a ∈ xs, 0 <= a /\ a < 268435456) (hv : valB 268435456 xs = N) (hi : i < 8) : xs.getD (2 * i) 0 + xs.getD (2 * i + 1) 0 * 268435456 = ((N / 256 ^ (7 * i) % 72057594037927936 : Nat) : Int) := by
 have h1 : 2 * i < xs.length := by omega
 have h2 : 2 * i + 1 < xs.length := by omega
 have e : xs = xs.take (2 * i) ++ (xs.getD (2 * i) 0 :: xs.getD (2 * i + 1) 0 :: xs.drop (2 * i + 2)) := by
  conv => lhs; rw [<- List.take_append_drop (2 * i) xs, List.drop_eq_getElem_cons h1, List.drop_eq_getElem_cons h2]
  have e1 : xs.getD (2 * i) 0 = xs[2 * i] := by simp [List.getD, h1]
  have e2 : xs.getD (2 * i + 1) 0 = xs[2 * i + 1] := by simp [List.getD, h2]
  rw [e1, e2]
 have b1 := qdU 268435456 (by decide) (xs.take (2 * i)) fun a ha => hd a (List.mem_of_mem_take ha)
 have b2 := qdU 268435456 (by decide) (xs.drop (2 * i + 2)) fun a ha => hd a (List.mem_of_mem_drop ha)
 have b3 := hd _ (qan h1)
 have b4 := hd _ (qan h2)
 have hv2 := hv
 rw [e, qe7] at hv2
 simp only [valB] at hv2
 rw [List.length_take, Nat.min_eq_left (by omega)] at hv2 b1
 have hp : (268435456 : Int) ^ (2 * i) = ((256 ^ (7 * i) : Nat) : Int) := by rw [<- qnr]; simp
 rw [hp] at hv2 b1
 have hpos : 0 < 256 ^ (7 * i) := Nat.pow_pos (by decide)
 generalize 256 ^ (7 * i) = w at *
 generalize valB 268435456 (xs.take (2 * i)) = u at *
 generalize valB 268435456 (xs.drop (2 * i + 2)) = t at *
 generalize xs.getD (2 * i) 0 = a at *
 generalize xs.getD (2 * i + 1) 0 = b at *
 have q : ((N / w : Nat) : Int) = a + 268435456 * (b + 268435456 * t) := by
  rw [Int.natCast_ediv, <- hv2, Int.add_mul_ediv_left _ _ (by omega), Int.ediv_eq_zero_of_lt b1.1 b1.2, Int.zero_add]
 rw [Int.natCast_emod, q]
 omega
theorem qgU (N i k : Nat) (hk : k < 7) : N / 256 ^ (7 * i) % 72057594037927936 / 256 ^ k % 256 = N / 256 ^ (7 * i + k) % 256 := by
 have e : 72057594037927936 = 256 ^ k * 256 ^ (7 - k) := by rw [<- Nat.pow_add, show k + (7 - k) = 7 by omega]
 rw [e, Nat.mod_mul_right_div_self, Nat.mod_mod_of_dvd, Nat.div_div_eq_div_mul, <- Nat.pow_add]
 exact Nat.dvd_trans (Nat.dvd_refl 256) (by rw [show 7 - k = (6 - k) + 1 by omega, Nat.pow_succ]; exact Nat.dvd_mul_left ..)
end Go.Sx
end
section
namespace Go.Sx
abbrev Byt (bs : List Int) : Prop := ∀ a ∈ bs, 0 <= a /\ a < 256
def nV (bs : List Int) : Nat := (qd bs).toNat
theorem qnt {bs : List Int} (h : Byt bs) : ((nV bs : Nat) : Int) = qd bs := by
 have := (qdU 256 (by decide) bs h).1
 unfold nV qd; omega
theorem qnu {bs : List Int} (h : Byt bs) : nV bs < 256 ^ bs.length := by
 have h1 := (qdU 256 (by decide) bs h).2
 have h2 := qnt h
 have e : ((nV bs : Nat) : Int) < ((256 ^ bs.length : Nat) : Int) := by
  rw [h2, Int.natCast_pow]; exact h1
 exact Int.ofNat_lt.1 e
theorem qnv {x : Int} {l : List Int} (hx : 0 <= x) (h : Byt l) : nV (x :: l) = x.toNat + 256 * nV l := by
 have h2 := qnt h
 show (x + 256 * valB 256 l).toNat = _
 unfold qd at h2
 rw [<- h2]; omega
theorem qr7 {bs : List Int} (h : Byt bs) (i : Nat) : bs.getD i 0 = ((nV bs / 256 ^ i % 256 : Nat) : Int) := by
 induction i generalizing bs with
 | zero => cases bs with
   | nil => rfl
   | cons x l =>
     have hx := h x (List.mem_cons_self ..)
     rw [qnv hx.1 (fun a ha => h a (List.mem_cons_of_mem _ ha)), Nat.pow_zero, Nat.div_one, List.getD_cons_zero]; omega
 | succ i ih => cases bs with
   | nil =>
     have e : nV [] = 0 := rfl
     rw [e, Nat.zero_div]; rfl
   | cons x l =>
     have hx := h x (List.mem_cons_self ..)
     have hl : Byt l := fun a ha => h a (List.mem_cons_of_mem _ ha)
     rw [qnv hx.1 hl, List.getD_cons_succ, ih hl, Nat.pow_succ', <- Nat.div_div_eq_div_mul]
     congr 3; omega
def bitN (V i : Nat) : Nat := V / 2 ^ i % 2
theorem qr8 (V i : Nat) : V / 256 ^ (i / 8) % 256 / 2 ^ (i % 8) % 2 = bitN V i := by
 have e : (256 : Nat) = 2 ^ (i % 8) * 2 ^ (8 - i % 8) := by
  rw [<- Nat.pow_add, show i % 8 + (8 - i % 8) = 8 by omega]
 unfold bitN
 have e3 : (256 : Nat) ^ (i / 8) * 2 ^ (i % 8) = 2 ^ i := by
  rw [show (256 : Nat) = 2 ^ 8 from rfl, <- Nat.pow_mul, <- Nat.pow_add, show 8 * (i / 8) + i % 8 = i by omega]
 have e2 : V / 256 ^ (i / 8) % 256 / 2 ^ (i % 8) % 2 = V / 256 ^ (i / 8) / 2 ^ (i % 8) % 2 := by
  generalize V / 256 ^ (i / 8) = W
  rw [e, Nat.mod_mul_right_div_self, Nat.mod_mod_of_dvd]
  rw [show 8 - i % 8 = (7 - i % 8) + 1 by omega, Nat.pow_succ]
  exact Nat.dvd_mul_left ..
 rw [e2, Nat.div_div_eq_div_mul, e3]
theorem qnw (V i : Nat) : bitN V i < 2 := Nat.mod_lt _ (by decide)
def IsLen (V n : Nat) : Prop := V < 2 ^ n /\ (n = 0 \/ 2 ^ (n - 1) <= V)
theorem qr9 {V n : Nat} (h : V < 2 ^ (n + 1)) (hb : bitN V n = 0) : V < 2 ^ n := by
 unfold bitN at hb
 have : V / 2 ^ n < 2 := by exact (Nat.div_lt_iff_lt_mul (Nat.pow_pos (by decide))).2 (by rw [Nat.mul_comm, <- Nat.pow_succ]; exact h)
 have e : V / 2 ^ n = 0 := by
  revert this hb; generalize V / 2 ^ n = q; omega
 rcases Nat.div_eq_zero_iff.1 e with h | h
 ·exact absurd h (Nat.ne_of_gt (Nat.pow_pos (by decide)))
 ·exact h
theorem qsa {V n : Nat} (hb : bitN V n ≠ 0) : 2 ^ n <= V := by
 apply Nat.le_of_not_lt
 intro h
 apply hb
 unfold bitN
 rw [Nat.div_eq_of_lt h]
theorem qsb {bs : List Int} (h : Byt bs) : nV bs < 2 ^ (8 * bs.length) := by
 rw [Nat.pow_mul]; exact qnu h
theorem qnx (V n : Nat) : nV (qR V n) = V % 256 ^ n := by
 unfold nV qR; rw [qmS]; rfl
theorem qgV (V n : Nat) : Byt (qR V n) := fun a ha => by
 unfold qR at ha
 obtain ⟨j, _, rfl⟩ := List.mem_map.1 ha
 omega
theorem qny {V n : Nat} (h : V < 2 ^ n) : ∃ z, IsLen V z /\ z <= n := by
 induction n with
 | zero => exact ⟨0, ⟨h, .inl rfl⟩, Nat.le_refl _⟩
 | succ n ih =>
   by_cases hb : bitN V n = 0
   · obtain ⟨z, h1, h2⟩ := ih (qr9 h hb)
     exact ⟨z, h1, by omega⟩
   · exact ⟨n + 1, ⟨h, .inr (qsa hb)⟩, Nat.le_refl _⟩
theorem qsc {a b w : Nat} (h : a / w < b / w) : a < b := by
 apply Nat.lt_of_not_le
 intro hl
 exact absurd (Nat.div_le_div_right (c := w) hl) (by omega)
end Go.Sx
end
section
namespace Go.Sx
theorem qsK : qz 0 = 0 := by unfold qz; exact qiw (by decide +kernel)
end Go.Sx
end
section
namespace Go.Sx
def nsm : Nat -> AP -> AP
 | 0, _ => pid
 | n + 1, P => padd (nsm n P) P
theorem qB {P : AP} (h : P.on) : ∀ n, (nsm n P).on
 | 0 => qeV
 | n + 1 => qaS (qB h n) h
theorem qaL {P : AP} (h : P.on) (m : Nat) : ∀ n, nsm (m + n) P = padd (nsm m P) (nsm n P)
 | 0 => (qbN _).symm
 | n + 1 => by
   show padd (nsm (m + n) P) P = padd (nsm m P) (padd (nsm n P) P)
   rw [qaL h m n, qa8 (qB h m) (qB h n) h]
theorem qdW {P : AP} (h : P.on) (m : Nat) : nsm (2 * m) P = padd (nsm m P) (nsm m P) := by
 rw [show 2 * m = m + m by omega, qaL h]
theorem qsL {P Q : AP} {X1 Y1 Z1 X2 Y2 Z2 : Fp} (hP : P.on) (hQ : Q.on) (z1 : Z1 ≠ 0) (x1 : X1 = P.x * Z1) (y1 : Y1 = P.y * Z1) (z2 : Z2 ≠ 0) (x2 : X2 = Q.x * Z2) (y2 : Y2 = Q.y * Z2) :
  (Z1 * Z2 * (Z1 * Z2) + dF * (X1 * Y2 * (X2 * Y1))) * (Z1 * Z2 * (Z1 * Z2) - dF * (X1 * Y2 * (X2 * Y1))) ≠ 0 /\
  Z1 * Z2 * (X1 * Y2 + X2 * Y1) * (Z1 * Z2 * (Z1 * Z2) - dF * (X1 * Y2 * (X2 * Y1))) = (padd P Q).x * ((Z1 * Z2 * (Z1 * Z2) + dF * (X1 * Y2 * (X2 * Y1))) * (Z1 * Z2 * (Z1 * Z2) - dF * (X1 * Y2 * (X2 * Y1)))) /\
  Z1 * Z2 * (Y1 * Y2 - X1 * X2) * (Z1 * Z2 * (Z1 * Z2) + dF * (X1 * Y2 * (X2 * Y1))) = (padd P Q).y * ((Z1 * Z2 * (Z1 * Z2) + dF * (X1 * Y2 * (X2 * Y1))) * (Z1 * Z2 * (Z1 * Z2) - dF * (X1 * Y2 * (X2 * Y1)))) := by
 have hc := qbi hP hQ
 have hx := qbA hP hQ
 have hy := qcc hP hQ
 obtain ⟨t, ht⟩ : ∃ t, t = pt P Q := ⟨_, rfl⟩
 have ht2 : t = dF * P.x * Q.x * P.y * Q.y := ht
 rw [<- ht] at hc hx hy
 obtain ⟨u, hu⟩ : ∃ u, u = (padd P Q).x := ⟨_, rfl⟩
 obtain ⟨v, hv⟩ : ∃ v, v = (padd P Q).y := ⟨_, rfl⟩
 rw [<- hu] at hx ⊢
 rw [<- hv] at hy ⊢
 clear hu hv ht hP hQ
 obtain ⟨x, y⟩ := P
 obtain ⟨z, w⟩ := Q
 simp only at *
 generalize dF = d at *
 have e1 : Z1 * Z2 * (Z1 * Z2) + d * (X1 * Y2 * (X2 * Y1)) = Z1 * Z2 * (Z1 * Z2) * (1 + t) := by rw [x1, y1, x2, y2, ht2]; clear hx hy hc; grind -lia -linarith -order -ac (splits := 0)
 have e2 : Z1 * Z2 * (Z1 * Z2) - d * (X1 * Y2 * (X2 * Y1)) = Z1 * Z2 * (Z1 * Z2) * (1 - t) := by rw [x1, y1, x2, y2, ht2]; clear hx hy hc; grind -lia -linarith -order -ac (splits := 0)
 rw [e1, e2]
 have n12 := qC z1 z2
 refine ⟨qC (qC (qC n12 n12) hc.1) (qC (qC n12 n12) hc.2), ?_, ?_⟩
 ·have e3 : Z1 * Z2 * (X1 * Y2 + X2 * Y1) = Z1 * Z2 * (Z1 * Z2) * (u * (1 + t)) := by rw [hx, x1, y1, x2, y2]; clear hx hy hc ht2 e1 e2; grind -lia -linarith -order -ac (splits := 0)
  rw [e3]; clear hx hy hc ht2 e1 e2 e3; grind -lia -linarith -order -ac (splits := 0)
 ·have e3 : Z1 * Z2 * (Y1 * Y2 - X1 * X2) = Z1 * Z2 * (Z1 * Z2) * (v * (1 - t)) := by rw [hy, x1, y1, x2, y2]; clear hx hy hc ht2 e1 e2; grind -lia -linarith -order -ac (splits := 0)
  rw [e3]; clear hx hy hc ht2 e1 e2 e3; grind -lia -linarith -order -ac (splits := 0)
def hd (b : Int) : Int := if 97 <= b then b - 87 else b - 48
def baseP : AP := ⟨fI 224580040295924300187604334099896036246789641632564134246125461686950415467406032909029192869357953282578032075146446173674602635247710, fI 298819210078481492676017930443930673437544040154080242095928241372331506189835876003536878655418784733982303233503462500531545062832660⟩
theorem qae : baseP.on := by unfold baseP AP.on; decide +kernel
end Go.Sx
end
section

end
section
namespace Go.Sx
theorem qg3 (x : Fp) : fI (qd (qO x)) = x := by rw [qi3]; exact qmh x
theorem qnQ {P : AP} (hP : P.on) (hev : Ev P) : qa4 (qO (encF P)) = true /\ (qbO (qO (encF P))).on /\ (qbO (qO (encF P))).x * P.y = (qbO (qO (encF P))).y * P.x := by
 obtain ⟨h1, h2, h3⟩ := qr3 hP hev
 have e := qg3 (encF P)
 have hl : qd (qO (encF P)) < 726838724295606890549323807888004534353641360687318060281490199180612328166730772686396383698676545930088884461843637361053498018365439 := by
  rw [qi3]; exact Int.ofNat_lt.2 (encF P).isLt
 have hodd : ¬ (encF P).val % 2 = 1 := by unfold encF; exact qrN _
 refine ⟨?_, ?_, ?_⟩
 ·unfold qa4
  rw [e, qby, decide_eq_true hl, decide_eq_false hodd, h1, decide_eq_true h2]; rfl
 ·unfold qbO; rw [e]; exact h2
 ·unfold qbO; rw [e]; exact h3
end Go.Sx
end
section

end
section
namespace Go.Sx
theorem qnR (P Q : AP) : pneg (padd P Q) = padd (pneg P) (pneg Q) := by
 have hp : pt (pneg P) (pneg Q) = pt P Q := by unfold pt pneg; simp only; generalize dF = d; grind -lia -linarith -order -ac (splits := 0)
 unfold padd
 rw [hp]
 unfold pneg
 simp only
 apply AP.ext
 ·show -((P.x * Q.y + Q.x * P.y) * finv (1 + pt P Q)) = (-P.x * Q.y + -Q.x * P.y) * finv (1 + pt P Q)
  generalize finv (1 + pt P Q) = f; grind -lia -linarith -order -ac (splits := 0)
 ·show (P.y * Q.y - P.x * Q.x) * finv (1 - pt P Q) = (P.y * Q.y - -P.x * -Q.x) * finv (1 - pt P Q)
  generalize finv (1 - pt P Q) = f; grind -lia -linarith -order -ac (splits := 0)
theorem qg4 {a b c e : AP} (ha : a.on) (hb : b.on) (hc : c.on) (he : e.on) : padd (padd a b) (padd c e) = padd (padd a c) (padd b e) := by
 rw [qa8 ha hb (qaS hc he), <- qa8 hb hc he, qeW b c, qa8 hc hb he, <- qa8 ha hc (qaS hb he)]
instance (P Q : AP) : Decidable (P = Q) := if hx : P.x = Q.x then if hy : P.y = Q.y then .isTrue (AP.ext hx hy) else .isFalse fun h => hy (by rw [h]) else .isFalse fun h => hx (by rw [h])
end Go.Sx
end
