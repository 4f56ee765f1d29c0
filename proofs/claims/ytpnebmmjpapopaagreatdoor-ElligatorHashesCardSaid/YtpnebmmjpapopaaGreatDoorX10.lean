/-
  Part of the proof of a statement: the means.
-/
import Derived.Test.YtpnebmmjpapopaaGreatDoorX91
import Derived.Test.YtpnebmmjpapopaaGreatDoorX6
set_option linter.unusedSectionVars false
set_option linter.unusedVariables false
set_option linter.unusedSimpArgs false
set_option linter.deprecated false
section
set_option maxHeartbeats 4000000
namespace Go.Sx.Tryz
open Go.Proofs
set_option maxRecDepth 40000
def qe9 (Ω : Om) : qe := fun args => match args with
 | [.ab (.re a), .roi .u8 bs] => ⟨∀ _ : Unit, bs.length < 1152921504606846976 /\ Byt bs, Unit, fun _ => True, fun _ => .ab (.re (Ω.hide _ fun _ => pw a (nV bs)))⟩
 | _ => PR.none
theorem qol : Ctr Tryz.prog T glob 185 (qe9 Om.real) := by
 refine qq T_ok qg qh (fun Ω => [(90, qbW Ω), (91, qbf Ω), (169, qdP Ω)]) [] (fun Ω => []) [] (qb qdN (qb qbV (qb qjS qi))) qj qk ql Tryz.func185 (by rfl) (by kernel_rfl) Tryz.call185 ?_ ?_
 ·intro args; unfold qe9; split
  ·exact qr (by repeat' constructor) (fun _ _ => rfl) (by repeat' constructor)
  ·exact PR.good_none
 ·intro P Ω hΩ hE hI hm args pr hs hp Q hQ
  unfold qe9 at hs
  split at hs <;> subst hs <;> try (exact hp.elim)
  rename_i a bs
  obtain ⟨hl, hb⟩ := hp ()
  refine ⟨1000, ?_⟩
  conv => cbv
  repeat (constructor; (first | exact fun _ => trivial | exact fun _ _ => (by decide)); intro _ _; conv => cbv)
  obtain ⟨L8, hL8⟩ : ∃ L8 : Nat, L8 = 8 * bs.length := ⟨_, rfl⟩
  obtain ⟨i0, hi0⟩ : ∃ i0 : Int, i0 = (L8 : Int) - 1 := ⟨_, rfl⟩
  have e0 : Ω.bin .sub .i64 (Ω.bin .mul .i64 8 (Ω.ofN (Ω.len bs))) 1 = i0 := by
   subst hΩ
   show binL .sub .i64 (binL .mul .i64 8 (bs.length : Int)) 1 = i0
   rw [qaP (by omega) (by omega), qO (by omega) (by omega)]; omega
  have h8 := qgP hb
  obtain ⟨one, hone⟩ : ∃ one, one = fI 1 := ⟨_, rfl⟩
  refine qt hE hI hm (fun z : Nat × Int × Fp => (mkT 27 [(1, .roi .u8 bs), (2, .ptr 0 (.l 0)), (4, .ptr 8 (.l 0)), (5, .ptr 24 (.l 0)), (6, .int .i64 z.2.1)], [(24, .ab (.re z.2.2)), (8, .row .i64 16 [0, 0, 0, 0, 0, 0, 0, 0, 0, 0, 0, 0, 0, 0, 0, 0]), (0, .ab (.re a))])) (fun z => z.1 <= L8 /\ z.2.1 = z.1 - 1 /\ z.2.2 = pw a (nV bs / 2 ^ z.1)) (fun z => z.1) 0 ⟨(L8, i0, one), [], ⟨Nat.le_refl _, hi0, by rw [hone, qao, Nat.div_eq_of_lt (by show nV bs < 2 ^ L8; rw [hL8]; exact h8)]; rfl⟩, Nat.zero_le _, ?_⟩ fun z hz => ⟨1000, ?_⟩
  ·conv => cbv
   subst hΩ
   exact ⟨e0, congrArg Pay.re hone.symm, trivial⟩
  obtain ⟨n, i, x⟩ := z
  obtain ⟨hn, hi, hx⟩ : n <= L8 /\ i = (n : Int) - 1 /\ x = pw a (nV bs / 2 ^ n) := hz
  conv => cbv
  constructor
  ·intro hc
   have hc' : i >= 0 := by rw [hΩ] at hc; exact of_decide_eq_true hc
   obtain ⟨m, rfl⟩ : ∃ m : Nat, i = m := ⟨i.toNat, by omega⟩
   have hm1 : n = m + 1 := by omega
   have hb2 := qgO (nV bs) m
   have hst : pw a (nV bs / 2 ^ m) = if bitN (nV bs) m = 1 then x * x * a else x * x := by
    rw [half_bit, hx, hm1, Nat.mul_comm 2, qcH, qb9]
    have e2 : pw (pw a (nV bs / 2 ^ (m + 1))) 2 = pw a (nV bs / 2 ^ (m + 1)) * pw a (nV bs / 2 ^ (m + 1)) := by
     generalize pw a (nV bs / 2 ^ (m + 1)) = w
     simp only [pw]; grind -lia -linarith -order -ac (splits := 0)
    rw [e2]
    by_cases e : bitN (nV bs) m = 1
    ·rw [if_pos e, e, qcI]
    ·rw [if_neg e, show bitN (nV bs) m = 0 by omega]
     generalize pw a (nV bs / 2 ^ (m + 1)) = w
     simp only [pw]; grind -lia -linarith -order -ac (splits := 0)
   have ht : (if (m : Int) < 0 then (0 : Int) else ((bitN (nV bs) (m : Int).toNat : Nat) : Int)) = ((bitN (nV bs) m : Nat) : Int) := by
    rw [if_neg (by omega), Int.toNat_natCast]
   obtain ⟨x2, hx2⟩ : ∃ x2, x2 = pw a (nV bs / 2 ^ m) := ⟨_, rfl⟩
   obtain ⟨i2, hi2⟩ : ∃ i2 : Int, i2 = (m : Int) - 1 := ⟨_, rfl⟩
   have ei : binL .sub .i64 (m : Int) 1 = i2 := by rw [qO (by omega) (by omega), hi2]
   conv => cbv
   repeat (constructor; (first | exact fun _ => trivial | exact fun _ _ => (by decide)); intro _ _; conv => cbv)
   have hmi : -9223372036854775808 <= (m : Int) /\ (m : Int) < 9223372036854775808 := by omega
   constructor
   ·exact fun _ _ => ⟨by omega, hmi, hb⟩
   intro _ _
   conv => cbv
   constructor
   ·intro hc2
    have hbt : bitN (nV bs) m = 1 := by
     subst hΩ
     have h : (if (m : Int) < 0 then (0 : Int) else ((bitN (nV bs) (m : Int).toNat : Nat) : Int)) = 1 := eq_of_beq hc2
     rw [ht] at h; omega
    rw [if_pos hbt] at hst
    conv => cbv
    repeat (constructor; (first | exact fun _ => trivial | exact fun _ _ => (by decide)); intro _ _; conv => cbv)
    refine ⟨(m, i2, x2), [], ⟨by omega, hi2, hx2⟩, by simp only; omega, Nat.zero_le _, ?_⟩
    conv => cbv
    subst hΩ
    exact ⟨ei, by rw [hx2, hst]; rfl, trivial⟩
   ·intro hc2
    have hbt : ¬ bitN (nV bs) m = 1 := by
     subst hΩ
     have h : ¬ (if (m : Int) < 0 then (0 : Int) else ((bitN (nV bs) (m : Int).toNat : Nat) : Int)) = 1 := ne_of_beq_false hc2
     rw [ht] at h; omega
    rw [if_neg hbt] at hst
    conv => cbv
    refine ⟨(m, i2, x2), [], ⟨by omega, hi2, hx2⟩, by simp only; omega, Nat.zero_le _, ?_⟩
    conv => cbv
    subst hΩ
    exact ⟨ei, by rw [hx2, hst]; rfl, trivial⟩
  ·intro hc
   have hc' : ¬ i >= 0 := by rw [hΩ] at hc; exact of_decide_eq_false hc
   have h0 : n = 0 := by omega
   conv => cbv
   refine hQ () _ _ _ trivial ?_
   subst hΩ
   show Pay.re x = Pay.re (pw a (nV bs))
   rw [hx, h0, Nat.pow_zero, Nat.div_one]
def qhB (Ω : Om) : qe := fun args => match args with
 | [.ab (.re x)] => ⟨True, Unit, fun _ => True, fun _ => .bs (Ω.hide _ fun _ => decide (x.val % 2 = 1))⟩
 | _ => PR.none
theorem qup : Ctr Tryz.prog T glob 167 (qhB Om.real) := by
 refine qap T_ok qg qh (fun Ω => []) [] (fun Ω => []) [] qi qj qk ql Tryz.func167 (by rfl) (by kernel_rfl) Tryz.call167 ?_ ?_
 ·intro args; unfold qhB; split
  ·exact qr (by repeat' constructor) (fun _ _ => rfl) (by repeat' constructor)
  ·exact PR.good_none
 ·intro P Ω hΩ hE hI hm args pr hs hp cs hcs Q hQ
  unfold qhB at hs
  split at hs <;> subst hs <;> try (exact hp.elim)
  rename_i x
  obtain ⟨_, _, rfl, ⟨xs, rfl, hx⟩, rfl⟩ := hcs
  have hx : okRe x xs := hx
  refine ⟨1000, ?_⟩
  conv => cbv
  refine hQ () _ _ _ trivial ?_
  subst hΩ
  show (binL .rem .i64 (xs.getD 0 0) 2 == 1) = decide (x.val % 2 = 1)
  have h0 := hx.2.1 _ (q8 (l := xs) (i := 0) (by rw [hx.1]; decide))
  have e : binL .rem .i64 (xs.getD 0 0) 2 = xs.getD 0 0 % 2 := Int.tmod_eq_emod_of_nonneg h0.1
  rw [e, qsE hx, Bool.beq_eq_decide_eq]
  apply decide_eq_decide.2
  omega
def qdQ (Ω : Om) : qe := fun args => match args with
 | [.ab (.re x)] => ⟨True, Unit, fun _ => True, fun _ => .ab (.re (Ω.hide _ fun _ => fabs x))⟩
 | _ => PR.none
theorem qjT : Ctr Tryz.prog T glob 95 (qdQ Om.real) := by
 refine qq T_ok qg qh (fun Ω => [(167, qhB Ω), (34, qcs Ω)]) [] (fun Ω => []) [] (qb qup (qb qe6 qi)) qj qk ql Tryz.func95 (by rfl) (by kernel_rfl) Tryz.call95 ?_ ?_
 ·intro args; unfold qdQ; split
  ·exact qr (by repeat' constructor) (fun _ _ => rfl) (by repeat' constructor)
  ·exact PR.good_none
 ·intro P Ω hΩ hE hI hm args pr hs hp Q hQ
  unfold qdQ at hs
  split at hs <;> subst hs <;> try (exact hp.elim)
  rename_i x
  refine ⟨1000, ?_⟩
  conv => cbv
  repeat (constructor; (first | exact fun _ => trivial | exact fun _ _ => (by decide)); intro _ _; conv => cbv)
  constructor
  ·intro hc
   cbv
   repeat (constructor; (first | exact fun _ => trivial | exact fun _ _ => (by decide)); intro _ _; conv => cbv)
   refine hQ () _ _ _ trivial ?_
   subst hΩ
   have h : x.val % 2 = 1 := of_decide_eq_true hc
   exact congrArg Pay.re (if_pos h).symm
  ·intro hc
   cbv
   refine hQ () _ _ _ trivial ?_
   subst hΩ
   have h : ¬ x.val % 2 = 1 := of_decide_eq_false hc
   exact congrArg Pay.re (if_neg h).symm
def qc7 (Ω : Om) : qe := fun args => match args with
 | [.ab (.re x)] => ⟨True, Unit, fun _ => True, fun _ => .ab (.re (Ω.hide _ fun _ => finv x))⟩
 | _ => PR.none
theorem qhC : Ctr Tryz.prog T glob 97 (qc7 Om.real) := by
 refine qq T_ok qg qh (fun Ω => [(187, qe8 Ω), (186, qhy Ω), (185, qe9 Ω)]) [] (fun Ω => []) [] (qb qok (qb quj (qb qol qi))) qj qk ql Tryz.func97 (by rfl) (by kernel_rfl) Tryz.call97 ?_ ?_
 ·intro args; unfold qc7; split
  ·exact qr (by repeat' constructor) (fun _ _ => rfl) (by repeat' constructor)
  ·exact PR.good_none
 ·intro P Ω hΩ hE hI hm args pr hs hp Q hQ
  unfold qc7 at hs
  split at hs <;> subst hs <;> try (exact hp.elim)
  rename_i x
  refine ⟨1000, ?_⟩
  conv => cbv
  constructor
  ·exact fun _ => trivial
  intro z hz
  have hz : z.1 = qbt /\ z.1.length <= z.2 := by subst hΩ; exact hz
  have hzb : Byt z.1 := by rw [hz.1]; decide
  have hzl : z.1.length = 56 := by rw [hz.1]; rfl
  conv => cbv
  have hsub : (z.1.drop 0).take z.1.length = z.1 := by rw [List.drop_zero, List.take_length]
  constructor
  ·exact fun _ => ⟨by subst hΩ; show 0 + z.1.length <= z.1.length; omega, by show 0 + 1 <= 1; decide, trivial⟩
  constructor
  ·intro _ _
   subst hΩ
   show nV [2] <= nV ((z.1.drop 0).take z.1.length) /\ (((z.1.drop 0).take z.1.length).length < _ /\ _) /\ Byt ((z.1.drop 0).take z.1.length) /\ _
   rw [hsub, hz.1]
   exact ⟨by decide +kernel, ⟨by decide, by decide⟩, by decide, by decide⟩
  intro y hy
  have hy : nV y.1 = nV qbt - nV [2] /\ Byt y.1 /\ y.1.length <= 56 /\ y.1.length <= y.2 := by
   subst hΩ
   have h : nV y.1 = nV ((z.1.drop 0).take z.1.length) - nV [2] /\ Byt y.1 /\ y.1.length <= ((z.1.drop 0).take z.1.length).length /\ y.1.length <= y.2 := hy
   rw [hsub, hz.1] at h
   exact h
  obtain ⟨ys, yc⟩ := y
  obtain ⟨hy1, hy2, hy3, hy4⟩ : nV ys = nV qbt - nV [2] /\ Byt ys /\ ys.length <= 56 /\ ys.length <= yc := hy
  have hsub2 : (ys.drop 0).take ys.length = ys := by rw [List.drop_zero, List.take_length]
  conv => cbv
  constructor
  ·exact fun _ => ⟨trivial, by subst hΩ; show 0 + ys.length <= ys.length; omega, trivial⟩
  constructor
  ·intro _ _
   subst hΩ
   show ((ys.drop 0).take ys.length).length < _ /\ Byt ((ys.drop 0).take ys.length)
   rw [hsub2]
   exact ⟨by omega, hy2⟩
  intro _ _
  conv => cbv
  refine hQ () _ _ _ trivial ?_
  subst hΩ
  show Pay.re (pw x (nV ((ys.drop 0).take ys.length))) = Pay.re (finv x)
  rw [hsub2, hy1, qsD]
def qfa (Ω : Om) : qe := fun args => match args with
 | [.ab (.re a)] => ⟨True, Bool, fun z => z = decide (a * qo a * (a * qo a) = a), fun z => match z with | true => .tup [.ab (.re (Ω.hide _ fun _ => fabs (a * qo a))), .bl true] | false => .tup [.row .i64 16 [0, 0, 0, 0, 0, 0, 0, 0, 0, 0, 0, 0, 0, 0, 0, 0], .bl false]⟩
 | _ => PR.none
theorem qom : Ctr Tryz.prog T glob 184 (qfa Om.real) := by
 refine qq T_ok qg qh (fun Ω => [(187, qe8 Ω), (124, qhz Ω), (244, qhA Ω), (185, qe9 Ω), (91, qbf Ω), (100, qhv Ω), (95, qdQ Ω)]) [] (fun Ω => []) [] (qb qok (qb qul (qb qun (qb qol (qb qbV (qb quf (qb qjT qi))))))) qj qk ql Tryz.func184 (by rfl) (by kernel_rfl) Tryz.call184 ?_ ?_
 ·intro args; unfold qfa; split
  ·exact qa8 ⟨fun x => by cases x <;> repeat' (first | exact trivial | constructor), fun E x b => by cases x <;> rfl⟩ ⟨trivial, trivial⟩ (fun _ => ⟨_, rfl⟩)
  ·exact PR.good_none
 ·intro P Ω hΩ hE hI hm args pr hs hp Q hQ
  unfold qfa at hs
  split at hs <;> subst hs <;> try (exact hp.elim)
  rename_i a
  refine ⟨1000, ?_⟩
  conv => cbv
  constructor
  ·exact fun _ => trivial
  intro z hz
  have hz : z.1 = qbt /\ z.1.length <= z.2 := by subst hΩ; exact hz
  have hzb : Byt z.1 := by rw [hz.1]; decide
  have hzl : z.1.length = 56 := by rw [hz.1]; rfl
  conv => cbv
  have hsub : (z.1.drop 0).take z.1.length = z.1 := by rw [List.drop_zero, List.take_length]
  constructor
  ·exact fun _ => ⟨by subst hΩ; show 0 + z.1.length <= z.1.length; omega, by show 0 + 1 <= 1; decide, trivial⟩
  constructor
  ·intro _ _
   subst hΩ
   show (((z.1.drop 0).take z.1.length).length < _ /\ _) /\ Byt ((z.1.drop 0).take z.1.length) /\ _
   rw [hsub, hz.1]
   exact ⟨⟨by decide, by decide⟩, by decide, by decide⟩
  intro y hy
  have hy : nV y.1 = nV qbt + nV [1] /\ Byt y.1 /\ y.1.length <= 57 /\ y.1.length <= y.2 := by
   subst hΩ
   have h : nV y.1 = nV ((z.1.drop 0).take z.1.length) + nV [1] /\ Byt y.1 /\ y.1.length <= max ((z.1.drop 0).take z.1.length).length [1].length + 1 /\ y.1.length <= y.2 := hy
   rw [hsub, hz.1] at h
   exact h
  obtain ⟨ys, yc⟩ := y
  obtain ⟨hy1, hy2, hy3, hy4⟩ : nV ys = nV qbt + nV [1] /\ Byt ys /\ ys.length <= 57 /\ ys.length <= yc := hy
  have hsub2 : (ys.drop 0).take ys.length = ys := by rw [List.drop_zero, List.take_length]
  conv => cbv
  constructor
  ·exact fun _ => ⟨by subst hΩ; show 0 + ys.length <= ys.length; omega, trivial, trivial⟩
  constructor
  ·intro _ _
   subst hΩ
   show (_ /\ _) /\ ((ys.drop 0).take ys.length).length < _ /\ Byt ((ys.drop 0).take ys.length)
   rw [hsub2]
   exact ⟨⟨by decide, by decide⟩, by omega, hy2⟩
  intro x hx
  have hx : nV x.1 = nV ys / 2 ^ 2 /\ Byt x.1 /\ x.1.length <= 57 /\ x.1.length <= x.2 := by
   subst hΩ
   have h : nV x.1 = nV ((ys.drop 0).take ys.length) / 2 ^ 2 /\ Byt x.1 /\ x.1.length <= ((ys.drop 0).take ys.length).length /\ x.1.length <= x.2 := hx
   rw [hsub2] at h
   exact ⟨h.1, h.2.1, by omega, h.2.2.2⟩
  obtain ⟨xs, xc⟩ := x
  obtain ⟨hx1, hx2, hx3, hx4⟩ : nV xs = nV ys / 2 ^ 2 /\ Byt xs /\ xs.length <= 57 /\ xs.length <= xc := hx
  have hsub3 : (xs.drop 0).take xs.length = xs := by rw [List.drop_zero, List.take_length]
  have hxv : nV xs = 181709681073901722637330951972001133588410340171829515070372549795153082041682693171599095924669136482522221115460909340263374504591360 := by
   rw [hx1, hy1]; decide +kernel
  conv => cbv
  constructor
  ·exact fun _ => ⟨trivial, by subst hΩ; show 0 + xs.length <= xs.length; omega, trivial⟩
  constructor
  ·intro _ _
   subst hΩ
   show ((xs.drop 0).take xs.length).length < _ /\ Byt ((xs.drop 0).take xs.length)
   rw [hsub3]
   exact ⟨by omega, hx2⟩
  intro _ _
  conv => cbv
  have hpv : pw a (nV ((xs.drop 0).take xs.length)) = a * qo a := by rw [hsub3, hxv, qsy]
  repeat (constructor; (first | exact fun _ => trivial | exact fun _ _ => (by decide)); intro _ _; conv => cbv)
  constructor
  ·intro hc
   have h : ¬ a * qo a * (a * qo a) = a := by
    subst hΩ
    have h : (!decide (pw a (nV ((xs.drop 0).take xs.length)) * pw a (nV ((xs.drop 0).take xs.length)) = a)) = true := hc
    rw [hpv, Bool.not_eq_true'] at h
    exact of_decide_eq_false h
   conv => cbv
   refine hQ false _ _ _ (decide_eq_false h).symm ?_
   subst hΩ
   exact ⟨⟨⟨rfl, rfl, rfl⟩, rfl, trivial⟩, rfl, rfl⟩
  ·intro hc
   have h : a * qo a * (a * qo a) = a := by
    subst hΩ
    have h : (!decide (pw a (nV ((xs.drop 0).take xs.length)) * pw a (nV ((xs.drop 0).take xs.length)) = a)) = false := hc
    rw [hpv, Bool.not_eq_false'] at h
    exact of_decide_eq_true h
   conv => cbv
   repeat (constructor; (first | exact fun _ => trivial | exact fun _ _ => (by decide)); intro _ _; conv => cbv)
   refine hQ true _ _ _ (decide_eq_true h).symm ?_
   subst hΩ
   exact ⟨⟨congrArg (fun w => Pay.re (fabs w)) hpv, rfl, trivial⟩, rfl, rfl⟩
def qfb (Ω : Om) : qe := fun args => match args with
 | [.ab (.re u), .ab (.re v)] => ⟨True, Unit, fun _ => True, fun _ => .tup [.ab (.re (Ω.hide _ fun _ => qG u v)), .bs (Ω.hide _ fun _ => decide (v * (u * qo (u * v) * (u * qo (u * v))) = u))]⟩
 | _ => PR.none
theorem qon : Ctr Tryz.prog T glob 94 (qfb Om.real) := by
 refine qq T_ok qg qh (fun Ω => [(97, qc7 Ω), (91, qbf Ω), (184, qfa Ω), (34, qcs Ω)]) [] (fun Ω => []) [] (qb qhC (qb qbV (qb qom (qb qe6 qi)))) qj qk ql Tryz.func94 (by rfl) (by kernel_rfl) Tryz.call94 ?_ ?_
 ·intro args; unfold qfb; split
  ·exact qr (by repeat' constructor) (fun _ _ => rfl) (by repeat' constructor)
  ·exact PR.good_none
 ·intro P Ω hΩ hE hI hm args pr hs hp Q hQ
  unfold qfb at hs
  split at hs <;> subst hs <;> try (exact hp.elim)
  rename_i u v
  refine ⟨1000, ?_⟩
  conv => cbv
  constructor
  ·intro hc
   have hu : u = 0 := by
    subst hΩ
    have h : reEq u [0, 0, 0, 0, 0, 0, 0, 0, 0, 0, 0, 0, 0, 0, 0, 0] = true := hc
    rw [qgV] at h
    exact of_decide_eq_true h
   conv => cbv
   refine hQ () _ _ _ trivial ?_
   subst hΩ
   subst hu
   have h0 := qsB v
   refine ⟨⟨⟨rfl, ?_⟩, ?_, trivial⟩, rfl, rfl⟩
   ·show okRe (qG 0 v) _
    rw [h0.1]; exact qnK
   ·exact (decide_eq_true h0.2).symm
  ·intro hc
   have hu : u ≠ 0 := by
    subst hΩ
    have h : reEq u [0, 0, 0, 0, 0, 0, 0, 0, 0, 0, 0, 0, 0, 0, 0, 0] = false := hc
    rw [qgV] at h
    exact of_decide_eq_false h
   conv => cbv
   constructor
   ·intro hc2
    have hv : v = 0 := by
     subst hΩ
     have h : reEq v [0, 0, 0, 0, 0, 0, 0, 0, 0, 0, 0, 0, 0, 0, 0, 0] = true := hc2
     rw [qgV] at h
     exact of_decide_eq_true h
    conv => cbv
    refine hQ () _ _ _ trivial ?_
    subst hΩ
    subst hv
    have h0 := qsC hu
    refine ⟨⟨⟨rfl, ?_⟩, ?_, trivial⟩, rfl, rfl⟩
    ·show okRe (qG u 0) _
     rw [h0.1]; exact qnK
    ·exact (decide_eq_false h0.2).symm
   ·intro hc2
    have hv : v ≠ 0 := by
     subst hΩ
     have h : reEq v [0, 0, 0, 0, 0, 0, 0, 0, 0, 0, 0, 0, 0, 0, 0, 0] = false := hc2
     rw [qgV] at h
     exact of_decide_eq_false h
    obtain ⟨r1, r2⟩ := qsA hu hv
    conv => cbv
    repeat (constructor; (first | exact fun _ => trivial | exact fun _ _ => (by decide)); intro _ _; conv => cbv)
    rename_i z hz
    have hz : z = decide (u * finv v * qo (u * finv v) * (u * finv v * qo (u * finv v)) = u * finv v) := by subst hΩ; exact hz
    cases z with
    | true =>
      have h := of_decide_eq_true hz.symm
      obtain ⟨g1, g2⟩ := r1 h
      conv => cbv
      refine hQ () _ _ _ trivial ?_
      subst hΩ
      exact ⟨⟨congrArg Pay.re g1.symm, (decide_eq_true g2).symm, trivial⟩, rfl, rfl⟩
    | false =>
      have h := of_decide_eq_false hz.symm
      obtain ⟨g1, g2, g3⟩ := r2 h
      conv => cbv
      repeat (constructor; (first | exact fun _ => trivial | exact fun _ _ => (by decide)); intro _ _; conv => cbv)
      rename_i y hy
      have hy : y = true := by
        subst hΩ
        have h : y = decide (-(u * finv v) * qo (-(u * finv v)) * (-(u * finv v) * qo (-(u * finv v))) = -(u * finv v)) := hy
        rw [h]; exact decide_eq_true g2
      subst hy
      conv => cbv
      refine hQ () _ _ _ trivial ?_
      subst hΩ
      exact ⟨⟨congrArg Pay.re g1.symm, (decide_eq_false g3).symm, trivial⟩, rfl, rfl⟩
end Go.Sx.Tryz
end
section
set_option maxHeartbeats 4000000
namespace Go.Sx.Tryz
open Go.Proofs
set_option maxRecDepth 40000
def quI (Ω : Om) : qe := fun args => match args with
 | [.int .u8 b] => ⟨∀ _ : Unit, qsF b, Unit, fun _ => True, fun _ => .int .i64 (Ω.hide _ fun _ => hd b)⟩
 | _ => PR.none
def quJ (Ω : Om) : qe := fun args => match args with
 | [] => ⟨True, Unit, fun _ => True, fun _ => .ab (.rp (Ω.hide _ fun _ => pid))⟩
 | _ => PR.none
def qhD (Ω : Om) : qe := fun args => match args with
 | [] => ⟨True, Unit, fun _ => True, fun _ => .ab (.re (Ω.hide _ fun _ => fI (-39081)))⟩
 | _ => PR.none
theorem quq : Ctr Tryz.prog T glob 194 (qhD Om.real) := by
 refine qq T_ok qg qh (fun Ω => [(90, qbW Ω)]) [] (fun Ω => []) [] (qb qdN qi) qj qk ql Tryz.func194 (by rfl) (by kernel_rfl) Tryz.call194 ?_ ?_
 ·intro args; unfold qhD; split
  ·exact qr (by repeat' constructor) (fun _ _ => rfl) (by repeat' constructor)
  ·exact PR.good_none
 ·intro P Ω hΩ hE hI hm args pr hs hp Q hQ
  unfold qhD at hs
  split at hs <;> subst hs <;> try (exact hp.elim)
  refine ⟨1000, ?_⟩
  conv => cbv
  repeat (constructor; (first | exact fun _ => trivial | exact fun _ _ => (by decide)); intro _ _; conv => cbv)
  refine hQ () _ _ _ trivial ?_
  subst hΩ
  rfl
def qhE (Ω : Om) : qe := fun args => match args with
 | [.ab (.rp P), .ab (.rp Q)] => ⟨True, Unit, fun _ => True, fun _ => .ab (.rp (Ω.hide _ fun _ => padd P Q))⟩
 | _ => PR.none
theorem qur : Ctr Tryz.prog T glob 109 (qhE Om.real) := by
 refine qap T_ok qg qh (fun Ω => [(91, qbf Ω), (93, qc6 Ω), (92, qdM Ω), (194, qhD Ω)]) [] (fun Ω => []) [] (qb qbV (qb qhu (qb qjQ (qb quq qi)))) qj qk ql Tryz.func109 (by rfl) (by kernel_rfl) Tryz.call109 ?_ ?_
 ·intro args; unfold qhE; split
  ·exact qr (by repeat' constructor) (fun _ _ => rfl) (by repeat' constructor)
  ·exact PR.good_none
 ·intro P Ω hΩ hE hI hm args pr hs hp cs hcs Q hQ
  unfold qhE at hs
  split at hs <;> subst hs <;> try (exact hp.elim)
  rename_i P R
  obtain ⟨_, _, rfl, ⟨X1, Y1, Z1, rfl, hP, z1, x1, y1⟩, _, _, rfl, ⟨X2, Y2, Z2, rfl, hR, z2, x2, y2⟩, rfl⟩ := hcs
  refine ⟨1000, ?_⟩
  conv => cbv
  repeat (constructor; (first | exact fun _ => trivial | exact fun _ _ => (by decide)); intro _ _; conv => cbv)
  refine hQ () _ _ _ trivial ?_
  subst hΩ
  have h := qnL hP hR z1 x1 y1 z2 x2 y2
  rw [<- fI_d] at h
  exact qlS (qaO hP hR) h.1 h.2.1 h.2.2
def qhF (Ω : Om) : qe := fun args => match args with
 | [.ab (.rp P)] => ⟨True, Unit, fun _ => True, fun _ => .tup [.ab (.re (Ω.hide _ fun _ => P.x)), .ab (.re (Ω.hide _ fun _ => P.y))]⟩
 | _ => PR.none
theorem qus : Ctr Tryz.prog T glob 166 (qhF Om.real) := by
 refine qap T_ok qg qh (fun Ω => [(97, qc7 Ω), (91, qbf Ω)]) [] (fun Ω => []) [] (qb qhC (qb qbV qi)) qj qk ql Tryz.func166 (by rfl) (by kernel_rfl) Tryz.call166 ?_ ?_
 ·intro args; unfold qhF; split
  ·exact qr (by repeat' constructor) (fun _ _ => rfl) (by repeat' constructor)
  ·exact PR.good_none
 ·intro P Ω hΩ hE hI hm args pr hs hp cs hcs Q hQ
  unfold qhF at hs
  split at hs <;> subst hs <;> try (exact hp.elim)
  rename_i P
  obtain ⟨_, _, rfl, ⟨X, Y, Z, rfl, hP, hz, hx, hy⟩, rfl⟩ := hcs
  refine ⟨1000, ?_⟩
  conv => cbv
  repeat (constructor; (first | exact fun _ => trivial | exact fun _ _ => (by decide)); intro _ _; conv => cbv)
  refine hQ () _ _ _ trivial ?_
  subst hΩ
  exact ⟨⟨congrArg Pay.re (qgw hz hx), congrArg Pay.re (qgw hz hy), trivial⟩, rfl, rfl⟩
end Go.Sx.Tryz
end
section
set_option maxHeartbeats 4000000
namespace Go.Sx.Tryz
open Go.Proofs
set_option maxRecDepth 40000
def qhG (Ω : Om) : qe := fun args => match args with
 | [.ab (.re x), .ab (.re y), .ab (.re z)] => ⟨True, Unit, fun _ => True, fun _ => .ab (.re (Ω.hide _ fun _ => x * (y * z)))⟩
 | _ => PR.none
theorem qut : Ctr Tryz.prog T glob 99 (qhG Om.real) := by
 refine qq T_ok qg qh (fun Ω => [(91, qbf Ω)]) [] (fun Ω => []) [] (qb qbV qi) qj qk ql Tryz.func99 (by rfl) (by kernel_rfl) Tryz.call99 ?_ ?_
 ·intro args; unfold qhG; split
  ·exact qr (by repeat' constructor) (fun _ _ => rfl) (by repeat' constructor)
  ·exact PR.good_none
 ·intro P Ω hΩ hE hI hm args pr hs hp Q hQ
  unfold qhG at hs
  split at hs <;> subst hs <;> try (exact hp.elim)
  refine ⟨1000, ?_⟩
  conv => cbv
  repeat (constructor; (first | exact fun _ => trivial | exact fun _ _ => (by decide)); intro _ _; conv => cbv)
  refine hQ () _ _ _ trivial ?_
  subst hΩ
  rfl
def quK (Ω : Om) : qe := fun args => match args with
 | [.ab (.re x), .ab (.re y)] => ⟨True, Unit, fun _ => True, fun _ => .bs (Ω.hide _ fun _ => decide (AP.on ⟨x, y⟩))⟩
 | _ => PR.none
def qhH (Ω : Om) : qe := fun args => match args with
 | [.ab (.re x), .ab (.re y)] => ⟨∀ _ : Unit, AP.on ⟨x, y⟩, Unit, fun _ => True, fun _ => .ab (.rp (Ω.hide _ fun _ => ⟨x, y⟩))⟩
 | _ => PR.none
theorem quu : Ctr Tryz.prog T glob 108 (qhH Om.real) := by
 refine qq T_ok qg qh (fun Ω => [(90, qbW Ω)]) [] (fun Ω => []) [] (qb qdN qi) qj qk ql Tryz.func108 (by rfl) (by kernel_rfl) Tryz.call108 ?_ ?_
 ·intro args; unfold qhH; split
  ·exact qr (by repeat' constructor) (fun _ _ => rfl) (by repeat' constructor)
  ·exact PR.good_none
 ·intro P Ω hΩ hE hI hm args pr hs hp Q hQ
  unfold qhH at hs
  split at hs <;> subst hs <;> try (exact hp.elim)
  rename_i x y
  have hon := hp ()
  refine ⟨1000, ?_⟩
  conv => cbv
  repeat (constructor; (first | exact fun _ => trivial | exact fun _ _ => (by decide)); intro _ _; conv => cbv)
  refine hQ () _ _ _ trivial ?_
  subst hΩ
  refine qlS hon qmW ?_ ?_
  ·show x = x * fI 1
   rw [qao]; grind -lia -linarith -order -ac (splits := 0)
  ·show y = y * fI 1
   rw [qao]; grind -lia -linarith -order -ac (splits := 0)
def qhI (Ω : Om) : qe := fun args => match args with
 | [] => ⟨True, Unit, fun _ => True, fun _ => .tup [.ab (.re (Ω.hide _ fun _ => qcT)), .ab (.re (Ω.hide _ fun _ => qcU))]⟩
 | _ => PR.none
theorem quv : Ctr Tryz.prog T glob 193 (qhI Om.real) := by
 refine qq T_ok qg qh (fun Ω => [(90, qbW Ω), (184, qfa Ω), (97, qc7 Ω)]) [] (fun Ω => []) [] (qb qdN (qb qom (qb qhC qi))) qj qk ql Tryz.func193 (by rfl) (by kernel_rfl) Tryz.call193 ?_ ?_
 ·intro args; unfold qhI; split
  ·exact qr (by repeat' constructor) (fun _ _ => rfl) (by repeat' constructor)
  ·exact PR.good_none
 ·intro P Ω hΩ hE hI hm args pr hs hp Q hQ
  unfold qhI at hs
  split at hs <;> subst hs <;> try (exact hp.elim)
  refine ⟨1000, ?_⟩
  conv => cbv
  constructor
  ·exact fun _ _ => (by decide)
  intro _ _
  conv => cbv
  constructor
  ·exact fun _ => trivial
  intro z hz
  have hz1 : z = true := by
   subst hΩ
   rw [show z = _ from hz]
   exact decide_eq_true (qgC pw_d)
  subst hz1
  conv => cbv
  constructor
  ·exact fun _ _ => (by decide)
  intro _ _
  conv => cbv
  constructor
  ·exact fun _ => trivial
  intro _ _
  conv => cbv
  constructor
  ·exact fun _ => trivial
  intro z hz
  have hz1 : z = true := by
   subst hΩ
   rw [show z = _ from hz]
   exact decide_eq_true (qgC pw_e)
  subst hz1
  conv => cbv
  refine hQ () _ _ _ trivial ?_
  subst hΩ
  exact ⟨⟨rfl, rfl, trivial⟩, rfl, rfl⟩
def qhJ (Ω : Om) : qe := fun args => match args with
 | [.ab (.rp P)] => ⟨True, List Int × Nat, fun z => z.1 = qae (encF P) /\ z.1.length <= z.2, fun z => .fr .u8 z.1 z.2⟩
 | _ => PR.none
theorem quw : Ctr Tryz.prog T glob 107 (qhJ Om.real) := by
 refine qq T_ok qg qh (fun Ω => [(166, qhF Ω), (91, qbf Ω), (93, qc6 Ω), (92, qdM Ω), (90, qbW Ω), (99, qhG Ω), (94, qfb Ω), (193, qhI Ω), (95, qdQ Ω), (33, qe7 Ω)]) [] (fun Ω => []) [] (qb qus (qb qbV (qb qhu (qb qjQ (qb qdN (qb qut (qb qon (qb quv (qb qjT (qb qoj qi)))))))))) qj qk ql Tryz.func107 (by rfl) (by kernel_rfl) Tryz.call107 ?_ ?_
 ·intro args; unfold qhJ; split
  ·exact qaZ ⟨trivial, trivial⟩ fun _ => qa0 _
  ·exact PR.good_none
 ·intro P Ω hΩ hE hI hm args pr hs hp Q hQ
  unfold qhJ at hs
  split at hs <;> subst hs <;> try (exact hp.elim)
  rename_i P
  refine ⟨1000, ?_⟩
  conv => cbv
  repeat (constructor; (first | exact fun _ => trivial | exact fun _ _ => (by decide)); intro _ _; conv => cbv)
  rename_i w hw
  have hw : w.1 = qae (encF P) /\ w.1.length <= w.2 := by
   subst hΩ
   rw [<- qsG P rfl rfl rfl rfl]
   exact hw
  refine hQ w _ _ _ hw ?_
  subst hΩ
  exact ⟨rfl, rfl, by show 0 + w.1.length <= w.1.length; omega, List.take_length.symm⟩
end Go.Sx.Tryz
end
section

end
section

end
section

end
