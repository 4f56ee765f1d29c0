/-
  Part of the proof of a statement: the means.
-/
import Derived.Test.YtfgejoocodofoaaGreatX9
import Derived.Test.YtfgejoocodofoaaGreatX6
set_option linter.unusedSectionVars false
set_option linter.unusedVariables false
set_option linter.unusedSimpArgs false
set_option linter.deprecated false
section
set_option maxHeartbeats 4000000
namespace Go.Sx.Tryz
open Go.Proofs
set_option maxRecDepth 40000
def qfl (Ω : Om) : qd := fun args => match args with
 | [.ab (.re a), .roi .u8 bs] => ⟨∀ _ : Unit, bs.length < 1152921504606846976 /\ Byt bs, Unit, fun _ => True, fun _ => .ab (.re (Ω.hide _ fun _ => pw a (nV bs)))⟩
 | _ => PR.none
theorem qnZ : Ctr Tryz.prog T glob 158 (qfl Om.real) := by
 refine qo T_ok qi qj (fun Ω => [(46, qbD Ω), (43, qbC Ω), (98, qcy Ω)]) [] (fun Ω => []) [] (qb qdb (qb qda (qb qfk qg))) qh qe qf Tryz.func158 (by rfl) (by kernel_rfl) Tryz.call158 ?_ ?_
 ·intro args; unfold qfl; split
  ·exact qr (by repeat' constructor) (fun _ _ => rfl) (by repeat' constructor)
  ·exact PR.good_none
 ·intro P Ω hΩ hE hI hm args pr hs hp Q hQ
  unfold qfl at hs
  split at hs <;> subst hs <;> try (exact hp.elim)
  rename_i a bs
  obtain ⟨hl, hb⟩ := hp ()
  refine ⟨1000, ?_⟩
  conv => cbv
  repeat (constructor; (first | exact fun _ => trivial | exact fun _ _ => (by decide)); intro _ _; conv => cbv)
  obtain ⟨L8, hL8⟩ : ∃ L8 : Nat, L8 = 8 * bs.length := ⟨_, rfl⟩
  obtain ⟨i0, hi0⟩ : ∃ i0 : Int, i0 = (L8 : Int) - 1 := ⟨_, rfl⟩
  have e0 : Ω.bin .sub .i64 (Ω.bin .mul .i64 8 (Ω.ofN (Ω.len bs))) 1 = i0 := by
   subst hΩ
   show binL .sub .i64 (binL .mul .i64 8 (bs.length : Int)) 1 = i0
   rw [qaj (by omega) (by omega), qx (by omega) (by omega)]; omega
  have h8 := qdV hb
  obtain ⟨one, hone⟩ : ∃ one, one = fI 1 := ⟨_, rfl⟩
  refine qv hE hI hm (fun z : Nat × Int × Fp => (mkT 27 [(1, .roi .u8 bs), (2, .ptr 0 (.l 0)), (4, .ptr 8 (.l 0)), (5, .ptr 24 (.l 0)), (6, .int .i64 z.2.1)], [(24, .ab (.re z.2.2)), (8, .row .i64 16 [0, 0, 0, 0, 0, 0, 0, 0, 0, 0, 0, 0, 0, 0, 0, 0]), (0, .ab (.re a))])) (fun z => z.1 <= L8 /\ z.2.1 = z.1 - 1 /\ z.2.2 = pw a (nV bs / 2 ^ z.1)) (fun z => z.1) 0 ⟨(L8, i0, one), [], ⟨Nat.le_refl _, hi0, by rw [hone, qaD, Nat.div_eq_of_lt (by show nV bs < 2 ^ L8; rw [hL8]; exact h8)]; rfl⟩, Nat.zero_le _, ?_⟩ fun z hz => ⟨1000, ?_⟩
  ·conv => cbv
   subst hΩ
   exact ⟨e0, congrArg Pay.re hone.symm, trivial⟩
  obtain ⟨n, i, x⟩ := z
  obtain ⟨hn, hi, hx⟩ : n <= L8 /\ i = (n : Int) - 1 /\ x = pw a (nV bs / 2 ^ n) := hz
  conv => cbv
  constructor
  ·intro hc
   have hc' : i >= 0 := by rw [hΩ] at hc; exact of_decide_eq_true hc
   obtain ⟨m, rfl⟩ : ∃ m : Nat, i = m := ⟨i.toNat, by omega⟩
   have hm1 : n = m + 1 := by omega
   have hb2 := qbT (nV bs) m
   have hst : pw a (nV bs / 2 ^ m) = if bitN (nV bs) m = 1 then x * x * a else x * x := by
    rw [half_bit, hx, hm1, Nat.mul_comm 2, qcV, qch]
    have e2 : pw (pw a (nV bs / 2 ^ (m + 1))) 2 = pw a (nV bs / 2 ^ (m + 1)) * pw a (nV bs / 2 ^ (m + 1)) := by
     generalize pw a (nV bs / 2 ^ (m + 1)) = w
     simp only [pw]; grind -lia -linarith -order -ac (splits := 0)
    rw [e2]
    by_cases e : bitN (nV bs) m = 1
    ·rw [if_pos e, e, qcW]
    ·rw [if_neg e, show bitN (nV bs) m = 0 by omega]
     generalize pw a (nV bs / 2 ^ (m + 1)) = w
     simp only [pw]; grind -lia -linarith -order -ac (splits := 0)
   have ht : (if (m : Int) < 0 then (0 : Int) else ((bitN (nV bs) (m : Int).toNat : Nat) : Int)) = ((bitN (nV bs) m : Nat) : Int) := by
    rw [if_neg (by omega), Int.toNat_natCast]
   obtain ⟨x2, hx2⟩ : ∃ x2, x2 = pw a (nV bs / 2 ^ m) := ⟨_, rfl⟩
   obtain ⟨i2, hi2⟩ : ∃ i2 : Int, i2 = (m : Int) - 1 := ⟨_, rfl⟩
   have ei : binL .sub .i64 (m : Int) 1 = i2 := by rw [qx (by omega) (by omega), hi2]
   conv => cbv
   repeat (constructor; (first | exact fun _ => trivial | exact fun _ _ => (by decide)); intro _ _; conv => cbv)
   have hmi : -9223372036854775808 <= (m : Int) /\ (m : Int) < 9223372036854775808 := by omega
   constructor
   ·exact fun _ _ => ⟨by omega, hmi, hb⟩
   intro _ _
   conv => cbv
   constructor
   ·intro hc2
    have hbt : bitN (nV bs) m = 1 := by
     subst hΩ
     have h : (if (m : Int) < 0 then (0 : Int) else ((bitN (nV bs) (m : Int).toNat : Nat) : Int)) = 1 := eq_of_beq hc2
     rw [ht] at h; omega
    rw [if_pos hbt] at hst
    conv => cbv
    repeat (constructor; (first | exact fun _ => trivial | exact fun _ _ => (by decide)); intro _ _; conv => cbv)
    refine ⟨(m, i2, x2), [], ⟨by omega, hi2, hx2⟩, by simp only; omega, Nat.zero_le _, ?_⟩
    conv => cbv
    subst hΩ
    exact ⟨ei, by rw [hx2, hst]; rfl, trivial⟩
   ·intro hc2
    have hbt : ¬ bitN (nV bs) m = 1 := by
     subst hΩ
     have h : ¬ (if (m : Int) < 0 then (0 : Int) else ((bitN (nV bs) (m : Int).toNat : Nat) : Int)) = 1 := ne_of_beq_false hc2
     rw [ht] at h; omega
    rw [if_neg hbt] at hst
    conv => cbv
    refine ⟨(m, i2, x2), [], ⟨by omega, hi2, hx2⟩, by simp only; omega, Nat.zero_le _, ?_⟩
    conv => cbv
    subst hΩ
    exact ⟨ei, by rw [hx2, hst]; rfl, trivial⟩
  ·intro hc
   have hc' : ¬ i >= 0 := by rw [hΩ] at hc; exact of_decide_eq_false hc
   have h0 : n = 0 := by omega
   conv => cbv
   refine hQ () _ _ _ trivial ?_
   subst hΩ
   show Pay.re x = Pay.re (pw a (nV bs))
   rw [hx, h0, Nat.pow_zero, Nat.div_one]
def qfm (Ω : Om) : qd := fun args => match args with
 | [.ab (.re x)] => ⟨True, Unit, fun _ => True, fun _ => .bs (Ω.hide _ fun _ => decide (x.val % 2 = 1))⟩
 | _ => PR.none
theorem qn0 : Ctr Tryz.prog T glob 67 (qfm Om.real) := by
 refine qal T_ok qi qj (fun Ω => []) [] (fun Ω => []) [] qg qh qe qf Tryz.func67 (by rfl) (by kernel_rfl) Tryz.call67 ?_ ?_
 ·intro args; unfold qfm; split
  ·exact qr (by repeat' constructor) (fun _ _ => rfl) (by repeat' constructor)
  ·exact PR.good_none
 ·intro P Ω hΩ hE hI hm args pr hs hp cs hcs Q hQ
  unfold qfm at hs
  split at hs <;> subst hs <;> try (exact hp.elim)
  rename_i x
  obtain ⟨_, _, rfl, ⟨xs, rfl, hx⟩, rfl⟩ := hcs
  have hx : okRe x xs := hx
  refine ⟨1000, ?_⟩
  conv => cbv
  refine hQ () _ _ _ trivial ?_
  subst hΩ
  show (binL .rem .i64 (xs.getD 0 0) 2 == 1) = decide (x.val % 2 = 1)
  have h0 := hx.2.1 _ (qX (l := xs) (i := 0) (by rw [hx.1]; decide))
  have e : binL .rem .i64 (xs.getD 0 0) 2 = xs.getD 0 0 % 2 := Int.tmod_eq_emod_of_nonneg h0.1
  rw [e, qsx hx, Bool.beq_eq_decide_eq]
  apply decide_eq_decide.2
  omega
def qfn (Ω : Om) : qd := fun args => match args with
 | [.ab (.re x)] => ⟨True, Unit, fun _ => True, fun _ => .ab (.re (Ω.hide _ fun _ => fabs x))⟩
 | _ => PR.none
theorem qn1 : Ctr Tryz.prog T glob 50 (qfn Om.real) := by
 refine qo T_ok qi qj (fun Ω => [(67, qfm Ω), (78, qcv Ω)]) [] (fun Ω => []) [] (qb qn0 (qb qfc qg)) qh qe qf Tryz.func50 (by rfl) (by kernel_rfl) Tryz.call50 ?_ ?_
 ·intro args; unfold qfn; split
  ·exact qr (by repeat' constructor) (fun _ _ => rfl) (by repeat' constructor)
  ·exact PR.good_none
 ·intro P Ω hΩ hE hI hm args pr hs hp Q hQ
  unfold qfn at hs
  split at hs <;> subst hs <;> try (exact hp.elim)
  rename_i x
  refine ⟨1000, ?_⟩
  conv => cbv
  repeat (constructor; (first | exact fun _ => trivial | exact fun _ _ => (by decide)); intro _ _; conv => cbv)
  constructor
  ·intro hc
   cbv
   repeat (constructor; (first | exact fun _ => trivial | exact fun _ _ => (by decide)); intro _ _; conv => cbv)
   refine hQ () _ _ _ trivial ?_
   subst hΩ
   have h : x.val % 2 = 1 := of_decide_eq_true hc
   exact congrArg Pay.re (if_pos h).symm
  ·intro hc
   cbv
   refine hQ () _ _ _ trivial ?_
   subst hΩ
   have h : ¬ x.val % 2 = 1 := of_decide_eq_false hc
   exact congrArg Pay.re (if_neg h).symm
def qdY (Ω : Om) : qd := fun args => match args with
 | [.ab (.re x)] => ⟨True, Unit, fun _ => True, fun _ => .ab (.re (Ω.hide _ fun _ => finv x))⟩
 | _ => PR.none
theorem qjW : Ctr Tryz.prog T glob 105 (qdY Om.real) := by
 refine qo T_ok qi qj (fun Ω => [(65, qfe Ω), (140, qdX Ω), (158, qfl Ω)]) [] (fun Ω => []) [] (qb qnO (qb qjU (qb qnZ qg))) qh qe qf Tryz.func105 (by rfl) (by kernel_rfl) Tryz.call105 ?_ ?_
 ·intro args; unfold qdY; split
  ·exact qr (by repeat' constructor) (fun _ _ => rfl) (by repeat' constructor)
  ·exact PR.good_none
 ·intro P Ω hΩ hE hI hm args pr hs hp Q hQ
  unfold qdY at hs
  split at hs <;> subst hs <;> try (exact hp.elim)
  rename_i x
  refine ⟨1000, ?_⟩
  conv => cbv
  constructor
  ·exact fun _ => trivial
  intro z hz
  have hz : z.1 = qbt /\ z.1.length <= z.2 := by subst hΩ; exact hz
  have hzb : Byt z.1 := by rw [hz.1]; decide
  have hzl : z.1.length = 56 := by rw [hz.1]; rfl
  conv => cbv
  have hsub : (z.1.drop 0).take z.1.length = z.1 := by rw [List.drop_zero, List.take_length]
  constructor
  ·exact fun _ => ⟨by subst hΩ; show 0 + z.1.length <= z.1.length; omega, by show 0 + 1 <= 1; decide, trivial⟩
  constructor
  ·intro _ _
   subst hΩ
   show nV [2] <= nV ((z.1.drop 0).take z.1.length) /\ (((z.1.drop 0).take z.1.length).length < _ /\ _) /\ Byt ((z.1.drop 0).take z.1.length) /\ _
   rw [hsub, hz.1]
   exact ⟨by decide +kernel, ⟨by decide, by decide⟩, by decide, by decide⟩
  intro y hy
  have hy : nV y.1 = nV qbt - nV [2] /\ Byt y.1 /\ y.1.length <= 56 /\ y.1.length <= y.2 := by
   subst hΩ
   have h : nV y.1 = nV ((z.1.drop 0).take z.1.length) - nV [2] /\ Byt y.1 /\ y.1.length <= ((z.1.drop 0).take z.1.length).length /\ y.1.length <= y.2 := hy
   rw [hsub, hz.1] at h
   exact h
  obtain ⟨ys, yc⟩ := y
  obtain ⟨hy1, hy2, hy3, hy4⟩ : nV ys = nV qbt - nV [2] /\ Byt ys /\ ys.length <= 56 /\ ys.length <= yc := hy
  have hsub2 : (ys.drop 0).take ys.length = ys := by rw [List.drop_zero, List.take_length]
  conv => cbv
  constructor
  ·exact fun _ => ⟨trivial, by subst hΩ; show 0 + ys.length <= ys.length; omega, trivial⟩
  constructor
  ·intro _ _
   subst hΩ
   show ((ys.drop 0).take ys.length).length < _ /\ Byt ((ys.drop 0).take ys.length)
   rw [hsub2]
   exact ⟨by omega, hy2⟩
  intro _ _
  conv => cbv
  refine hQ () _ _ _ trivial ?_
  subst hΩ
  show Pay.re (pw x (nV ((ys.drop 0).take ys.length))) = Pay.re (finv x)
  rw [hsub2, hy1, qsw]
def qfo (Ω : Om) : qd := fun args => match args with
 | [.ab (.re a)] => ⟨True, Bool, fun z => z = decide (a * qq a * (a * qq a) = a), fun z => match z with | true => .tup [.ab (.re (Ω.hide _ fun _ => fabs (a * qq a))), .bl true] | false => .tup [.row .i64 16 [0, 0, 0, 0, 0, 0, 0, 0, 0, 0, 0, 0, 0, 0, 0, 0], .bl false]⟩
 | _ => PR.none
theorem qn2 : Ctr Tryz.prog T glob 107 (qfo Om.real) := by
 refine qo T_ok qi qj (fun Ω => [(65, qfe Ω), (161, qhc Ω), (160, qhd Ω), (158, qfl Ω), (43, qbC Ω), (73, qg6 Ω), (50, qfn Ω)]) [] (fun Ω => []) [] (qb qnO (qb qso (qb qsq (qb qnZ (qb qda (qb qr8 (qb qn1 qg))))))) qh qe qf Tryz.func107 (by rfl) (by kernel_rfl) Tryz.call107 ?_ ?_
 ·intro args; unfold qfo; split
  ·exact qa5 ⟨fun x => by cases x <;> repeat' (first | exact trivial | constructor), fun E x b => by cases x <;> rfl⟩ ⟨trivial, trivial⟩ (fun _ => ⟨_, rfl⟩)
  ·exact PR.good_none
 ·intro P Ω hΩ hE hI hm args pr hs hp Q hQ
  unfold qfo at hs
  split at hs <;> subst hs <;> try (exact hp.elim)
  rename_i a
  refine ⟨1000, ?_⟩
  conv => cbv
  constructor
  ·exact fun _ => trivial
  intro z hz
  have hz : z.1 = qbt /\ z.1.length <= z.2 := by subst hΩ; exact hz
  have hzb : Byt z.1 := by rw [hz.1]; decide
  have hzl : z.1.length = 56 := by rw [hz.1]; rfl
  conv => cbv
  have hsub : (z.1.drop 0).take z.1.length = z.1 := by rw [List.drop_zero, List.take_length]
  constructor
  ·exact fun _ => ⟨by subst hΩ; show 0 + z.1.length <= z.1.length; omega, by show 0 + 1 <= 1; decide, trivial⟩
  constructor
  ·intro _ _
   subst hΩ
   show (((z.1.drop 0).take z.1.length).length < _ /\ _) /\ Byt ((z.1.drop 0).take z.1.length) /\ _
   rw [hsub, hz.1]
   exact ⟨⟨by decide, by decide⟩, by decide, by decide⟩
  intro y hy
  have hy : nV y.1 = nV qbt + nV [1] /\ Byt y.1 /\ y.1.length <= 57 /\ y.1.length <= y.2 := by
   subst hΩ
   have h : nV y.1 = nV ((z.1.drop 0).take z.1.length) + nV [1] /\ Byt y.1 /\ y.1.length <= max ((z.1.drop 0).take z.1.length).length [1].length + 1 /\ y.1.length <= y.2 := hy
   rw [hsub, hz.1] at h
   exact h
  obtain ⟨ys, yc⟩ := y
  obtain ⟨hy1, hy2, hy3, hy4⟩ : nV ys = nV qbt + nV [1] /\ Byt ys /\ ys.length <= 57 /\ ys.length <= yc := hy
  have hsub2 : (ys.drop 0).take ys.length = ys := by rw [List.drop_zero, List.take_length]
  conv => cbv
  constructor
  ·exact fun _ => ⟨by subst hΩ; show 0 + ys.length <= ys.length; omega, trivial, trivial⟩
  constructor
  ·intro _ _
   subst hΩ
   show (_ /\ _) /\ ((ys.drop 0).take ys.length).length < _ /\ Byt ((ys.drop 0).take ys.length)
   rw [hsub2]
   exact ⟨⟨by decide, by decide⟩, by omega, hy2⟩
  intro x hx
  have hx : nV x.1 = nV ys / 2 ^ 2 /\ Byt x.1 /\ x.1.length <= 57 /\ x.1.length <= x.2 := by
   subst hΩ
   have h : nV x.1 = nV ((ys.drop 0).take ys.length) / 2 ^ 2 /\ Byt x.1 /\ x.1.length <= ((ys.drop 0).take ys.length).length /\ x.1.length <= x.2 := hx
   rw [hsub2] at h
   exact ⟨h.1, h.2.1, by omega, h.2.2.2⟩
  obtain ⟨xs, xc⟩ := x
  obtain ⟨hx1, hx2, hx3, hx4⟩ : nV xs = nV ys / 2 ^ 2 /\ Byt xs /\ xs.length <= 57 /\ xs.length <= xc := hx
  have hsub3 : (xs.drop 0).take xs.length = xs := by rw [List.drop_zero, List.take_length]
  have hxv : nV xs = 181709681073901722637330951972001133588410340171829515070372549795153082041682693171599095924669136482522221115460909340263374504591360 := by
   rw [hx1, hy1]; decide +kernel
  conv => cbv
  constructor
  ·exact fun _ => ⟨trivial, by subst hΩ; show 0 + xs.length <= xs.length; omega, trivial⟩
  constructor
  ·intro _ _
   subst hΩ
   show ((xs.drop 0).take xs.length).length < _ /\ Byt ((xs.drop 0).take xs.length)
   rw [hsub3]
   exact ⟨by omega, hx2⟩
  intro _ _
  conv => cbv
  have hpv : pw a (nV ((xs.drop 0).take xs.length)) = a * qq a := by rw [hsub3, hxv, qsr]
  repeat (constructor; (first | exact fun _ => trivial | exact fun _ _ => (by decide)); intro _ _; conv => cbv)
  constructor
  ·intro hc
   have h : ¬ a * qq a * (a * qq a) = a := by
    subst hΩ
    have h : (!decide (pw a (nV ((xs.drop 0).take xs.length)) * pw a (nV ((xs.drop 0).take xs.length)) = a)) = true := hc
    rw [hpv, Bool.not_eq_true'] at h
    exact of_decide_eq_false h
   conv => cbv
   refine hQ false _ _ _ (decide_eq_false h).symm ?_
   subst hΩ
   exact ⟨⟨⟨rfl, rfl, rfl⟩, rfl, trivial⟩, rfl, rfl⟩
  ·intro hc
   have h : a * qq a * (a * qq a) = a := by
    subst hΩ
    have h : (!decide (pw a (nV ((xs.drop 0).take xs.length)) * pw a (nV ((xs.drop 0).take xs.length)) = a)) = false := hc
    rw [hpv, Bool.not_eq_false'] at h
    exact of_decide_eq_true h
   conv => cbv
   repeat (constructor; (first | exact fun _ => trivial | exact fun _ _ => (by decide)); intro _ _; conv => cbv)
   refine hQ true _ _ _ (decide_eq_true h).symm ?_
   subst hΩ
   exact ⟨⟨congrArg (fun w => Pay.re (fabs w)) hpv, rfl, trivial⟩, rfl, rfl⟩
def qhf (Ω : Om) : qd := fun args => match args with
 | [.ab (.re u), .ab (.re v)] => ⟨True, Unit, fun _ => True, fun _ => .tup [.ab (.re (Ω.hide _ fun _ => qL u v)), .bs (Ω.hide _ fun _ => decide (v * (u * qq (u * v) * (u * qq (u * v))) = u))]⟩
 | _ => PR.none
theorem qsy : Ctr Tryz.prog T glob 47 (qhf Om.real) := by
 refine qo T_ok qi qj (fun Ω => [(105, qdY Ω), (43, qbC Ω), (107, qfo Ω), (78, qcv Ω)]) [] (fun Ω => []) [] (qb qjW (qb qda (qb qn2 (qb qfc qg)))) qh qe qf Tryz.func47 (by rfl) (by kernel_rfl) Tryz.call47 ?_ ?_
 ·intro args; unfold qhf; split
  ·exact qr (by repeat' constructor) (fun _ _ => rfl) (by repeat' constructor)
  ·exact PR.good_none
 ·intro P Ω hΩ hE hI hm args pr hs hp Q hQ
  unfold qhf at hs
  split at hs <;> subst hs <;> try (exact hp.elim)
  rename_i u v
  refine ⟨1000, ?_⟩
  conv => cbv
  constructor
  ·intro hc
   have hu : u = 0 := by
    subst hΩ
    have h : reEq u [0, 0, 0, 0, 0, 0, 0, 0, 0, 0, 0, 0, 0, 0, 0, 0] = true := hc
    rw [qhe] at h
    exact of_decide_eq_true h
   conv => cbv
   refine hQ () _ _ _ trivial ?_
   subst hΩ
   subst hu
   have h0 := qnY v
   refine ⟨⟨⟨rfl, ?_⟩, ?_, trivial⟩, rfl, rfl⟩
   ·show okRe (qL 0 v) _
    rw [h0.1]; exact qjV
   ·exact (decide_eq_true h0.2).symm
  ·intro hc
   have hu : u ≠ 0 := by
    subst hΩ
    have h : reEq u [0, 0, 0, 0, 0, 0, 0, 0, 0, 0, 0, 0, 0, 0, 0, 0] = false := hc
    rw [qhe] at h
    exact of_decide_eq_false h
   conv => cbv
   constructor
   ·intro hc2
    have hv : v = 0 := by
     subst hΩ
     have h : reEq v [0, 0, 0, 0, 0, 0, 0, 0, 0, 0, 0, 0, 0, 0, 0, 0] = true := hc2
     rw [qhe] at h
     exact of_decide_eq_true h
    conv => cbv
    refine hQ () _ _ _ trivial ?_
    subst hΩ
    subst hv
    have h0 := qsv hu
    refine ⟨⟨⟨rfl, ?_⟩, ?_, trivial⟩, rfl, rfl⟩
    ·show okRe (qL u 0) _
     rw [h0.1]; exact qjV
    ·exact (decide_eq_false h0.2).symm
   ·intro hc2
    have hv : v ≠ 0 := by
     subst hΩ
     have h : reEq v [0, 0, 0, 0, 0, 0, 0, 0, 0, 0, 0, 0, 0, 0, 0, 0] = false := hc2
     rw [qhe] at h
     exact of_decide_eq_false h
    obtain ⟨r1, r2⟩ := qsu hu hv
    conv => cbv
    repeat (constructor; (first | exact fun _ => trivial | exact fun _ _ => (by decide)); intro _ _; conv => cbv)
    rename_i z hz
    have hz : z = decide (u * finv v * qq (u * finv v) * (u * finv v * qq (u * finv v)) = u * finv v) := by subst hΩ; exact hz
    cases z with
    | true =>
      have h := of_decide_eq_true hz.symm
      obtain ⟨g1, g2⟩ := r1 h
      conv => cbv
      refine hQ () _ _ _ trivial ?_
      subst hΩ
      exact ⟨⟨congrArg Pay.re g1.symm, (decide_eq_true g2).symm, trivial⟩, rfl, rfl⟩
    | false =>
      have h := of_decide_eq_false hz.symm
      obtain ⟨g1, g2, g3⟩ := r2 h
      conv => cbv
      repeat (constructor; (first | exact fun _ => trivial | exact fun _ _ => (by decide)); intro _ _; conv => cbv)
      rename_i y hy
      have hy : y = true := by
        subst hΩ
        have h : y = decide (-(u * finv v) * qq (-(u * finv v)) * (-(u * finv v) * qq (-(u * finv v))) = -(u * finv v)) := hy
        rw [h]; exact decide_eq_true g2
      subst hy
      conv => cbv
      refine hQ () _ _ _ trivial ?_
      subst hΩ
      exact ⟨⟨congrArg Pay.re g1.symm, (decide_eq_false g3).symm, trivial⟩, rfl, rfl⟩
end Go.Sx.Tryz
end
section
set_option maxHeartbeats 4000000
namespace Go.Sx.Tryz
open Go.Proofs
set_option maxRecDepth 40000
def qhi (Ω : Om) : qd := fun args => match args with
 | [.int .u8 b] => ⟨∀ _ : Unit, qbE b, Unit, fun _ => True, fun _ => .int .i64 (Ω.hide _ fun _ => hd b)⟩
 | _ => PR.none
theorem qsC : Ctr Tryz.prog T glob 167 (qhi Om.real) := by
 refine qo T_ok qi qj (fun Ω => []) [] (fun Ω => []) [] qg qh qe qf Tryz.func167 (by rfl) (by kernel_rfl) Tryz.call167 ?_ ?_
 ·intro args; unfold qhi; split
  ·exact qr (by repeat' constructor) (fun _ _ => rfl) (by repeat' constructor)
  ·exact PR.good_none
 ·intro P Ω hΩ hE hI hm args pr hs hp Q hQ
  unfold qhi at hs
  split at hs <;> subst hs <;> try (exact hp.elim)
  rename_i b
  have hb := hp ()
  refine ⟨1000, ?_⟩
  conv => cbv
  constructor
  ·intro hc
   have hc' : b >= 97 := by rw [hΩ] at hc; exact of_decide_eq_true hc
   conv => cbv
   refine hQ () _ _ _ trivial ?_
   subst hΩ
   refine ⟨rfl, ?_⟩
   show binL .add .i64 (IntKind.i64.wrap (binL .sub .u8 b 97)) 10 = hd b
   have e : binL .sub .u8 b 97 = b - 97 := by
    show IntKind.u8.wrap (b - 97) = _
    rw [IntKind.wrap_u8]; omega
   rw [e, qV (by omega) (by omega), qu (by omega) (by omega)]
   unfold hd; rw [if_pos (by omega)]; omega
  ·intro hc
   have hc' : ¬ b >= 97 := by rw [hΩ] at hc; exact of_decide_eq_false hc
   conv => cbv
   refine hQ () _ _ _ trivial ?_
   subst hΩ
   refine ⟨rfl, ?_⟩
   show IntKind.i64.wrap (binL .sub .u8 b 48) = hd b
   have e : binL .sub .u8 b 48 = b - 48 := by
    show IntKind.u8.wrap (b - 48) = _
    rw [IntKind.wrap_u8]; omega
   rw [e, qV (by omega) (by omega)]
   unfold hd; rw [if_neg (by omega)]
def qhj (Ω : Om) : qd := fun args => match args with
 | [.val (.string s)] => ⟨∀ _ : Unit, s.size = 112 /\ (∀ j, j < 112 -> qbE ((strB s).getD j 48)), Unit, fun _ => True, fun _ => .ab (.re (Ω.hide _ fun _ => fI (qw (hexB (strB s)))))⟩
 | _ => PR.none
theorem qsD : Ctr Tryz.prog T glob 130 (qhj Om.real) := by
 refine qo T_ok qi qj (fun Ω => [(167, qhi Ω), (66, qha Ω)]) [] (fun Ω => []) [] (qb qsC (qb qsc qg)) qh qe qf Tryz.func130 (by rfl) (by kernel_rfl) Tryz.call130 ?_ ?_
 ·intro args; unfold qhj; split
  ·exact qr (by repeat' constructor) (fun _ _ => rfl) (by repeat' constructor)
  ·exact PR.good_none
 ·intro P Ω hΩ hE hI hm args pr hs hp Q hQ
  unfold qhj at hs
  split at hs <;> subst hs <;> try (exact hp.elim)
  rename_i s
  obtain ⟨hs, hh⟩ := hp ()
  obtain ⟨xs, hxs⟩ : ∃ xs, xs = strB s := ⟨_, rfl⟩
  have hxl : xs.length = 112 := by rw [hxs]; simpa [strB] using hs
  rw [<- hxs] at hh
  refine ⟨1000, ?_⟩
  have hx' : strB s = xs := hxs.symm
  conv at hx' => lhs; cbv
  have hs' : s.size = 112 := hs
  conv at hs' => lhs; cbv
  obtain ⟨i0, hi0⟩ : ∃ i0 : Int, i0 = 110 := ⟨_, rfl⟩
  have hsl : (strB s).length = 112 := by rw [<- hxs]; exact hxl
  have e0 : Ω.bin .sub .i64 (Ω.ofN (Ω.len xs)) 2 = i0 := by
   subst hΩ
   show binL .sub .i64 ((xs.length : Nat) : Int) 2 = i0
   rw [hxl, hi0]; rfl
  conv => cbv
  refine qv hE hI hm (fun z : Nat × Int × List Int × Nat × Nat => (mkT 29 [(0, .val (.string s)), (2, .ptr 0 (.l 0)), (3, .sl 48 1 (.l 0) (.s z.2.2.2.1) (.s z.2.2.2.2)), (4, .int .i64 z.2.1)], [(48, .seq .u8 z.2.2.1), (0, .row .i64 16 [0, 0, 0, 0, 0, 0, 0, 0, 0, 0, 0, 0, 0, 0, 0, 0])])) (fun z => z.1 <= 56 /\ z.2.1 = 110 - 2 * z.1 /\ z.2.2.1 = hexT xs z.1 /\ z.2.2.2.1 = z.1 /\ z.2.2.2.1 <= z.2.2.2.2) (fun z => 56 - z.1) 1 ⟨(0, i0, [], 0, 0), [none], ⟨Nat.zero_le _, hi0, rfl, rfl, Nat.le_refl _⟩, by decide, ?_⟩ fun z hz => ⟨1000, ?_⟩
  ·conv => cbv
   rw [hx']
   exact ⟨e0, trivial⟩
  obtain ⟨j, i, u, n, c⟩ := z
  obtain ⟨hj, hi, hu, hn, hc⟩ : j <= 56 /\ i = 110 - 2 * (j : Int) /\ u = hexT xs j /\ n = j /\ n <= c := hz
  have hul : u.length = n := by rw [hu, hexT_len, hn]
  conv => cbv
  constructor
  ·intro hc2
   have hc' : i >= 0 := by rw [hΩ] at hc2; exact of_decide_eq_true hc2
   have g1 := hh (111 - 2 * j) (by omega)
   have g2 := hh (110 - 2 * j) (by omega)
   have hit : i.toNat = 110 - 2 * j := by omega
   have hii : i < 112 := by omega
   have ei1 : binL .add .i64 i 1 = i + 1 := qu (by omega) (by omega)
   have hd1 : xs.getD i.toNat 0 = xs.getD (110 - 2 * j) 48 := by
    rw [hit]; simp [List.getD, show 110 - 2 * j < xs.length by omega]
   have hd2 : xs.getD (i + 1).toNat 0 = xs.getD (111 - 2 * j) 48 := by
    rw [show (i + 1).toNat = 111 - 2 * j by omega]; simp [List.getD, show 111 - 2 * j < xs.length by omega]
   obtain ⟨u2, hu2⟩ : ∃ u2, u2 = hexT xs (j + 1) := ⟨_, rfl⟩
   obtain ⟨i2, hi2⟩ : ∃ i2 : Int, i2 = 110 - 2 * ((j + 1 : Nat) : Int) := ⟨_, rfl⟩
   conv => cbv
   rw [hx', hs']
   constructor
   ·exact fun _ => ⟨hc', hii⟩
   constructor
   ·intro _ _
    subst hΩ
    show qbE (xs.getD i.toNat 0)
    rw [hd1]; exact g2
   intro _ _
   conv => cbv
   rw [hx', hs']
   constructor
   ·intro _; subst hΩ; show 0 <= binL .add .i64 i 1 /\ binL .add .i64 i 1 < 112; rw [ei1]; omega
   constructor
   ·intro _ _
    subst hΩ
    show qbE (xs.getD (binL .add .i64 i 1).toNat 0)
    rw [ei1, hd2]; exact g1
   intro _ _
   conv => cbv
   constructor
   ·exact fun _ => (show (n + 1) * 1 <= 140737488355328 by omega)
   constructor
   ·exact fun _ => ⟨(show 0 + n * 1 <= u.length by omega), (show 0 + 1 * 1 <= 1 by omega)⟩
   intro cap hcap
   have hcap : n + 1 <= cap := hcap
   conv => cbv
   obtain ⟨n2, hn2⟩ : ∃ n2, n2 = n + 1 := ⟨_, rfl⟩
   refine ⟨(j + 1, i2, u2, n2, cap), [some 184], ⟨by omega, hi2, hu2, (by show n2 = j + 1; omega), (by show n2 <= cap; omega)⟩, by simp only; omega, by decide, ?_⟩
   conv => cbv
   subst hΩ
   have r1 := hd_rng g1
   have r2 := hd_rng g2
   refine ⟨hn2.symm, ?_, ?_, trivial⟩
   ·show binL .sub .i64 i 2 = i2
    rw [qx (by omega) (by omega), hi2, hi]; omega
   ·show (u.drop 0).take n ++ [IntKind.u8.wrap (binL .add .i64 (binL .mul .i64 16 (hd (xs.getD i.toNat 0))) (hd (xs.getD (binL .add .i64 i 1).toNat 0)))] = u2
    rw [ei1, hd1, hd2, qaj (by omega) (by omega), qu (by omega) (by omega), List.drop_zero, List.take_of_length_le (by omega), hu2, hexT_succ, hu, IntKind.wrap_u8]
    congr 2
    omega
  ·intro hc2
   have hc' : ¬ i >= 0 := by rw [hΩ] at hc2; exact of_decide_eq_false hc2
   have h56 : j = 56 := by omega
   have hub : u.length = 56 /\ Byt u := by
    refine ⟨by omega, ?_⟩
    rw [hu]
    intro a ha
    obtain ⟨t, ht, rfl⟩ := List.mem_map.1 ha
    rw [List.mem_range] at ht
    have := hd_rng (hh (111 - 2 * t) (by omega))
    have := hd_rng (hh (110 - 2 * t) (by omega))
    omega
   conv => cbv
   constructor
   ·intro _ ; subst hΩ; exact ⟨by show 0 + n <= u.length; omega, trivial⟩
   constructor
   ·intro _ _
    subst hΩ
    show ((u.drop 0).take n).length = 56 /\ Byt ((u.drop 0).take n)
    rw [List.drop_zero, List.take_of_length_le (by omega)]
    exact hub
   intro _ _
   conv => cbv
   refine hQ () _ _ _ trivial ?_
   subst hΩ
   show Pay.re (fI (qw ((u.drop 0).take n))) = Pay.re (fI (qw (hexB (strB s))))
   rw [List.drop_zero, List.take_of_length_le (by omega), hu, hxs, h56]
   rfl
def qd1 (Ω : Om) : qd := fun args => match args with
 | [] => ⟨True, Unit, fun _ => True, fun _ => .ab (.rp (Ω.hide _ fun _ => pid))⟩
 | _ => PR.none
theorem qjX : Ctr Tryz.prog T glob 41 (qd1 Om.real) := by
 refine qo T_ok qi qj (fun Ω => [(46, qbD Ω)]) [] (fun Ω => []) [] (qb qdb qg) qh qe qf Tryz.func41 (by rfl) (by kernel_rfl) Tryz.call41 ?_ ?_
 ·intro args; unfold qd1; split
  ·exact qr (by repeat' constructor) (fun _ _ => rfl) (by repeat' constructor)
  ·exact PR.good_none
 ·intro P Ω hΩ hE hI hm args pr hs hp Q hQ
  unfold qd1 at hs
  split at hs <;> subst hs <;> try (exact hp.elim)
  refine ⟨1000, ?_⟩
  conv => cbv
  repeat (constructor; (first | exact fun _ => trivial | exact fun _ _ => (by decide)); intro _ _; conv => cbv)
  refine hQ () _ _ _ trivial ?_
  subst hΩ
  exact qsB qjV qdM qcr (by decide +kernel) (by decide +kernel)
def qhk (Ω : Om) : qd := fun args => match args with
 | [] => ⟨True, Unit, fun _ => True, fun _ => .ab (.re (Ω.hide _ fun _ => fI (-39081)))⟩
 | _ => PR.none
theorem qsE : Ctr Tryz.prog T glob 77 (qhk Om.real) := by
 refine qo T_ok qi qj (fun Ω => [(46, qbD Ω)]) [] (fun Ω => []) [] (qb qdb qg) qh qe qf Tryz.func77 (by rfl) (by kernel_rfl) Tryz.call77 ?_ ?_
 ·intro args; unfold qhk; split
  ·exact qr (by repeat' constructor) (fun _ _ => rfl) (by repeat' constructor)
  ·exact PR.good_none
 ·intro P Ω hΩ hE hI hm args pr hs hp Q hQ
  unfold qhk at hs
  split at hs <;> subst hs <;> try (exact hp.elim)
  refine ⟨1000, ?_⟩
  conv => cbv
  repeat (constructor; (first | exact fun _ => trivial | exact fun _ _ => (by decide)); intro _ _; conv => cbv)
  refine hQ () _ _ _ trivial ?_
  subst hΩ
  rfl
def qdf (Ω : Om) : qd := fun args => match args with
 | [.ab (.rp P), .ab (.rp Q)] => ⟨True, Unit, fun _ => True, fun _ => .ab (.rp (Ω.hide _ fun _ => padd P Q))⟩
 | _ => PR.none
theorem qhl : Ctr Tryz.prog T glob 22 (qdf Om.real) := by
 refine qal T_ok qi qj (fun Ω => [(43, qbC Ω), (44, qdR Ω), (45, qfd Ω), (77, qhk Ω)]) [] (fun Ω => []) [] (qb qda (qb qjM (qb qnJ (qb qsE qg)))) qh qe qf Tryz.func22 (by rfl) (by kernel_rfl) Tryz.call22 ?_ ?_
 ·intro args; unfold qdf; split
  ·exact qr (by repeat' constructor) (fun _ _ => rfl) (by repeat' constructor)
  ·exact PR.good_none
 ·intro P Ω hΩ hE hI hm args pr hs hp cs hcs Q hQ
  unfold qdf at hs
  split at hs <;> subst hs <;> try (exact hp.elim)
  rename_i P R
  obtain ⟨_, _, rfl, ⟨X1, Y1, Z1, rfl, hP, z1, x1, y1⟩, _, _, rfl, ⟨X2, Y2, Z2, rfl, hR, z2, x2, y2⟩, rfl⟩ := hcs
  refine ⟨1000, ?_⟩
  conv => cbv
  repeat (constructor; (first | exact fun _ => trivial | exact fun _ _ => (by decide)); intro _ _; conv => cbv)
  refine hQ () _ _ _ trivial ?_
  subst hΩ
  have h := qsA hP hR z1 x1 y1 z2 x2 y2
  rw [<- fI_d] at h
  exact qdB (qaw hP hR) h.1 h.2.1 h.2.2
def quH (Ω : Om) : qd := fun args => match args with
 | [.ab (.rp P)] => ⟨True, Unit, fun _ => True, fun _ => .ab (.rp (Ω.hide _ fun _ => pneg P))⟩
 | _ => PR.none
def qfp (Ω : Om) : qd := fun args => match args with
 | [.ab (.rp P)] => ⟨True, Unit, fun _ => True, fun _ => .tup [.ab (.re (Ω.hide _ fun _ => P.x)), .ab (.re (Ω.hide _ fun _ => P.y))]⟩
 | _ => PR.none
theorem qn5 : Ctr Tryz.prog T glob 42 (qfp Om.real) := by
 refine qal T_ok qi qj (fun Ω => [(105, qdY Ω), (43, qbC Ω)]) [] (fun Ω => []) [] (qb qjW (qb qda qg)) qh qe qf Tryz.func42 (by rfl) (by kernel_rfl) Tryz.call42 ?_ ?_
 ·intro args; unfold qfp; split
  ·exact qr (by repeat' constructor) (fun _ _ => rfl) (by repeat' constructor)
  ·exact PR.good_none
 ·intro P Ω hΩ hE hI hm args pr hs hp cs hcs Q hQ
  unfold qfp at hs
  split at hs <;> subst hs <;> try (exact hp.elim)
  rename_i P
  obtain ⟨_, _, rfl, ⟨X, Y, Z, rfl, hP, hz, hx, hy⟩, rfl⟩ := hcs
  refine ⟨1000, ?_⟩
  conv => cbv
  repeat (constructor; (first | exact fun _ => trivial | exact fun _ _ => (by decide)); intro _ _; conv => cbv)
  refine hQ () _ _ _ trivial ?_
  subst hΩ
  exact ⟨⟨congrArg Pay.re (qgP hz hx), congrArg Pay.re (qgP hz hy), trivial⟩, rfl, rfl⟩
def qfq (Ω : Om) : qd := fun args => match args with
 | [.roi .u8 bs, .ab (.rp P)] => ⟨∀ _ : Unit, P.on /\ bs.length < 1152921504606846976 /\ Byt bs, Unit, fun _ => True, fun _ => .ab (.rp (Ω.hide _ fun _ => nsm (nV bs) P))⟩
 | _ => PR.none
theorem qn6 : Ctr Tryz.prog T glob 35 (qfq Om.real) := by
 refine qo T_ok qi qj (fun Ω => [(41, qd1 Ω), (97, qdW Ω), (98, qcy Ω), (22, qdf Ω)]) [] (fun Ω => []) [] (qb qjX (qb qjT (qb qfk (qb qhl qg)))) qh qe qf Tryz.func35 (by rfl) (by kernel_rfl) Tryz.call35 ?_ ?_
 ·intro args; unfold qfq; split
  ·exact qr (by repeat' constructor) (fun _ _ => rfl) (by repeat' constructor)
  ·exact PR.good_none
 ·intro P Ω hΩ hE hI hm args pr hs hp Q hQ
  unfold qfq at hs
  split at hs <;> subst hs <;> try (exact hp.elim)
  rename_i bs P
  obtain ⟨hP, hl, hb⟩ := hp ()
  refine ⟨1000, ?_⟩
  conv => cbv
  constructor; (first | exact fun _ => trivial | exact fun _ _ => (by decide)); intro _ _; conv => cbv
  constructor
  ·exact fun _ _ => ⟨by omega, hb⟩
  intro (z : Nat) hz
  obtain ⟨⟨hz1, _⟩, hz2⟩ : IsLen (nV bs) z /\ z <= 8 * bs.length := hz
  obtain ⟨i0, hi0⟩ : ∃ i0 : Int, i0 = (z : Int) - 1 := ⟨_, rfl⟩
  have e0 : Ω.bin .sub .i64 (z : Int) 1 = i0 := by
   subst hΩ
   show binL .sub .i64 (z : Int) 1 = i0
   rw [qx (by omega) (by omega), hi0]
  obtain ⟨O, hO⟩ : ∃ O, O = pid := ⟨_, rfl⟩
  conv => cbv
  refine qv hE hI hm (fun y : Nat × Int × AP => (mkT 26 [(0, .roi .u8 bs), (3, .ptr 0 (.l 0)), (4, .ptr 8 (.l 0)), (5, .ptr 24 (.l 0)), (6, .int .i64 y.2.1)], [(24, .ab (.rp y.2.2)), (8, .agg [.row .i64 16 [0, 0, 0, 0, 0, 0, 0, 0, 0, 0, 0, 0, 0, 0, 0, 0], .row .i64 16 [0, 0, 0, 0, 0, 0, 0, 0, 0, 0, 0, 0, 0, 0, 0, 0], .row .i64 16 [0, 0, 0, 0, 0, 0, 0, 0, 0, 0, 0, 0, 0, 0, 0, 0]]), (0, .ab (.rp P))])) (fun y => y.1 <= z /\ y.2.1 = y.1 - 1 /\ y.2.2 = nsm (nV bs / 2 ^ y.1) P) (fun y => y.1) 0 ⟨(z, i0, O), [], ⟨Nat.le_refl _, hi0, by rw [hO, Nat.div_eq_of_lt (by show nV bs < 2 ^ z; exact hz1)]; rfl⟩, Nat.zero_le _, ?_⟩ fun y hy => ⟨1000, ?_⟩
  ·conv => cbv
   subst hΩ
   exact ⟨e0, congrArg Pay.rp hO.symm, trivial⟩
  obtain ⟨n, i, X⟩ := y
  obtain ⟨hn, hi, hX⟩ : n <= z /\ i = (n : Int) - 1 /\ X = nsm (nV bs / 2 ^ n) P := hy
  conv => cbv
  constructor
  ·intro hc
   have hc' : i >= 0 := by rw [hΩ] at hc; exact of_decide_eq_true hc
   obtain ⟨m, rfl⟩ : ∃ m : Nat, i = m := ⟨i.toNat, by omega⟩
   have hm1 : n = m + 1 := by omega
   have hb2 := qbT (nV bs) m
   have hst : nsm (nV bs / 2 ^ m) P = if bitN (nV bs) m = 1 then padd (padd X X) P else padd X X := by
    rw [half_bit, hX, hm1]
    exact qsz hP _ _ hb2
   have ht : (if (m : Int) < 0 then (0 : Int) else ((bitN (nV bs) (m : Int).toNat : Nat) : Int)) = ((bitN (nV bs) m : Nat) : Int) := by
    rw [if_neg (by omega), Int.toNat_natCast]
   obtain ⟨x2, hx2⟩ : ∃ x2, x2 = nsm (nV bs / 2 ^ m) P := ⟨_, rfl⟩
   obtain ⟨i2, hi2⟩ : ∃ i2 : Int, i2 = (m : Int) - 1 := ⟨_, rfl⟩
   have ei : binL .sub .i64 (m : Int) 1 = i2 := by rw [qx (by omega) (by omega), hi2]
   have hmi : -9223372036854775808 <= (m : Int) /\ (m : Int) < 9223372036854775808 := by omega
   conv => cbv
   constructor; (first | exact fun _ => trivial | exact fun _ _ => (by decide)); intro _ _; conv => cbv
   constructor
   ·exact fun _ _ => ⟨by omega, hmi, hb⟩
   intro _ _
   conv => cbv
   constructor
   ·intro hc2
    have hbt : bitN (nV bs) m = 1 := by
     subst hΩ
     have h : (if (m : Int) < 0 then (0 : Int) else ((bitN (nV bs) (m : Int).toNat : Nat) : Int)) = 1 := eq_of_beq hc2
     rw [ht] at h; omega
    rw [if_pos hbt] at hst
    conv => cbv
    constructor; (first | exact fun _ => trivial | exact fun _ _ => (by decide)); intro _ _; conv => cbv
    refine ⟨(m, i2, x2), [], ⟨by omega, hi2, hx2⟩, by simp only; omega, Nat.zero_le _, ?_⟩
    conv => cbv
    subst hΩ
    exact ⟨ei, by rw [hx2, hst]; rfl, trivial⟩
   ·intro hc2
    have hbt : ¬ bitN (nV bs) m = 1 := by
     subst hΩ
     have h : ¬ (if (m : Int) < 0 then (0 : Int) else ((bitN (nV bs) (m : Int).toNat : Nat) : Int)) = 1 := ne_of_beq_false hc2
     rw [ht] at h; omega
    rw [if_neg hbt] at hst
    conv => cbv
    refine ⟨(m, i2, x2), [], ⟨by omega, hi2, hx2⟩, by simp only; omega, Nat.zero_le _, ?_⟩
    conv => cbv
    subst hΩ
    exact ⟨ei, by rw [hx2, hst]; rfl, trivial⟩
  ·intro hc
   have hc' : ¬ i >= 0 := by rw [hΩ] at hc; exact of_decide_eq_false hc
   have h0 : n = 0 := by omega
   conv => cbv
   refine hQ () _ _ _ trivial ?_
   subst hΩ
   show Pay.rp X = Pay.rp (nsm (nV bs) P)
   rw [hX, h0, Nat.pow_zero, Nat.div_one]
def qhm (Ω : Om) : qd := fun args => match args with
 | [.int .i64 n] => ⟨True, Unit, fun _ => True, fun _ => .ab (.rp (Ω.hide _ fun _ => torP n))⟩
 | _ => PR.none
theorem qsF : Ctr Tryz.prog T glob 84 (qhm Om.real) := by
 refine qo T_ok qi qj (fun Ω => [(46, qbD Ω), (78, qcv Ω)]) [] (fun Ω => []) [] (qb qdb (qb qfc qg)) qh qe qf Tryz.func84 (by rfl) (by kernel_rfl) Tryz.call84 ?_ ?_
 ·intro args; unfold qhm; split
  ·exact qr (by repeat' constructor) (fun _ _ => rfl) (by repeat' constructor)
  ·exact PR.good_none
 ·intro P Ω hΩ hE hI hm args pr hs hp Q hQ
  unfold qhm at hs
  split at hs <;> subst hs <;> try (exact hp.elim)
  rename_i n
  refine ⟨1000, ?_⟩
  conv => cbv
  constructor; (first | exact fun _ => trivial | exact fun _ _ => (by decide)); intro _ _; conv => cbv
  constructor; (first | exact fun _ => trivial | exact fun _ _ => (by decide)); intro _ _; conv => cbv
  constructor
  ·intro hc
   have hn : n = 1 := by subst hΩ; exact eq_of_beq hc
   conv => cbv
   refine hQ () _ _ _ trivial ?_
   subst hΩ
   subst hn
   exact qdB (qhg 1) qcr (by decide +kernel) (by decide +kernel)
  ·intro hc
   have hn : n ≠ 1 := by subst hΩ; exact ne_of_beq_false hc
   constructor
   ·intro hc2
    have hn : n = 2 := by subst hΩ; exact eq_of_beq hc2
    conv => cbv
    constructor; (first | exact fun _ => trivial | exact fun _ _ => (by decide)); intro _ _; conv => cbv
    refine hQ () _ _ _ trivial ?_
    subst hΩ
    subst hn
    exact qdB (qhg 2) qcr (by decide +kernel) (by decide +kernel)
   ·intro hc2
    have hn2 : n ≠ 2 := by subst hΩ; exact ne_of_beq_false hc2
    constructor
    ·intro hc3
     have hn3 : n = 3 := by subst hΩ; exact eq_of_beq hc3
     conv => cbv
     constructor; (first | exact fun _ => trivial | exact fun _ _ => (by decide)); intro _ _; conv => cbv
     refine hQ () _ _ _ trivial ?_
     subst hΩ
     subst hn3
     exact qdB (qhg 3) qcr (by decide +kernel) (by decide +kernel)
    ·intro hc3
     have hn3 : n ≠ 3 := by subst hΩ; exact ne_of_beq_false hc3
     conv => cbv
     refine hQ () _ _ _ trivial ?_
     subst hΩ
     have e : torP n = ⟨fI 0, fI 1⟩ := by unfold torP; rw [if_neg hn, if_neg hn2, if_neg hn3]
     show qdw _ (.rp (torP n))
     rw [e]
     exact qdB (by unfold AP.on; decide +kernel) qcr (by decide +kernel) (by decide +kernel)
def qhn (Ω : Om) : qd := fun args => match args with
 | [.ab (.rp P)] => ⟨True, List Int × Nat, fun z => z.1 = codB P /\ z.1.length <= z.2, fun z => .fr .u8 z.1 z.2⟩
 | _ => PR.none
theorem qsG : Ctr Tryz.prog T glob 86 (qhn Om.real) := by
 refine qo T_ok qi qj (fun Ω => [(42, qfp Ω), (67, qfm Ω), (51, qdT Ω)]) [] (fun Ω => []) [] (qb qn5 (qb qn0 (qb qjO qg))) qh qe qf Tryz.func86 (by rfl) (by kernel_rfl) Tryz.call86 ?_ ?_
 ·intro args; unfold qhn; split
  ·exact qai ⟨trivial, trivial⟩ fun _ => qav _
  ·exact PR.good_none
 ·intro P Ω hΩ hE hI hm args pr hs hp Q hQ
  unfold qhn at hs
  split at hs <;> subst hs <;> try (exact hp.elim)
  rename_i P
  refine ⟨1000, ?_⟩
  conv => cbv
  constructor; (first | exact fun _ => trivial | exact fun _ _ => (by decide)); intro _ _; conv => cbv
  constructor; (first | exact fun _ => trivial | exact fun _ _ => (by decide)); intro _ _; conv => cbv
  constructor
  ·intro hc
   have hx : P.x.val % 2 = 1 := by subst hΩ; exact of_decide_eq_true hc
   conv => cbv
   constructor
   ·exact fun _ => trivial
   intro z hz
   have hz : z.1 = qA P.y /\ z.1.length <= z.2 := by subst hΩ; exact hz
   have hzl : z.1.length = 56 := by rw [hz.1, qaV]
   conv => cbv
   constructor
   ·intro _; subst hΩ; show (z.1.length + 1) * 1 <= _; omega
   constructor
   ·exact fun _ => ⟨by subst hΩ; show 0 + z.1.length * 1 <= z.1.length; omega, (show 0 + 1 * 1 <= 1 by omega)⟩
   intro cap hcap
   have hcap : z.1.length + 1 <= cap := by subst hΩ; exact hcap
   obtain ⟨y, hy⟩ : ∃ y, y = codB P := ⟨_, rfl⟩
   have hyl : y.length = 57 := by rw [hy, qhh]
   conv => cbv
   refine hQ (y, cap) _ _ _ ⟨hy, by show y.length <= cap; omega⟩ ?_
   subst hΩ
   refine ⟨rfl, rfl, ?_, ?_⟩
   ·show 0 + (z.1.length + 1) <= ((z.1.drop 0).take z.1.length ++ [128]).length
    rw [List.drop_zero, List.take_length, List.length_append]; simp
   ·show y = (((z.1.drop 0).take z.1.length ++ [128]).drop 0).take (z.1.length + 1)
    rw [List.drop_zero, List.drop_zero, List.take_length, List.take_of_length_le (by rw [List.length_append]; simp), hy, hz.1]
    unfold codB
    rw [if_pos hx]
  ·intro hc
   have hx : ¬ P.x.val % 2 = 1 := by subst hΩ; exact of_decide_eq_false hc
   conv => cbv
   constructor
   ·exact fun _ => trivial
   intro z hz
   have hz : z.1 = qA P.y /\ z.1.length <= z.2 := by subst hΩ; exact hz
   have hzl : z.1.length = 56 := by rw [hz.1, qaV]
   conv => cbv
   constructor
   ·intro _; subst hΩ; show (z.1.length + 1) * 1 <= _; omega
   constructor
   ·exact fun _ => ⟨by subst hΩ; show 0 + z.1.length * 1 <= z.1.length; omega, (show 0 + 1 * 1 <= 1 by omega)⟩
   intro cap hcap
   have hcap : z.1.length + 1 <= cap := by subst hΩ; exact hcap
   obtain ⟨y, hy⟩ : ∃ y, y = codB P := ⟨_, rfl⟩
   have hyl : y.length = 57 := by rw [hy, qhh]
   conv => cbv
   refine hQ (y, cap) _ _ _ ⟨hy, by show y.length <= cap; omega⟩ ?_
   subst hΩ
   refine ⟨rfl, rfl, ?_, ?_⟩
   ·show 0 + (z.1.length + 1) <= ((z.1.drop 0).take z.1.length ++ [0]).length
    rw [List.drop_zero, List.take_length, List.length_append]; simp
   ·show y = (((z.1.drop 0).take z.1.length ++ [0]).drop 0).take (z.1.length + 1)
    rw [List.drop_zero, List.drop_zero, List.take_length, List.take_of_length_le (by rw [List.length_append]; simp), hy, hz.1]
    unfold codB
    rw [if_neg hx]
end Go.Sx.Tryz
end
section
set_option maxHeartbeats 4000000
namespace Go.Sx.Tryz
open Go.Proofs
set_option maxRecDepth 40000
def qho (Ω : Om) : qd := fun args => match args with
 | [.ab (.re x), .ab (.re y), .ab (.re z)] => ⟨True, Unit, fun _ => True, fun _ => .ab (.re (Ω.hide _ fun _ => x * (y * z)))⟩
 | _ => PR.none
theorem qsI : Ctr Tryz.prog T glob 48 (qho Om.real) := by
 refine qo T_ok qi qj (fun Ω => [(43, qbC Ω)]) [] (fun Ω => []) [] (qb qda qg) qh qe qf Tryz.func48 (by rfl) (by kernel_rfl) Tryz.call48 ?_ ?_
 ·intro args; unfold qho; split
  ·exact qr (by repeat' constructor) (fun _ _ => rfl) (by repeat' constructor)
  ·exact PR.good_none
 ·intro P Ω hΩ hE hI hm args pr hs hp Q hQ
  unfold qho at hs
  split at hs <;> subst hs <;> try (exact hp.elim)
  refine ⟨1000, ?_⟩
  conv => cbv
  repeat (constructor; (first | exact fun _ => trivial | exact fun _ _ => (by decide)); intro _ _; conv => cbv)
  refine hQ () _ _ _ trivial ?_
  subst hΩ
  rfl
def qhp (Ω : Om) : qd := fun args => match args with
 | [] => ⟨True, Unit, fun _ => True, fun _ => .tup [.ab (.re (Ω.hide _ fun _ => qax)), .ab (.re (Ω.hide _ fun _ => qay))]⟩
 | _ => PR.none
theorem qsJ : Ctr Tryz.prog T glob 49 (qhp Om.real) := by
 refine qo T_ok qi qj (fun Ω => [(46, qbD Ω), (107, qfo Ω), (105, qdY Ω)]) [] (fun Ω => []) [] (qb qdb (qb qn2 (qb qjW qg))) qh qe qf Tryz.func49 (by rfl) (by kernel_rfl) Tryz.call49 ?_ ?_
 ·intro args; unfold qhp; split
  ·exact qr (by repeat' constructor) (fun _ _ => rfl) (by repeat' constructor)
  ·exact PR.good_none
 ·intro P Ω hΩ hE hI hm args pr hs hp Q hQ
  unfold qhp at hs
  split at hs <;> subst hs <;> try (exact hp.elim)
  refine ⟨1000, ?_⟩
  conv => cbv
  constructor
  ·exact fun _ _ => (by decide)
  intro _ _
  conv => cbv
  constructor
  ·exact fun _ => trivial
  intro z hz
  have hz1 : z = true := by
   subst hΩ
   rw [show z = _ from hz]
   exact decide_eq_true (qdN pw_d)
  subst hz1
  conv => cbv
  constructor
  ·exact fun _ _ => (by decide)
  intro _ _
  conv => cbv
  constructor
  ·exact fun _ => trivial
  intro _ _
  conv => cbv
  constructor
  ·exact fun _ => trivial
  intro z hz
  have hz1 : z = true := by
   subst hΩ
   rw [show z = _ from hz]
   exact decide_eq_true (qdN pw_e)
  subst hz1
  conv => cbv
  refine hQ () _ _ _ trivial ?_
  subst hΩ
  exact ⟨⟨rfl, rfl, trivial⟩, rfl, rfl⟩
def qhq (Ω : Om) : qd := fun args => match args with
 | [.ab (.rp P)] => ⟨True, List Int × Nat, fun z => z.1 = qA (encF P) /\ z.1.length <= z.2, fun z => .fr .u8 z.1 z.2⟩
 | _ => PR.none
theorem qsK : Ctr Tryz.prog T glob 11 (qhq Om.real) := by
 refine qo T_ok qi qj (fun Ω => [(42, qfp Ω), (43, qbC Ω), (44, qdR Ω), (45, qfd Ω), (46, qbD Ω), (48, qho Ω), (47, qhf Ω), (49, qhp Ω), (50, qfn Ω), (51, qdT Ω)]) [] (fun Ω => []) [] (qb qn5 (qb qda (qb qjM (qb qnJ (qb qdb (qb qsI (qb qsy (qb qsJ (qb qn1 (qb qjO qg)))))))))) qh qe qf Tryz.func11 (by rfl) (by kernel_rfl) Tryz.call11 ?_ ?_
 ·intro args; unfold qhq; split
  ·exact qai ⟨trivial, trivial⟩ fun _ => qav _
  ·exact PR.good_none
 ·intro P Ω hΩ hE hI hm args pr hs hp Q hQ
  unfold qhq at hs
  split at hs <;> subst hs <;> try (exact hp.elim)
  rename_i P
  refine ⟨1000, ?_⟩
  conv => cbv
  repeat (constructor; (first | exact fun _ => trivial | exact fun _ _ => (by decide)); intro _ _; conv => cbv)
  rename_i w hw
  have hw : w.1 = qA (encF P) /\ w.1.length <= w.2 := by
   subst hΩ
   rw [<- qsH P rfl rfl rfl rfl]
   exact hw
  refine hQ w _ _ _ hw ?_
  subst hΩ
  exact ⟨rfl, rfl, by show 0 + w.1.length <= w.1.length; omega, List.take_length.symm⟩
end Go.Sx.Tryz
end
section

end
section
set_option maxHeartbeats 4000000
namespace Go.Sx.Tryz
open Go.Proofs
set_option maxRecDepth 40000
def qhr (Ω : Om) : qd := fun args => match args with
 | [.val (.string s)] => ⟨∀ _ : Unit, s.size = 112 /\ (∀ j, j < 112 -> qbE ((strB s).getD j 48)), Unit, fun _ => True, fun _ => .ab (.fe (Ω.hide _ fun _ => fI (qw (hexB (strB s)))))⟩
 | _ => PR.none
theorem qsL : Ctr Tryz.prog T glob 104 (qhr Om.real) := by
 refine qo T_ok qi qj (fun Ω => [(108, qeK Ω)]) [] (fun Ω => []) [] (qb qmM qg) qh qe qf Tryz.func104 (by rfl) (by kernel_rfl) Tryz.call104 ?_ ?_
 ·intro args; unfold qhr; split
  ·exact qr (by repeat' constructor) (fun _ _ => rfl) (by repeat' constructor)
  ·exact PR.good_none
 ·intro P Ω hΩ hE hI hm args pr hs hp Q hQ
  unfold qhr at hs
  split at hs <;> subst hs <;> try (exact hp.elim)
  rename_i s
  obtain ⟨hs, hh⟩ := hp ()
  obtain ⟨xs, hxs⟩ : ∃ xs, xs = strB s := ⟨_, rfl⟩
  have hxl : xs.length = 112 := by rw [hxs]; simpa [strB] using hs
  rw [<- hxs] at hh
  have hx' : strB s = xs := hxs.symm
  conv at hx' => lhs; cbv
  have hs' : s.size = 112 := hs
  conv at hs' => lhs; cbv
  refine ⟨1000, ?_⟩
  conv => cbv
  rw [hx']
  obtain ⟨v0, hv0⟩ : ∃ v0, v0 = hexE xs 0 := ⟨_, rfl⟩
  have ev0 : [0, 0, 0, 0, 0, 0, 0, 0, 0, 0, 0, 0, 0, 0, 0, 0, 0, 0, 0, 0, 0, 0, 0, 0, 0, 0, 0, 0, 0, 0, 0, 0, 0, 0, 0, 0, 0, 0, 0, 0, 0, 0, 0, 0, 0, 0, 0, 0, 0, 0, 0, 0, 0, 0, 0, 0] = v0 := by rw [hv0, hexE_zero]; rfl
  refine qv hE hI hm (fun z : Nat × List Int => (mkT 50 [(0, .val (.string s)), (2, .ptr 0 (.l 0)), (3, .ptr 8 (.l 0)), (10, .int .i64 (Ω.ofN (Ω.len xs))), (11, .int .i64 z.1)], [(8, .row .u8 56 z.2), (0, .agg [.row .u64 8 [0, 0, 0, 0, 0, 0, 0, 0]])])) (fun z => z.1 <= 112 /\ z.2 = hexE xs z.1) (fun z => 112 - z.1) 0 ⟨(0, v0), [], ⟨Nat.zero_le _, hv0⟩, by decide, ?_⟩ fun z hz => ⟨1000, ?_⟩
  ·conv => cbv
   exact ⟨rfl, ev0, trivial⟩
  obtain ⟨i, v⟩ := z
  obtain ⟨hi, hv⟩ : i <= 112 /\ v = hexE xs i := hz
  have hvl : v.length = 56 := by rw [hv, hexE_len]
  conv => cbv
  constructor
  ·intro hc
   have hc' : i < 112 := by
    rw [hΩ] at hc
    have h : (i : Int) < ((xs.length : Nat) : Int) := of_decide_eq_true hc
    omega
   have gi := hh (111 - i) (by omega)
   have ei : binL .sub .i64 (binL .sub .i64 (xs.length : Int) 1) (i : Int) = 111 - i := by
    rw [hxl, qx (a := ((112 : Nat) : Int)) (b := 1) (by omega) (by omega), qx (by omega) (by omega)]; omega
   have gd : xs.getD (111 - (i : Int)).toNat 0 = xs.getD (111 - i) 48 := by
    rw [show (111 - (i : Int)).toNat = 111 - i by omega]; simp [List.getD, show 111 - i < xs.length by omega]
   conv => cbv
   rw [hx', hs']
   have eq : binL .quo .i64 (i : Int) 2 = ((i / 2 : Nat) : Int) := by
    rw [qbs (by rw [Int.tdiv_eq_ediv_of_nonneg (by omega)]; omega) (by rw [Int.tdiv_eq_ediv_of_nonneg (by omega)]; omega), Int.tdiv_eq_ediv_of_nonneg (by omega)]; omega
   have er : binL .rem .i64 (i : Int) 2 = ((i % 2 : Nat) : Int) := by
    have : binL .rem .i64 (i : Int) 2 = (i : Int) % 2 := Int.tmod_eq_emod_of_nonneg (a := (i : Int)) (b := 2) (Int.natCast_nonneg i)
    rw [this]; omega
   constructor
   ·intro _
    subst hΩ
    show 0 <= binL .sub .i64 (binL .sub .i64 (xs.length : Int) 1) (i : Int) /\ binL .sub .i64 (binL .sub .i64 (xs.length : Int) 1) (i : Int) < 112
    rw [ei]; omega
   constructor
   ·intro hc2
    have hx : 97 <= xs.getD (111 - i) 48 := by
     subst hΩ
     have h : xs.getD (binL .sub .i64 (binL .sub .i64 (xs.length : Int) 1) (i : Int)).toNat 0 >= 97 := of_decide_eq_true hc2
     rw [ei, gd] at h; exact h
    have en : binL .add .u8 (binL .sub .u8 (xs.getD (binL .sub .i64 (binL .sub .i64 (xs.length : Int) 1) (i : Int)).toNat 0) 97) 10 = hd (xs.getD (111 - i) 48) := by
      rw [ei, gd]
      show IntKind.u8.wrap (IntKind.u8.wrap (xs.getD (111 - i) 48 - 97) + 10) = _
      rw [IntKind.wrap_u8, IntKind.wrap_u8]; unfold hd; rw [if_pos hx]; omega
    conv => cbv
    constructor
    ·intro hc3
     have hev : i % 2 = 0 := by
      subst hΩ
      have h : binL .rem .i64 (i : Int) 2 = 0 := eq_of_beq hc3
      rw [er] at h; omega
     obtain ⟨k, hk⟩ : ∃ k, i = 2 * k := ⟨i / 2, by omega⟩
     have hst := hexE_even xs (k := k) (by omega)
     obtain ⟨v2, hv2⟩ : ∃ v2, v2 = hexE xs (i + 1) := ⟨_, rfl⟩
     have ev2 : v.set (binL .quo .i64 (i : Int) 2).toNat (binL .add .u8 (binL .sub .u8 (xs.getD (binL .sub .i64 (binL .sub .i64 (xs.length : Int) 1) (i : Int)).toNat 0) 97) 10) = v2 := by
      rw [eq, en, hv2, hv, Int.toNat_natCast, hk, show 2 * k / 2 = k by omega, hst]
     have hq : 0 <= binL .quo .i64 (i : Int) 2 /\ binL .quo .i64 (i : Int) 2 < 56 := by rw [eq]; omega
     have hq2 : (binL .quo .i64 (i : Int) 2).toNat < 56 := by rw [eq]; omega
     conv => cbv
     constructor
     ·intro _; subst hΩ; exact hq
     constructor
     ·intro _; subst hΩ; exact hq2
     refine ⟨(i + 1, v2), [], ⟨by omega, hv2⟩, by simp only; omega, Nat.zero_le _, ?_⟩
     conv => cbv
     subst hΩ
     refine ⟨?_, ev2, trivial⟩
     show binL .add .i64 (i : Int) 1 = ((i + 1 : Nat) : Int)
     rw [qu (by omega) (by omega)]; omega
    ·intro hc3
     have hev : ¬ i % 2 = 0 := by
      subst hΩ
      have h : ¬ binL .rem .i64 (i : Int) 2 = 0 := ne_of_beq_false hc3
      rw [er] at h; omega
     obtain ⟨k, hk⟩ : ∃ k, i = 2 * k + 1 := ⟨i / 2, by omega⟩
     have hst := hexE_odd xs (k := k) (by omega)
     have hg0 := hexE_get xs (2 * k + 1) k (by omega)
     rw [if_neg (by omega), if_pos (by omega)] at hg0
     have hr1 := hd_rng (hh (111 - 2 * k) (by omega))
     have hr2 := hd_rng gi
     obtain ⟨v2, hv2⟩ : ∃ v2, v2 = hexE xs (i + 1) := ⟨_, rfl⟩
     have ev2 : v.set (binL .quo .i64 (i : Int) 2).toNat (binL .or .u8 (v.getD (binL .quo .i64 (i : Int) 2).toNat 0) (binL .mul .u8 (binL .add .u8 (binL .sub .u8 (xs.getD (binL .sub .i64 (binL .sub .i64 (xs.length : Int) 1) (i : Int)).toNat 0) 97) 10) 16)) = v2 := by
      rw [eq, en, hv2, hv, Int.toNat_natCast, hk, show (2 * k + 1) / 2 = k by omega, show 2 * k + 1 + 1 = 2 * k + 2 by omega, hst, hg0, show 111 - (2 * k + 1) = 110 - 2 * k by omega, qn4 hr1 (by rw [show 110 - 2 * k = 111 - i by omega]; exact hr2)]
     have hq : 0 <= binL .quo .i64 (i : Int) 2 /\ binL .quo .i64 (i : Int) 2 < 56 := by rw [eq]; omega
     have hq2 : (binL .quo .i64 (i : Int) 2).toNat < 56 := by rw [eq]; omega
     conv => cbv
     constructor
     ·intro _; subst hΩ; exact hq
     constructor
     ·intro _; subst hΩ; exact hq2
     constructor
     ·intro _; subst hΩ; exact hq
     constructor
     ·intro _; subst hΩ; exact hq2
     refine ⟨(i + 1, v2), [], ⟨by omega, hv2⟩, by simp only; omega, Nat.zero_le _, ?_⟩
     conv => cbv
     subst hΩ
     refine ⟨?_, ev2, trivial⟩
     show binL .add .i64 (i : Int) 1 = ((i + 1 : Nat) : Int)
     rw [qu (by omega) (by omega)]; omega
   ·intro hc2
    have hx : ¬ 97 <= xs.getD (111 - i) 48 := by
     subst hΩ
     have h : ¬ xs.getD (binL .sub .i64 (binL .sub .i64 (xs.length : Int) 1) (i : Int)).toNat 0 >= 97 := of_decide_eq_false hc2
     rw [ei, gd] at h; exact h
    have en : binL .sub .u8 (xs.getD (binL .sub .i64 (binL .sub .i64 (xs.length : Int) 1) (i : Int)).toNat 0) 48 = hd (xs.getD (111 - i) 48) := by
      rw [ei, gd]
      show IntKind.u8.wrap (xs.getD (111 - i) 48 - 48) = _
      rw [IntKind.wrap_u8]; unfold hd; rw [if_neg hx]; omega
    conv => cbv
    constructor
    ·intro hc3
     have hev : i % 2 = 0 := by
      subst hΩ
      have h : binL .rem .i64 (i : Int) 2 = 0 := eq_of_beq hc3
      rw [er] at h; omega
     obtain ⟨k, hk⟩ : ∃ k, i = 2 * k := ⟨i / 2, by omega⟩
     have hst := hexE_even xs (k := k) (by omega)
     obtain ⟨v2, hv2⟩ : ∃ v2, v2 = hexE xs (i + 1) := ⟨_, rfl⟩
     have ev2 : v.set (binL .quo .i64 (i : Int) 2).toNat (binL .sub .u8 (xs.getD (binL .sub .i64 (binL .sub .i64 (xs.length : Int) 1) (i : Int)).toNat 0) 48) = v2 := by
      rw [eq, en, hv2, hv, Int.toNat_natCast, hk, show 2 * k / 2 = k by omega, hst]
     have hq : 0 <= binL .quo .i64 (i : Int) 2 /\ binL .quo .i64 (i : Int) 2 < 56 := by rw [eq]; omega
     have hq2 : (binL .quo .i64 (i : Int) 2).toNat < 56 := by rw [eq]; omega
     conv => cbv
     constructor
     ·intro _; subst hΩ; exact hq
     constructor
     ·intro _; subst hΩ; exact hq2
     refine ⟨(i + 1, v2), [], ⟨by omega, hv2⟩, by simp only; omega, Nat.zero_le _, ?_⟩
     conv => cbv
     subst hΩ
     refine ⟨?_, ev2, trivial⟩
     show binL .add .i64 (i : Int) 1 = ((i + 1 : Nat) : Int)
     rw [qu (by omega) (by omega)]; omega
    ·intro hc3
     have hev : ¬ i % 2 = 0 := by
      subst hΩ
      have h : ¬ binL .rem .i64 (i : Int) 2 = 0 := ne_of_beq_false hc3
      rw [er] at h; omega
     obtain ⟨k, hk⟩ : ∃ k, i = 2 * k + 1 := ⟨i / 2, by omega⟩
     have hst := hexE_odd xs (k := k) (by omega)
     have hg0 := hexE_get xs (2 * k + 1) k (by omega)
     rw [if_neg (by omega), if_pos (by omega)] at hg0
     have hr1 := hd_rng (hh (111 - 2 * k) (by omega))
     have hr2 := hd_rng gi
     obtain ⟨v2, hv2⟩ : ∃ v2, v2 = hexE xs (i + 1) := ⟨_, rfl⟩
     have ev2 : v.set (binL .quo .i64 (i : Int) 2).toNat (binL .or .u8 (v.getD (binL .quo .i64 (i : Int) 2).toNat 0) (binL .mul .u8 (binL .sub .u8 (xs.getD (binL .sub .i64 (binL .sub .i64 (xs.length : Int) 1) (i : Int)).toNat 0) 48) 16)) = v2 := by
      rw [eq, en, hv2, hv, Int.toNat_natCast, hk, show (2 * k + 1) / 2 = k by omega, show 2 * k + 1 + 1 = 2 * k + 2 by omega, hst, hg0, show 111 - (2 * k + 1) = 110 - 2 * k by omega, qn4 hr1 (by rw [show 110 - 2 * k = 111 - i by omega]; exact hr2)]
     have hq : 0 <= binL .quo .i64 (i : Int) 2 /\ binL .quo .i64 (i : Int) 2 < 56 := by rw [eq]; omega
     have hq2 : (binL .quo .i64 (i : Int) 2).toNat < 56 := by rw [eq]; omega
     conv => cbv
     constructor
     ·intro _; subst hΩ; exact hq
     constructor
     ·intro _; subst hΩ; exact hq2
     constructor
     ·intro _; subst hΩ; exact hq
     constructor
     ·intro _; subst hΩ; exact hq2
     refine ⟨(i + 1, v2), [], ⟨by omega, hv2⟩, by simp only; omega, Nat.zero_le _, ?_⟩
     conv => cbv
     subst hΩ
     refine ⟨?_, ev2, trivial⟩
     show binL .add .i64 (i : Int) 1 = ((i + 1 : Nat) : Int)
     rw [qu (by omega) (by omega)]; omega
  ·intro hc
   have hc' : ¬ i < 112 := by
    rw [hΩ] at hc
    have h : ¬ (i : Int) < ((xs.length : Nat) : Int) := of_decide_eq_false hc
    omega
   have hvb : Byt v := by
    intro a ha
    obtain ⟨t, ht, rfl⟩ := List.getElem_of_mem ha
    have e : v[t] = v.getD t 0 := by simp [List.getD, ht]
    rw [e, hv, hexE_get xs i t (by omega), if_pos (by omega)]
    have := hd_rng (hh (111 - 2 * t) (by omega))
    have := hd_rng (hh (110 - 2 * t) (by omega))
    omega
   conv => cbv
   constructor
   ·exact fun _ => ⟨trivial, trivial, trivial, (show 0 <= 56 by decide), Nat.le_refl _, Nat.le_refl _⟩
   constructor
   ·exact fun _ => ⟨(show 0 + 56 <= 56 by decide), trivial⟩
   constructor
   ·exact fun _ _ => hvb
   intro z hz
   have hz1 : z = true := by
    have h : z = (v.length == 56) := hz
    rw [h, hvl]; rfl
   subst hz1
   conv => cbv
   refine hQ () _ _ _ trivial ?_
   subst hΩ
   show Pay.fe (fI (qw v)) = Pay.fe (fI (qw (hexB (strB s))))
   rw [hv, show i = 112 by omega, hexE_end, hxs]
def qhs (Ω : Om) : qd := fun args => match args with
 | [] => ⟨True, Unit, fun _ => True, fun _ => .ab (.pt (Ω.hide _ fun _ => baseP))⟩
 | _ => PR.none
theorem qsM : Ctr Tryz.prog T glob 40 (qhs Om.real) := by
 refine qo T_ok qi qj (fun Ω => [(104, qhr Ω), (54, qbd Ω)]) [] (fun Ω => []) [] (qb qsL (qb qbO qg)) qh qe qf Tryz.func40 (by rfl) (by kernel_rfl) Tryz.call40 ?_ ?_
 ·intro args; unfold qhs; split
  ·exact qr (by repeat' constructor) (fun _ _ => rfl) (by repeat' constructor)
  ·exact PR.good_none
 ·intro P Ω hΩ hE hI hm args pr hs hp Q hQ
  unfold qhs at hs
  split at hs <;> subst hs <;> try (exact hp.elim)
  refine ⟨1000, ?_⟩
  conv => cbv
  constructor
  ·exact fun _ _ => (by decide +kernel)
  intro _ _
  conv => cbv
  constructor
  ·exact fun _ _ => (by decide +kernel)
  intro _ _
  conv => cbv
  constructor
  ·exact fun _ _ => (by decide)
  intro _ _
  conv => cbv
  refine hQ () _ _ _ trivial ?_
  subst hΩ
  exact qce qd0 qcr (by decide +kernel) (by decide +kernel)
def qht (Ω : Om) : qd := fun args => match args with
 | [] => ⟨True, Unit, fun _ => True, fun _ => .ab (.rp (Ω.hide _ fun _ => baseP))⟩
 | _ => PR.none
theorem qsN : Ctr Tryz.prog T glob 83 (qht Om.real) := by
 refine qo T_ok qi qj (fun Ω => [(130, qhj Ω), (46, qbD Ω)]) [] (fun Ω => []) [] (qb qsD (qb qdb qg)) qh qe qf Tryz.func83 (by rfl) (by kernel_rfl) Tryz.call83 ?_ ?_
 ·intro args; unfold qht; split
  ·exact qr (by repeat' constructor) (fun _ _ => rfl) (by repeat' constructor)
  ·exact PR.good_none
 ·intro P Ω hΩ hE hI hm args pr hs hp Q hQ
  unfold qht at hs
  split at hs <;> subst hs <;> try (exact hp.elim)
  refine ⟨1000, ?_⟩
  conv => cbv
  constructor
  ·exact fun _ _ => (by decide +kernel)
  intro _ _
  conv => cbv
  constructor
  ·exact fun _ _ => (by decide +kernel)
  intro _ _
  conv => cbv
  constructor
  ·exact fun _ _ => (by decide)
  intro _ _
  conv => cbv
  refine hQ () _ _ _ trivial ?_
  subst hΩ
  exact qdB qd0 qcr (by decide +kernel) (by decide +kernel)
end Go.Sx.Tryz
end
section
set_option maxHeartbeats 4000000
namespace Go.Sx.Tryz
open Go.Proofs
set_option maxRecDepth 40000
def qhu (Ω : Om) : qd := fun args => match args with
 | [.roi .u8 bs] => ⟨∀ _ : Unit, Byt bs /\ bs.length < 9223372036854775808, Bool, fun z => z = qaE bs, fun z => match z with | true => .tup [.ab (.pt (Ω.hide _ fun _ => qaP bs)), .lit .i64 0] | false => .tup [.agg [.agg [.row .u64 8 [0, 0, 0, 0, 0, 0, 0, 0]], .agg [.row .u64 8 [0, 0, 0, 0, 0, 0, 0, 0]], .agg [.row .u64 8 [0, 0, 0, 0, 0, 0, 0, 0]]], .int .i64 (Ω.hide _ fun _ => if bs.length = 57 then 13 else 11)]⟩
 | _ => PR.none
noncomputable def qsO : List (FuncId × Func) := [(131, Tryz.f131)]
theorem qsP : Ctr Tryz.prog T glob 85 (qhu Om.real) := by
 refine qo T_ok qi qj (fun Ω => [(52, qe0 Ω), (55, qbq Ω), (54, qbd Ω), (62, qbN Ω), (57, qbP Ω), (58, qdL Ω), (89, qeM Ω), (111, qc3 Ω), (118, qc2 Ω), (63, qeX Ω)]) qsO (fun Ω => []) [] (qb qng (qb qcq (qb qbO (qb qdF (qb qdJ (qb qju (qb qmV (qb qgE (qb qgC (qb qnb qg)))))))))) (qG Tryz.call131 Tryz.func131 (by kernel_rfl) qh) qe qf Tryz.func85 (by rfl) (by kernel_rfl) Tryz.call85 ?_ ?_
 ·intro args; unfold qhu; split
  ·exact qa5 ⟨fun x => by cases x <;> repeat' (first | exact trivial | constructor), fun E x b => by cases x <;> rfl⟩ (by repeat' (first | exact trivial | constructor)) (fun _ => ⟨_, rfl⟩)
  ·exact PR.good_none
 ·intro P Ω hΩ hE hI hm args pr hs hp Q hQ
  unfold qhu at hs
  split at hs <;> subst hs <;> try (exact hp.elim)
  rename_i bs
  obtain ⟨hb, hl⟩ := hp ()
  refine ⟨1000, ?_⟩
  conv => cbv
  constructor
  ·intro hc
   have hl57 : ¬ bs.length = 57 := by rw [hΩ] at hc; simp (disch := omega) only [Om.real, qk, decide_eq_true_eq, decide_eq_false_iff_not] at hc; omega
   conv => cbv
   refine hQ false _ _ _ (by unfold qaE; rw [beq_eq_false_iff_ne.2 hl57]; rfl) ?_
   subst hΩ
   refine ⟨⟨⟨⟨⟨rfl, rfl, rfl⟩, trivial⟩, ⟨⟨rfl, rfl, rfl⟩, trivial⟩, ⟨⟨rfl, rfl, rfl⟩, trivial⟩, trivial⟩, ⟨rfl, ?_⟩, trivial⟩, rfl, rfl⟩
   exact (if_neg hl57).symm
  ·intro hc
   have hl57 : bs.length = 57 := by rw [hΩ] at hc; simp (disch := omega) only [Om.real, qk, decide_eq_true_eq, decide_eq_false_iff_not] at hc; omega
   conv => cbv
   have hbt : Byt (bs.take 56) := qaz hb 56
   have htl : (bs.take 56).length = 56 := by rw [List.length_take]; omega
   have hxr := qaJ hb 56
   constructor
   ·intro _; subst hΩ; exact ⟨trivial, trivial, trivial, (show 0 <= 56 by decide), (show 56 <= 56 by decide), (show 56 <= bs.length by omega)⟩
   constructor
   ·intro _ _
    subst hΩ
    show Byt ((bs.drop 0).take 56) /\ ((bs.drop 0).take 56).length < _
    rw [List.drop_zero]
    exact ⟨hbt, by rw [htl]; decide⟩
   intro z hz
   have hz : z = decide (qw (bs.take 56) < 726838724295606890549323807888004534353641360687318060281490199180612328166730772686396383698676545930088884461843637361053498018365439) := by
    subst hΩ
    have h : z = decide (((bs.drop 0).take 56).length = 56 /\ qw ((bs.drop 0).take 56) < 726838724295606890549323807888004534353641360687318060281490199180612328166730772686396383698676545930088884461843637361053498018365439) := hz
    rw [h, List.drop_zero]
    apply decide_eq_decide.2
    exact ⟨fun h => h.2, fun h => ⟨htl, h⟩⟩
   have hlt' := hz
   cases z with
   | false =>
     conv => cbv
     have hce : (Ω.hide Int fun _ => if (Ω.sub bs 0 56).length = 56 then 12 else 11) = 12 := by
       subst hΩ
       show (if ((bs.drop 0).take 56).length = 56 then (12 : Int) else 11) = 12
       rw [List.drop_zero, if_pos htl]
     constructor
     · intro hc2
       cbv
       refine hQ false _ _ _ ?_ ?_
       · unfold qaE; rw [<- hz, Bool.false_and, Bool.and_false]
       subst hΩ
       refine ⟨⟨⟨⟨⟨rfl, rfl, rfl⟩, trivial⟩, ⟨⟨rfl, rfl, rfl⟩, trivial⟩, ⟨⟨rfl, rfl, rfl⟩, trivial⟩, trivial⟩, ⟨rfl, ?_⟩, trivial⟩, rfl, rfl⟩
       exact (if_pos hl57).symm
     · intro hc2
       exfalso
       have hc3 : Ω.cmp .neq (Ω.hide Int fun _ => if (Ω.sub bs 0 56).length = 56 then 12 else 11) 0 = false := hc2
       rw [hce] at hc3
       subst hΩ
       exact absurd hc3 (by decide)
   | true =>
     conv => cbv
     constructor
     · intro _; subst hΩ; exact (show 56 < bs.length by omega)
     constructor
     · intro _; subst hΩ; exact (show 56 + 1 <= bs.length by omega)
     constructor
     · intro hc2
       have h0 : bs.getD 56 0 ≠ 0 := by
         subst hΩ
         exact bne_iff_ne.1 (show (bs.getD 56 0 != 0) = true from hc2)
       conv => cbv
       constructor
       · intro _; subst hΩ; exact (show 56 < bs.length by omega)
       constructor
       · intro _; subst hΩ; exact (show 56 + 1 <= bs.length by omega)
       constructor
       · intro hc3
         have h128 : bs.getD 56 0 ≠ 128 := by
           subst hΩ
           exact bne_iff_ne.1 (show (bs.getD 56 0 != 128) = true from hc3)
         conv => cbv
         refine hQ false _ _ _ ?_ ?_
         · unfold qaE; rw [beq_eq_false_iff_ne.2 h0, beq_eq_false_iff_ne.2 h128, Bool.or_false, Bool.false_and, Bool.and_false, Bool.and_false]
         subst hΩ
         refine ⟨⟨⟨⟨⟨rfl, rfl, rfl⟩, trivial⟩, ⟨⟨rfl, rfl, rfl⟩, trivial⟩, ⟨⟨rfl, rfl, rfl⟩, trivial⟩, trivial⟩, ⟨rfl, ?_⟩, trivial⟩, rfl, rfl⟩
         exact (if_pos hl57).symm
       · intro hc3
         have h56 : bs.getD 56 0 = 128 := by
           subst hΩ
           exact bne_eq_false_iff_eq.1 (show (bs.getD 56 0 != 128) = false from hc3)
         have hq : binL .quo .u8 (bs.getD 56 0) 128 = 1 := by rw [h56]; rfl
         conv => cbv
         repeat (constructor; (first | exact fun (_ : Unit) => trivial | exact fun (_ : Unit) (_ : Unit) => (by decide)); intro _ _; conv => cbv)
         constructor
         · intro _; subst hΩ; exact (show 56 < bs.length by omega)
         constructor
         · intro _; subst hΩ; exact (show 56 + 1 <= bs.length by omega)
         constructor
         · intro hc4
           have hIs : qd2 bs = false := by
             subst hΩ
             have h := hc4
             rw [<- Bool.not_eq_true']
             exact h
           conv => cbv
           refine hQ false _ _ _ ?_ ?_
           · unfold qaE; rw [hIs, Bool.false_and, Bool.and_false, Bool.and_false, Bool.and_false]
           subst hΩ
           refine ⟨⟨⟨⟨⟨rfl, rfl, rfl⟩, trivial⟩, ⟨⟨rfl, rfl, rfl⟩, trivial⟩, ⟨⟨rfl, rfl, rfl⟩, trivial⟩, trivial⟩, ⟨rfl, ?_⟩, trivial⟩, rfl, rfl⟩
           exact (if_pos hl57).symm
         · intro hc4
           have hIs : qd2 bs = true := by
             subst hΩ
             have h := hc4
             rw [<- Bool.not_eq_false']
             exact h
           conv => cbv
           constructor; (first | exact fun (_ : Unit) => trivial | exact fun (_ : Unit) (_ : Unit) => (by decide)); intro _ _; conv => cbv
           constructor
           · intro hc5
             have h0x : qL (codU bs) (codV bs) = 0 := by subst hΩ; exact of_decide_eq_true hc5
             conv => cbv
             constructor
             rotate_left
             · intro hb1
               have h' : False := by subst hΩ; have h : binL .quo .u8 (bs.getD 56 0) 128 = 1 := hq; exact absurd (show (IntKind.i64.wrap (binL .quo .u8 (bs.getD 56 0) 128) == 1) = false from hb1) (by rw [h]; decide)
               contradiction
             intro _
             conv => cbv
             refine hQ false _ _ _ ?_ ?_
             · unfold qaE; rw [decide_eq_true h0x, h56]; simp
             subst hΩ
             refine ⟨⟨⟨⟨⟨rfl, rfl, rfl⟩, trivial⟩, ⟨⟨rfl, rfl, rfl⟩, trivial⟩, ⟨⟨rfl, rfl, rfl⟩, trivial⟩, trivial⟩, ⟨rfl, ?_⟩, trivial⟩, rfl, rfl⟩
             exact (if_pos hl57).symm
           · intro hc5
             have h0x : ¬ qL (codU bs) (codV bs) = 0 := by subst hΩ; exact of_decide_eq_false hc5
             conv => cbv
             constructor; (first | exact fun (_ : Unit) => trivial | exact fun (_ : Unit) (_ : Unit) => (by decide)); intro _ _; conv => cbv
             constructor; (first | exact fun (_ : Unit) => trivial | exact fun (_ : Unit) (_ : Unit) => (by decide)); intro _ _; conv => cbv
             constructor
             · exact fun (_ : Unit) => trivial
             intro z hz
             have ex : codX bs = if IntKind.i64.wrap (binL .quo .u8 (bs.getD 56 0) 128) % 2 = 0 then qL (codU bs) (codV bs) else -qL (codU bs) (codV bs) := by
               rw [hq]
               unfold codX
               rw [h56]
               rfl
             have hz : z = decide (AP.on ⟨codX bs, codY bs⟩) := by
               rw [ex]
               subst hΩ
               exact hz
             cases z with
             | false =>
               conv => cbv
               refine hQ false _ _ _ ?_ ?_
               · unfold qaE qaP; rw [<- hz, Bool.and_false, Bool.and_false, Bool.and_false, Bool.and_false, Bool.and_false]
               subst hΩ
               refine ⟨⟨⟨⟨⟨rfl, rfl, rfl⟩, trivial⟩, ⟨⟨rfl, rfl, rfl⟩, trivial⟩, ⟨⟨rfl, rfl, rfl⟩, trivial⟩, trivial⟩, ⟨rfl, ?_⟩, trivial⟩, rfl, rfl⟩
               exact (if_pos hl57).symm
             | true =>
               have hon : (qaP bs).on := of_decide_eq_true hz.symm
               conv => cbv
               refine hQ true _ _ _ ?_ ?_
               · unfold qaE; rw [hl57, <- hlt', h56, hIs, decide_eq_false h0x, decide_eq_true hon]; rfl
               have ep : qaP bs = ⟨codX bs, codY bs⟩ := rfl
               rw [ex] at ep
               subst hΩ
               exact ⟨⟨congrArg Pay.pt ep.symm, ⟨rfl, rfl⟩, trivial⟩, rfl, rfl⟩
     · intro hc2
       have h56 : bs.getD 56 0 = 0 := by
         subst hΩ
         exact bne_eq_false_iff_eq.1 (show (bs.getD 56 0 != 0) = false from hc2)
       have hq : binL .quo .u8 (bs.getD 56 0) 128 = 0 := by rw [h56]; rfl
       conv => cbv
       repeat (constructor; (first | exact fun (_ : Unit) => trivial | exact fun (_ : Unit) (_ : Unit) => (by decide)); intro _ _; conv => cbv)
       constructor
       · intro _; subst hΩ; exact (show 56 < bs.length by omega)
       constructor
       · intro _; subst hΩ; exact (show 56 + 1 <= bs.length by omega)
       constructor
       · intro hc4
         have hIs : qd2 bs = false := by
           subst hΩ
           have h := hc4
           rw [<- Bool.not_eq_true']
           exact h
         conv => cbv
         refine hQ false _ _ _ ?_ ?_
         · unfold qaE; rw [hIs, Bool.false_and, Bool.and_false, Bool.and_false, Bool.and_false]
         subst hΩ
         refine ⟨⟨⟨⟨⟨rfl, rfl, rfl⟩, trivial⟩, ⟨⟨rfl, rfl, rfl⟩, trivial⟩, ⟨⟨rfl, rfl, rfl⟩, trivial⟩, trivial⟩, ⟨rfl, ?_⟩, trivial⟩, rfl, rfl⟩
         exact (if_pos hl57).symm
       · intro hc4
         have hIs : qd2 bs = true := by
           subst hΩ
           have h := hc4
           rw [<- Bool.not_eq_false']
           exact h
         conv => cbv
         constructor; (first | exact fun (_ : Unit) => trivial | exact fun (_ : Unit) (_ : Unit) => (by decide)); intro _ _; conv => cbv
         constructor
         · intro hc5
           have h0x : qL (codU bs) (codV bs) = 0 := by subst hΩ; exact of_decide_eq_true hc5
           conv => cbv
           constructor
           · intro hb1
             have h' : False := by subst hΩ; have h : binL .quo .u8 (bs.getD 56 0) 128 = 0 := hq; exact absurd (show (IntKind.i64.wrap (binL .quo .u8 (bs.getD 56 0) 128) == 1) = true from hb1) (by rw [h]; decide)
             contradiction
           intro _
           conv => cbv
           constructor; (first | exact fun (_ : Unit) => trivial | exact fun (_ : Unit) (_ : Unit) => (by decide)); intro _ _; conv => cbv
           constructor; (first | exact fun (_ : Unit) => trivial | exact fun (_ : Unit) (_ : Unit) => (by decide)); intro _ _; conv => cbv
           constructor
           · exact fun (_ : Unit) => trivial
           intro z hz
           have ex : codX bs = if IntKind.i64.wrap (binL .quo .u8 (bs.getD 56 0) 128) % 2 = 0 then qL (codU bs) (codV bs) else -qL (codU bs) (codV bs) := by
             rw [hq]
             unfold codX
             rw [h56]
             rfl
           have hz : z = decide (AP.on ⟨codX bs, codY bs⟩) := by
             rw [ex]
             subst hΩ
             exact hz
           cases z with
           | false =>
             conv => cbv
             refine hQ false _ _ _ ?_ ?_
             · unfold qaE qaP; rw [<- hz, Bool.and_false, Bool.and_false, Bool.and_false, Bool.and_false, Bool.and_false]
             subst hΩ
             refine ⟨⟨⟨⟨⟨rfl, rfl, rfl⟩, trivial⟩, ⟨⟨rfl, rfl, rfl⟩, trivial⟩, ⟨⟨rfl, rfl, rfl⟩, trivial⟩, trivial⟩, ⟨rfl, ?_⟩, trivial⟩, rfl, rfl⟩
             exact (if_pos hl57).symm
           | true =>
             have hon : (qaP bs).on := of_decide_eq_true hz.symm
             conv => cbv
             refine hQ true _ _ _ ?_ ?_
             · unfold qaE; rw [hl57, <- hlt', h56, hIs, decide_eq_true hon, show ((0 : Int) == 128) = false from rfl, Bool.and_false]; rfl
             have ep : qaP bs = ⟨codX bs, codY bs⟩ := rfl
             rw [ex] at ep
             subst hΩ
             exact ⟨⟨congrArg Pay.pt ep.symm, ⟨rfl, rfl⟩, trivial⟩, rfl, rfl⟩
         · intro hc5
           have h0x : ¬ qL (codU bs) (codV bs) = 0 := by subst hΩ; exact of_decide_eq_false hc5
           conv => cbv
           constructor; (first | exact fun (_ : Unit) => trivial | exact fun (_ : Unit) (_ : Unit) => (by decide)); intro _ _; conv => cbv
           constructor; (first | exact fun (_ : Unit) => trivial | exact fun (_ : Unit) (_ : Unit) => (by decide)); intro _ _; conv => cbv
           constructor
           · exact fun (_ : Unit) => trivial
           intro z hz
           have ex : codX bs = if IntKind.i64.wrap (binL .quo .u8 (bs.getD 56 0) 128) % 2 = 0 then qL (codU bs) (codV bs) else -qL (codU bs) (codV bs) := by
             rw [hq]
             unfold codX
             rw [h56]
             rfl
           have hz : z = decide (AP.on ⟨codX bs, codY bs⟩) := by
             rw [ex]
             subst hΩ
             exact hz
           cases z with
           | false =>
             conv => cbv
             refine hQ false _ _ _ ?_ ?_
             · unfold qaE qaP; rw [<- hz, Bool.and_false, Bool.and_false, Bool.and_false, Bool.and_false, Bool.and_false]
             subst hΩ
             refine ⟨⟨⟨⟨⟨rfl, rfl, rfl⟩, trivial⟩, ⟨⟨rfl, rfl, rfl⟩, trivial⟩, ⟨⟨rfl, rfl, rfl⟩, trivial⟩, trivial⟩, ⟨rfl, ?_⟩, trivial⟩, rfl, rfl⟩
             exact (if_pos hl57).symm
           | true =>
             have hon : (qaP bs).on := of_decide_eq_true hz.symm
             conv => cbv
             refine hQ true _ _ _ ?_ ?_
             · unfold qaE; rw [hl57, <- hlt', h56, hIs, decide_eq_true hon, show ((0 : Int) == 128) = false from rfl, Bool.and_false]; rfl
             have ep : qaP bs = ⟨codX bs, codY bs⟩ := rfl
             rw [ex] at ep
             subst hΩ
             exact ⟨⟨congrArg Pay.pt ep.symm, ⟨rfl, rfl⟩, trivial⟩, rfl, rfl⟩
end Go.Sx.Tryz
end
section
set_option maxHeartbeats 4000000
namespace Go.Sx.Tryz
open Go.Proofs
set_option maxRecDepth 40000
def qfs (Ω : Om) : qd := fun args => match args with
 | [.roi .u8 xs, .roi .u8 ys] => ⟨∀ _ : Unit, xs.length < 9223372036854775807 /\ ys.length < 9223372036854775807, Unit, fun _ => True, fun _ => .bs (Ω.hide _ fun _ => xs == ys)⟩
 | _ => PR.none
theorem qn9 : Ctr Tryz.prog T glob 15 (qfs Om.real) := by
 refine qo T_ok qi qj (fun Ω => []) [] (fun Ω => []) [] qg qh qe qf Tryz.func15 (by rfl) (by kernel_rfl) Tryz.call15 ?_ ?_
 ·intro args; unfold qfs; split
  ·exact qr (by repeat' constructor) (fun _ _ => rfl) (by repeat' constructor)
  ·exact PR.good_none
 ·intro P Ω hΩ hE hI hm args pr hs hp Q hQ
  unfold qfs at hs
  split at hs <;> subst hs <;> try (exact hp.elim)
  rename_i xs ys
  obtain ⟨lx, ly⟩ := hp ()
  refine ⟨1000, ?_⟩
  conv => cbv
  constructor
  ·intro hb
   rw [hΩ] at hb; simp (disch := omega) only [Om.real, qk, decide_eq_true_eq, decide_eq_false_iff_not] at hb
   conv => cbv
   refine hQ () _ _ _ trivial ?_
   subst hΩ
   show false = (xs == ys)
   cases h3 : xs == ys with
   | false => rfl
   | true => exact absurd (congrArg List.length (eq_of_beq h3)) hb
  ·intro hb
   rw [hΩ] at hb; simp (disch := omega) only [Om.real, qk, decide_eq_true_eq, decide_eq_false_iff_not] at hb
   have hlen : xs.length = ys.length := by omega
   conv => cbv
   refine qv hE hI hm (fun i : Nat => (mkT 26 [(0, .roi .u8 xs), (1, .roi .u8 ys), (4, .bl false), (5, .int .i64 i)], [])) (fun i => i <= xs.length /\ xs.take i = ys.take i) (fun i => xs.length - i) 0 ⟨0, [], ⟨Nat.zero_le _, rfl⟩, Nat.le_refl _, by cbv⟩ fun i hi => ⟨1000, ?_⟩
   conv => cbv
   constructor
   ·intro hc
    rw [hΩ] at hc; simp (disch := omega) only [Om.real, qk, decide_eq_true_eq, decide_eq_false_iff_not] at hc
    conv => cbv
    repeat (refine ⟨by ((try intro _); (try subst hΩ); simp (disch := omega) only [Om.real, qk, SN.v]; omega), ?_⟩)
    constructor
    ·intro hne
     cbv
     refine hQ () _ _ _ trivial ?_
     subst hΩ
     have h1 : (xs.getD i 0 != ys.getD i 0) = true := hne
     show false = (xs == ys)
     cases h3 : xs == ys with
     | false => rfl
     | true => rw [eq_of_beq h3] at h1; simp at h1
    ·intro hne
     cbv
     refine ⟨i + 1, [], ⟨hc, ?_⟩, by omega, Nat.zero_le _, ?_⟩
     ·subst hΩ
      have h1 : (xs.getD i 0 != ys.getD i 0) = false := hne
      rw [bne_eq_false_iff_eq] at h1
      rw [List.take_succ_eq_append_getElem hc, List.take_succ_eq_append_getElem (by omega), hi.2]
      have e1 : xs.getD i 0 = xs[i] := by simp [List.getD, hc]
      have e2 : ys.getD i 0 = ys[i]'(by omega) := by simp [List.getD, show i < ys.length by omega]
      rw [<- e1, <- e2, h1]
     ·conv => cbv
      subst hΩ
      simp (disch := omega) only [Om.real, qk]
   ·intro hc
    rw [hΩ] at hc; simp (disch := omega) only [Om.real, qk, decide_eq_true_eq, decide_eq_false_iff_not] at hc
    conv => cbv
    refine hQ () _ _ _ trivial ?_
    have e : i = xs.length := by have := hi.1; omega
    have h2 := hi.2
    rw [e, List.take_length, hlen, List.take_length] at h2
    subst hΩ
    show true = (xs == ys)
    rw [h2]
    simp
def qhv (Ω : Om) : qd := fun args => match args with
 | [.agg [.roi .u8 K, .int .i64 T]] => ⟨∀ _ : Unit, Byt K /\ K.length < 9223372036854775808, Bool, fun z => z = decide (K.length <= 57 /\ 0 <= T /\ T <= 3), fun z => match z with | true => .tup [.ab (.pt (Ω.hide _ fun _ => spP K T)), .ab (.rp (Ω.hide _ fun _ => spP K T)), .bl true] | false => .tup [.ab (.pt (Ω.hide _ fun _ => pid)), .ab (.rp (Ω.hide _ fun _ => pid)), .bl false]⟩
 | _ => PR.none
theorem qsZ : Ctr Tryz.prog T glob 27 (qhv Om.real) := by
 refine qo T_ok qi qj (fun Ω => [(82, qcs Ω), (41, qd1 Ω), (83, qht Ω), (35, qfq Ω), (84, qhm Ω), (22, qdf Ω), (86, qhn Ω), (85, qhu Ω)]) [] (fun Ω => []) [] (qb qeT (qb qjX (qb qsN (qb qn6 (qb qsF (qb qhl (qb qsG (qb qsP qg)))))))) qh qe qf Tryz.func27 (by rfl) (by kernel_rfl) Tryz.call27 ?_ ?_
 ·intro args; unfold qhv; split
  ·exact qa5 ⟨fun x => by cases x <;> repeat' (first | exact trivial | constructor), fun E x b => by cases x <;> rfl⟩ (by repeat' (first | exact trivial | constructor)) (fun _ => ⟨_, rfl⟩)
  ·exact PR.good_none
 ·intro P Ω hΩ hE hI hm args pr hs hp Q hQ
  unfold qhv at hs
  split at hs <;> subst hs <;> try (exact hp.elim)
  rename_i K T'
  obtain ⟨hK, hl⟩ := hp ()
  refine ⟨1000, ?_⟩
  conv => cbv
  constructor
  ·intro hc
   have h1 : ¬ K.length <= 57 := by rw [hΩ] at hc; simp (disch := omega) only [Om.real, qk, decide_eq_true_eq, decide_eq_false_iff_not] at hc; omega
   conv => cbv
   repeat (constructor; (first | exact fun (_ : Unit) => trivial | exact fun (_ : Unit) (_ : Unit) => (by decide)); intro _ _; conv => cbv)
   refine hQ false _ _ _ ?_ ?_
   ·exact (decide_eq_false (by omega)).symm
   subst hΩ
   exact ⟨⟨rfl, rfl, rfl, trivial⟩, rfl, rfl⟩
  ·intro hc
   have h1 : K.length <= 57 := by rw [hΩ] at hc; simp (disch := omega) only [Om.real, qk, decide_eq_true_eq, decide_eq_false_iff_not] at hc; omega
   constructor
   ·intro hc2
    have h2 : T' < 0 := by subst hΩ; exact of_decide_eq_true hc2
    conv => cbv
    repeat (constructor; (first | exact fun (_ : Unit) => trivial | exact fun (_ : Unit) (_ : Unit) => (by decide)); intro _ _; conv => cbv)
    refine hQ false _ _ _ ?_ ?_
    ·exact (decide_eq_false (by omega)).symm
    subst hΩ
    exact ⟨⟨rfl, rfl, rfl, trivial⟩, rfl, rfl⟩
   ·intro hc2
    have h2 : ¬ T' < 0 := by subst hΩ; exact of_decide_eq_false hc2
    constructor
    ·intro hc3
     have h3 : T' > 3 := by subst hΩ; exact of_decide_eq_true hc3
     conv => cbv
     repeat (constructor; (first | exact fun (_ : Unit) => trivial | exact fun (_ : Unit) (_ : Unit) => (by decide)); intro _ _; conv => cbv)
     refine hQ false _ _ _ ?_ ?_
     ·exact (decide_eq_false (by omega)).symm
     subst hΩ
     exact ⟨⟨rfl, rfl, rfl, trivial⟩, rfl, rfl⟩
    ·intro hc3
     have h3 : ¬ T' > 3 := by subst hΩ; exact of_decide_eq_false hc3
     have hb : Byt (codB (spP K T')) := by
      intro a ha
      unfold codB at ha
      rcases List.mem_append.1 ha with h | h
      ·rw [qg8] at h; exact qde _ _ a h
      ·rw [List.mem_singleton] at h; rw [h]; split <;> decide
     obtain ⟨cg, cp⟩ := qsS (qfr K T')
     conv => cbv
     constructor; (first | exact fun (_ : Unit) => trivial | exact fun (_ : Unit) (_ : Unit) => (by decide)); intro _ _; conv => cbv
     constructor
     ·intro _ _; subst hΩ; exact ⟨qd0, by omega, hK⟩
     intro _ _
     conv => cbv
     repeat (constructor; (first | exact fun (_ : Unit) => trivial | exact fun (_ : Unit) (_ : Unit) => (by decide)); intro _ _; conv => cbv)
     rename_i x hx
     have hx : x.1 = codB (spP K T') /\ x.1.length <= x.2 := by subst hΩ; exact hx
     have hsx : (x.1.drop 0).take x.1.length = x.1 := by rw [List.drop_zero, List.take_length]
     conv => cbv
     constructor
     ·exact fun _ => ⟨by subst hΩ; show 0 + x.1.length <= x.1.length; omega, trivial⟩
     constructor
     ·intro _ _
      subst hΩ
      show Byt ((x.1.drop 0).take x.1.length) /\ ((x.1.drop 0).take x.1.length).length < _
      rw [hsx, hx.1]
      exact ⟨hb, by rw [qhh]; decide⟩
     intro z hz
     have hz : z = true := by
      have h : z = qaE (Ω.sub x.1 0 (Ω.len x.1)) := hz
      rw [h]
      subst hΩ
      show qaE ((x.1.drop 0).take x.1.length) = true
      rw [hsx, hx.1]; exact cg
     subst hz
     conv => cbv
     refine hQ true _ _ _ (decide_eq_true ⟨h1, by omega, by omega⟩).symm ?_
     subst hΩ
     refine ⟨⟨?_, rfl, rfl, trivial⟩, rfl, rfl⟩
     show Pay.pt (qaP ((x.1.drop 0).take x.1.length)) = Pay.pt (spP K T')
     rw [hsx, hx.1, cp]
def qhw (Ω : Om) : qd := fun args => match args with
 | [.agg [.roi .u8 K, .int .i64 T]] => ⟨∀ _ : Unit, Byt K /\ K.length < 9223372036854775808, Bool, fun z => z = decide (K.length <= 57 /\ 0 <= T /\ T <= 3), fun z => match z with | true => .tup [.ab (.pt (Ω.hide _ fun _ => padd (spP K T) (spP K T))), .ab (.rp (Ω.hide _ fun _ => padd (spP K T) (spP K T))), .bl true] | false => .tup [.ab (.pt (Ω.hide _ fun _ => pid)), .ab (.rp (Ω.hide _ fun _ => pid)), .bl false]⟩
 | _ => PR.none
theorem qs0 : Ctr Tryz.prog T glob 10 (qhw Om.real) := by
 refine qo T_ok qi qj (fun Ω => [(27, qhv Ω), (30, qdP Ω), (41, qd1 Ω), (39, qe2 Ω), (22, qdf Ω)]) [] (fun Ω => []) [] (qb qsZ (qb qjv (qb qjX (qb qni (qb qhl qg))))) qh qe qf Tryz.func10 (by rfl) (by kernel_rfl) Tryz.call10 ?_ ?_
 ·intro args; unfold qhw; split
  ·exact qa5 ⟨fun x => by cases x <;> repeat' (first | exact trivial | constructor), fun E x b => by cases x <;> rfl⟩ (by repeat' (first | exact trivial | constructor)) (fun _ => ⟨_, rfl⟩)
  ·exact PR.good_none
 ·intro P Ω hΩ hE hI hm args pr hs hp Q hQ
  unfold qhw at hs
  split at hs <;> subst hs <;> try (exact hp.elim)
  rename_i K T'
  obtain ⟨hK, hl⟩ := hp ()
  refine ⟨1000, ?_⟩
  conv => cbv
  constructor
  ·exact fun _ _ => ⟨hK, hl⟩
  intro z hz
  have hz : z = decide (K.length <= 57 /\ 0 <= T' /\ T' <= 3) := hz
  cases z with
  | false =>
    conv => cbv
    repeat (constructor; (first | exact fun (_ : Unit) => trivial | exact fun (_ : Unit) (_ : Unit) => (by decide)); intro _ _; conv => cbv)
    refine hQ false _ _ _ hz ?_
    subst hΩ
    exact ⟨⟨rfl, rfl, rfl, trivial⟩, rfl, rfl⟩
  | true =>
    conv => cbv
    repeat (constructor; (first | exact fun (_ : Unit) => trivial | exact fun (_ : Unit) (_ : Unit) => (by decide)); intro _ _; conv => cbv)
    refine hQ true _ _ _ hz ?_
    subst hΩ
    exact ⟨⟨rfl, rfl, rfl, trivial⟩, rfl, rfl⟩
def qhx (Ω : Om) : qd := fun args => match args with
 | [.ab (.pt P), .ab (.rp Q)] => ⟨True, Unit, fun _ => True, fun _ => .bs (Ω.hide _ fun _ => qA (encF P) == qA (encF Q))⟩
 | _ => PR.none
theorem qs1 : Ctr Tryz.prog T glob 14 (qhx Om.real) := by
 refine qo T_ok qi qj (fun Ω => [(16, qe3 Ω), (11, qhq Ω), (15, qfs Ω)]) [] (fun Ω => []) [] (qb qnj (qb qsK (qb qn9 qg))) qh qe qf Tryz.func14 (by rfl) (by kernel_rfl) Tryz.call14 ?_ ?_
 ·intro args; unfold qhx; split
  ·exact qr (by repeat' constructor) (fun _ _ => rfl) (by repeat' constructor)
  ·exact PR.good_none
 ·intro P Ω hΩ hE hI hm args pr hs hp Q hQ
  unfold qhx at hs
  split at hs <;> subst hs <;> try (exact hp.elim)
  rename_i P R
  refine ⟨1000, ?_⟩
  conv => cbv
  constructor; (first | exact fun (_ : Unit) => trivial | exact fun (_ : Unit) (_ : Unit) => (by decide)); intro _ _; conv => cbv
  rename_i x hx
  have hx : x.1 = qA (encF P) /\ x.1.length <= x.2 := by subst hΩ; exact hx
  constructor
  ·exact fun (_ : Unit) => trivial
  intro y hy
  have hy : y.1 = qA (encF R) /\ y.1.length <= y.2 := by subst hΩ; exact hy
  have hsx : (x.1.drop 0).take x.1.length = x.1 := by rw [List.drop_zero, List.take_length]
  have hsy : (y.1.drop 0).take y.1.length = y.1 := by rw [List.drop_zero, List.take_length]
  conv => cbv
  constructor
  ·exact fun _ => ⟨by subst hΩ; show 0 + x.1.length <= x.1.length; omega, by subst hΩ; show 0 + y.1.length <= y.1.length; omega, trivial⟩
  constructor
  ·intro _ _
   subst hΩ
   show ((x.1.drop 0).take x.1.length).length < _ /\ ((y.1.drop 0).take y.1.length).length < _
   rw [hsx, hsy, hx.1, hy.1, qaV, qaV]
   decide
  intro _ _
  conv => cbv
  refine hQ () _ _ _ trivial ?_
  subst hΩ
  refine ?_
  show ((x.1.drop 0).take x.1.length == (y.1.drop 0).take y.1.length) = (qA (encF P) == qA (encF R))
  rw [hsx, hsy, hx.1, hy.1]
def qhy (Ω : Om) : qd := fun args => match args with
 | [] => ⟨True, Unit, fun _ => True, fun _ => .bs (Ω.hide _ fun _ => true)⟩
 | _ => PR.none
theorem qs2 : Ctr Tryz.prog T glob 9 (qhy Om.real) := by
 refine qo T_ok qi qj (fun Ω => [(30, qdP Ω), (16, qe3 Ω), (12, qgX Ω), (40, qhs Ω), (39, qe2 Ω), (15, qfs Ω), (19, qgW Ω), (21, qgV Ω)]) [] (fun Ω => []) [] (qb qjv (qb qnj (qb qrB (qb qsM (qb qni (qb qn9 (qb qrA (qb qrz qg)))))))) qh qe qf Tryz.func9 (by rfl) (by kernel_rfl) Tryz.call9 ?_ ?_
 ·intro args; unfold qhy; split
  ·exact qr (by repeat' constructor) (fun _ _ => rfl) (by repeat' constructor)
  ·exact PR.good_none
 ·intro P Ω hΩ hE hI hm args pr hs hp Q hQ
  unfold qhy at hs
  split at hs <;> subst hs <;> try (exact hp.elim)
  have hb0 : Byt (qA (encF pid)) := by rw [qg8]; exact qde _ _
  obtain ⟨d1, d2, d3⟩ := qn8 qdM qn7
  obtain ⟨d4, d5⟩ := qsW
  refine ⟨1000, ?_⟩
  conv => cbv
  constructor; (first | exact fun (_ : Unit) => trivial | exact fun (_ : Unit) (_ : Unit) => (by decide)); intro _ _; conv => cbv
  constructor; (first | exact fun (_ : Unit) => trivial | exact fun (_ : Unit) (_ : Unit) => (by decide)); intro _ _; conv => cbv
  rename_i x hx
  have hx : x.1 = qA (encF pid) /\ x.1.length <= x.2 := by subst hΩ; exact hx
  have hxl : x.1.length = 56 := by rw [hx.1, qaV]
  have hsx : (x.1.drop 0).take x.1.length = x.1 := by rw [List.drop_zero, List.take_length]
  constructor
  ·exact fun _ => ⟨by subst hΩ; show 0 + x.1.length <= x.1.length; omega, trivial⟩
  constructor
  ·intro _ _
   subst hΩ
   show Byt ((x.1.drop 0).take x.1.length) /\ ((x.1.drop 0).take x.1.length).length < _
   rw [hsx, hx.1, qaV]
   exact ⟨hb0, by decide⟩
  intro z hz
  have hz : z = true := by
   have h : z = qaW (Ω.sub x.1 0 (Ω.len x.1)) := hz
   rw [h]
   subst hΩ
   show qaW ((x.1.drop 0).take x.1.length) = true
   rw [hsx, hx.1]; exact d1
  subst hz
  conv => cbv
  constructor; (first | exact fun (_ : Unit) => trivial | exact fun (_ : Unit) (_ : Unit) => (by decide)); intro _ _; conv => cbv
  constructor; (first | exact fun (_ : Unit) => trivial | exact fun (_ : Unit) (_ : Unit) => (by decide)); intro _ _; conv => cbv
  constructor
  ·exact fun _ => ⟨by subst hΩ; show 0 + x.1.length <= x.1.length; omega, (show 0 + 56 <= 56 by decide), trivial⟩
  constructor
  ·intro _ _
   subst hΩ
   show ((x.1.drop 0).take x.1.length).length < _ /\ _
   rw [hsx, hxl]
   exact ⟨by decide, by decide⟩
  intro _ _
  conv => cbv
  have hE : qaq ((x.1.drop 0).take x.1.length) = qaq (qA (encF pid)) := by rw [hsx, hx.1]
  constructor
  rotate_left
  ·intro h
   have h' : False := by
    subst hΩ
    have h2 : ((x.1.drop 0).take x.1.length == List.replicate 56 0) = false := h
    rw [hsx, hx.1, qsT, qsU] at h2
    simp at h2
   clear d1 d2 d3 d4 d5 hb0 hx hxl hsx hE
   contradiction
  intro _
  conv => cbv
  constructor; (first | exact fun (_ : Unit) => trivial | exact fun (_ : Unit) (_ : Unit) => (by decide)); intro _ _; conv => cbv
  constructor; (first | exact fun (_ : Unit) => trivial | exact fun (_ : Unit) (_ : Unit) => (by decide)); intro _ _; conv => cbv
  constructor
  rotate_left
  ·intro h
   have h' : False := by
    subst hΩ
    have h2 : (decide ((qaq ((x.1.drop 0).take x.1.length)).x * pid.y = (qaq ((x.1.drop 0).take x.1.length)).y * pid.x)) = false := h
    rw [hE] at h2
    exact of_decide_eq_false h2 d3
   clear d1 d2 d3 d4 d5 hb0 hx hxl hsx hE
   contradiction
  intro _
  conv => cbv
  constructor; (first | exact fun (_ : Unit) => trivial | exact fun (_ : Unit) (_ : Unit) => (by decide)); intro _ _; conv => cbv
  constructor
  rotate_left
  ·intro h
   have h' : False := by
    subst hΩ
    have h2 : (!decide ((padd baseP baseP).x * (qaq ((x.1.drop 0).take x.1.length)).y = (padd baseP baseP).y * (qaq ((x.1.drop 0).take x.1.length)).x)) = false := h
    rw [hE, Bool.not_eq_false'] at h2
    have h3 := of_decide_eq_true h2
    rw [d4] at h3
    have h4 : (padd baseP baseP).x * (qaq (qA (encF pid))).y = 0 := by rw [h3]; exact Fin.mul_zero _
    rcases qaM h4 with h5 | h5
    ·exact qsX h5
    ·rw [h5] at d5
     exact qbM (d5.symm.trans (Fin.mul_zero _))
   clear d1 d2 d3 d4 d5 hb0 hx hxl hsx hE
   contradiction
  intro _
  conv => cbv
  constructor; (first | exact fun (_ : Unit) => trivial | exact fun (_ : Unit) (_ : Unit) => (by decide)); intro _ _; conv => cbv
  constructor; (first | exact fun (_ : Unit) => trivial | exact fun (_ : Unit) (_ : Unit) => (by decide)); intro _ _; conv => cbv
  refine hQ () _ _ _ trivial ?_
  subst hΩ
  show (decide ((padd (padd baseP baseP) (qaq ((x.1.drop 0).take x.1.length))).x * (padd baseP baseP).y = (padd (padd baseP baseP) (qaq ((x.1.drop 0).take x.1.length))).y * (padd baseP baseP).x)) = true
  rw [hE]
  exact decide_eq_true (qsY d4)
end Go.Sx.Tryz
end
section
set_option maxHeartbeats 4000000
namespace Go.Sx.Tryz
open Go.Proofs
set_option maxRecDepth 40000
def qhz (Ω : Om) : qd := fun args => match args with
 | [.agg [.agg [.roi .u8 K0, .int .i64 T0], .agg [.roi .u8 K1, .int .i64 T1]]] => ⟨∀ _ : Unit, (Byt K0 /\ K0.length < 9223372036854775808) /\ Byt K1 /\ K1.length < 9223372036854775808, Bool × Bool, fun z => z.1 = decide (K0.length <= 57 /\ 0 <= T0 /\ T0 <= 3) /\ z.2 = decide (K1.length <= 57 /\ 0 <= T1 /\ T1 <= 3), fun z => match z with | (true, true) => .tup [.ab (.pt (Ω.hide _ fun _ => padd (spP K0 T0) (spP K0 T0))), .ab (.pt (Ω.hide _ fun _ => padd (spP K1 T1) (spP K1 T1))), .ab (.rp (Ω.hide _ fun _ => padd (spP K0 T0) (spP K0 T0))), .ab (.rp (Ω.hide _ fun _ => padd (spP K1 T1) (spP K1 T1))), .bl true] | (true, false) => .tup [.ab (.pt (Ω.hide _ fun _ => padd (spP K0 T0) (spP K0 T0))), .ab (.pt (Ω.hide _ fun _ => pid)), .ab (.rp (Ω.hide _ fun _ => padd (spP K0 T0) (spP K0 T0))), .ab (.rp (Ω.hide _ fun _ => pid)), .bl false] | (false, true) => .tup [.ab (.pt (Ω.hide _ fun _ => pid)), .ab (.pt (Ω.hide _ fun _ => padd (spP K1 T1) (spP K1 T1))), .ab (.rp (Ω.hide _ fun _ => pid)), .ab (.rp (Ω.hide _ fun _ => padd (spP K1 T1) (spP K1 T1))), .bl false] | (false, false) => .tup [.ab (.pt (Ω.hide _ fun _ => pid)), .ab (.pt (Ω.hide _ fun _ => pid)), .ab (.rp (Ω.hide _ fun _ => pid)), .ab (.rp (Ω.hide _ fun _ => pid)), .bl false]⟩
 | _ => PR.none
theorem qs3 : Ctr Tryz.prog T glob 17 (qhz Om.real) := by
 refine qo T_ok qi qj (fun Ω => [(10, qhw Ω)]) [] (fun Ω => []) [] (qb qs0 qg) qh qe qf Tryz.func17 (by rfl) (by kernel_rfl) Tryz.call17 ?_ ?_
 ·intro args; unfold qhz; split
  ·exact qa5 ⟨fun x => by obtain ⟨a, b⟩ := x; cases a <;> cases b <;> repeat' (first | exact trivial | constructor), fun E x b => by obtain ⟨a, c⟩ := x; cases a <;> cases c <;> rfl⟩ (by repeat' (first | exact trivial | constructor)) (fun _ => ⟨(_, _), rfl, rfl⟩)
  ·exact PR.good_none
 ·intro P Ω hΩ hE hI hm args pr hs hp Q hQ
  unfold qhz at hs
  split at hs <;> subst hs <;> try (exact hp.elim)
  rename_i K0 T0 K1 T1
  obtain ⟨⟨hK0, hl0⟩, hK1, hl1⟩ := hp ()
  refine ⟨1000, ?_⟩
  conv => cbv
  constructor
  ·exact fun _ _ => ⟨hK0, hl0⟩
  intro (z : Bool) hz
  have hz : z = decide (K0.length <= 57 /\ 0 <= T0 /\ T0 <= 3) := hz
  cases z with
  | true =>
    conv => cbv
    constructor
    · exact fun _ _ => ⟨hK1, hl1⟩
    intro (y : Bool) hy
    have hy : y = decide (K1.length <= 57 /\ 0 <= T1 /\ T1 <= 3) := hy
    cases y with
    | true =>
      conv => cbv
      refine hQ (true, true) _ _ _ ⟨hz, hy⟩ ?_
      subst hΩ
      exact ⟨⟨rfl, rfl, rfl, rfl, rfl, trivial⟩, rfl, rfl⟩
    | false =>
      conv => cbv
      refine hQ (true, false) _ _ _ ⟨hz, hy⟩ ?_
      subst hΩ
      exact ⟨⟨rfl, rfl, rfl, rfl, rfl, trivial⟩, rfl, rfl⟩
  | false =>
    conv => cbv
    constructor
    · exact fun _ _ => ⟨hK1, hl1⟩
    intro (y : Bool) hy
    have hy : y = decide (K1.length <= 57 /\ 0 <= T1 /\ T1 <= 3) := hy
    cases y with
    | true =>
      conv => cbv
      refine hQ (false, true) _ _ _ ⟨hz, hy⟩ ?_
      subst hΩ
      exact ⟨⟨rfl, rfl, rfl, rfl, rfl, trivial⟩, rfl, rfl⟩
    | false =>
      conv => cbv
      refine hQ (false, false) _ _ _ ⟨hz, hy⟩ ?_
      subst hΩ
      exact ⟨⟨rfl, rfl, rfl, rfl, rfl, trivial⟩, rfl, rfl⟩
end Go.Sx.Tryz
end
