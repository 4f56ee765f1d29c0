/-
  Part of the proof of a statement: the means.
-/
import Derived.Test.YtfgejoocodofoaaGreatX9
import Derived.Test.YtfgejoocodofoaaGreatX6
set_option linter.unusedSectionVars false
set_option linter.unusedVariables false
set_option linter.unusedSimpArgs false
set_option linter.deprecated false
section
set_option maxHeartbeats 4000000
namespace Go.Sx.Tryz
open Go.Proofs
set_option maxRecDepth 40000
def qg9 (Ω : Om) : qd := fun args => match args with
 | [.ab (.re a), .roi .u8 bs] => ⟨∀ _ : Unit, bs.length < 1152921504606846976 /\ Byt bs, Unit, fun _ => True, fun _ => .ab (.re (Ω.hide _ fun _ => pw a (nV bs)))⟩
 | _ => PR.none
theorem qsn : Ctr Tryz.prog T glob 158 (qg9 Om.real) := by
 refine qo T_ok qj qk (fun Ω => [(46, qcu Ω), (43, qdP Ω), (98, qdc Ω)]) [] (fun Ω => []) [] (qb qe9 (qb qjE (qb qg8 qh))) qi qf qg Tryz.func158 (by rfl) (by kernel_rfl) Tryz.call158 ?_ ?_
 ·intro args; unfold qg9; split
  ·exact qq (by repeat' constructor) (fun _ _ => rfl) (by repeat' constructor)
  ·exact PR.good_none
 ·intro P Ω hΩ hE hI hm args pr hs hp Q hQ
  unfold qg9 at hs
  split at hs <;> subst hs <;> try (exact hp.elim)
  rename_i a bs
  obtain ⟨hl, hb⟩ := hp ()
  refine ⟨1000, ?_⟩
  conv => cbv
  repeat (constructor; (first | exact fun _ => trivial | exact fun _ _ => (by decide)); intro _ _; conv => cbv)
  obtain ⟨L8, hL8⟩ : ∃ L8 : Nat, L8 = 8 * bs.length := ⟨_, rfl⟩
  obtain ⟨i0, hi0⟩ : ∃ i0 : Int, i0 = (L8 : Int) - 1 := ⟨_, rfl⟩
  have e0 : Ω.bin .sub .i64 (Ω.bin .mul .i64 8 (Ω.ofN (Ω.len bs))) 1 = i0 := by
   subst hΩ
   show binL .sub .i64 (binL .mul .i64 8 (bs.length : Int)) 1 = i0
   rw [qal (by omega) (by omega), qx (by omega) (by omega)]; omega
  have h8 := qdR hb
  obtain ⟨one, hone⟩ : ∃ one, one = fI 1 := ⟨_, rfl⟩
  refine qv hE hI hm (fun z : Nat × Int × Fp => (mkT 27 [(1, .roi .u8 bs), (2, .ptr 0 (.l 0)), (4, .ptr 8 (.l 0)), (5, .ptr 24 (.l 0)), (6, .int .i64 z.2.1)], [(24, .ab (.re z.2.2)), (8, .row .i64 16 [0, 0, 0, 0, 0, 0, 0, 0, 0, 0, 0, 0, 0, 0, 0, 0]), (0, .ab (.re a))])) (fun z => z.1 <= L8 /\ z.2.1 = z.1 - 1 /\ z.2.2 = pw a (nV bs / 2 ^ z.1)) (fun z => z.1) 0 ⟨(L8, i0, one), [], ⟨Nat.le_refl _, hi0, by rw [hone, qay, Nat.div_eq_of_lt (by show nV bs < 2 ^ L8; rw [hL8]; exact h8)]; rfl⟩, Nat.zero_le _, ?_⟩ fun z hz => ⟨1000, ?_⟩
  ·conv => cbv
   subst hΩ
   exact ⟨e0, congrArg Pay.re hone.symm, trivial⟩
  obtain ⟨n, i, x⟩ := z
  obtain ⟨hn, hi, hx⟩ : n <= L8 /\ i = (n : Int) - 1 /\ x = pw a (nV bs / 2 ^ n) := hz
  conv => cbv
  constructor
  ·intro hc
   have hc' : i >= 0 := by rw [hΩ] at hc; exact of_decide_eq_true hc
   obtain ⟨m, rfl⟩ : ∃ m : Nat, i = m := ⟨i.toNat, by omega⟩
   have hm1 : n = m + 1 := by omega
   have hb2 := qcv (nV bs) m
   have hst : pw a (nV bs / 2 ^ m) = if bitN (nV bs) m = 1 then x * x * a else x * x := by
    rw [half_bit, hx, hm1, Nat.mul_comm 2, qcT, qcf]
    have e2 : pw (pw a (nV bs / 2 ^ (m + 1))) 2 = pw a (nV bs / 2 ^ (m + 1)) * pw a (nV bs / 2 ^ (m + 1)) := by
     generalize pw a (nV bs / 2 ^ (m + 1)) = w
     simp only [pw]; grind -lia -linarith -order -ac (splits := 0)
    rw [e2]
    by_cases e : bitN (nV bs) m = 1
    ·rw [if_pos e, e, qcU]
    ·rw [if_neg e, show bitN (nV bs) m = 0 by omega]
     generalize pw a (nV bs / 2 ^ (m + 1)) = w
     simp only [pw]; grind -lia -linarith -order -ac (splits := 0)
   have ht : (if (m : Int) < 0 then (0 : Int) else ((bitN (nV bs) (m : Int).toNat : Nat) : Int)) = ((bitN (nV bs) m : Nat) : Int) := by
    rw [if_neg (by omega), Int.toNat_natCast]
   obtain ⟨x2, hx2⟩ : ∃ x2, x2 = pw a (nV bs / 2 ^ m) := ⟨_, rfl⟩
   obtain ⟨i2, hi2⟩ : ∃ i2 : Int, i2 = (m : Int) - 1 := ⟨_, rfl⟩
   have ei : binL .sub .i64 (m : Int) 1 = i2 := by rw [qx (by omega) (by omega), hi2]
   conv => cbv
   repeat (constructor; (first | exact fun _ => trivial | exact fun _ _ => (by decide)); intro _ _; conv => cbv)
   have hmi : -9223372036854775808 <= (m : Int) /\ (m : Int) < 9223372036854775808 := by omega
   constructor
   ·exact fun _ _ => ⟨by omega, hmi, hb⟩
   intro _ _
   conv => cbv
   constructor
   ·intro hc2
    have hbt : bitN (nV bs) m = 1 := by
     subst hΩ
     have h : (if (m : Int) < 0 then (0 : Int) else ((bitN (nV bs) (m : Int).toNat : Nat) : Int)) = 1 := eq_of_beq hc2
     rw [ht] at h; omega
    rw [if_pos hbt] at hst
    conv => cbv
    repeat (constructor; (first | exact fun _ => trivial | exact fun _ _ => (by decide)); intro _ _; conv => cbv)
    refine ⟨(m, i2, x2), [], ⟨by omega, hi2, hx2⟩, by simp only; omega, Nat.zero_le _, ?_⟩
    conv => cbv
    subst hΩ
    exact ⟨ei, by rw [hx2, hst]; rfl, trivial⟩
   ·intro hc2
    have hbt : ¬ bitN (nV bs) m = 1 := by
     subst hΩ
     have h : ¬ (if (m : Int) < 0 then (0 : Int) else ((bitN (nV bs) (m : Int).toNat : Nat) : Int)) = 1 := ne_of_beq_false hc2
     rw [ht] at h; omega
    rw [if_neg hbt] at hst
    conv => cbv
    refine ⟨(m, i2, x2), [], ⟨by omega, hi2, hx2⟩, by simp only; omega, Nat.zero_le _, ?_⟩
    conv => cbv
    subst hΩ
    exact ⟨ei, by rw [hx2, hst]; rfl, trivial⟩
  ·intro hc
   have hc' : ¬ i >= 0 := by rw [hΩ] at hc; exact of_decide_eq_false hc
   have h0 : n = 0 := by omega
   conv => cbv
   refine hQ () _ _ _ trivial ?_
   subst hΩ
   show Pay.re x = Pay.re (pw a (nV bs))
   rw [hx, h0, Nat.pow_zero, Nat.div_one]
def qha (Ω : Om) : qd := fun args => match args with
 | [.ab (.re x)] => ⟨True, Unit, fun _ => True, fun _ => .bs (Ω.hide _ fun _ => decide (x.val % 2 = 1))⟩
 | _ => PR.none
theorem qso : Ctr Tryz.prog T glob 67 (qha Om.real) := by
 refine qao T_ok qj qk (fun Ω => []) [] (fun Ω => []) [] qh qi qf qg Tryz.func67 (by rfl) (by kernel_rfl) Tryz.call67 ?_ ?_
 ·intro args; unfold qha; split
  ·exact qq (by repeat' constructor) (fun _ _ => rfl) (by repeat' constructor)
  ·exact PR.good_none
 ·intro P Ω hΩ hE hI hm args pr hs hp cs hcs Q hQ
  unfold qha at hs
  split at hs <;> subst hs <;> try (exact hp.elim)
  rename_i x
  obtain ⟨_, _, rfl, ⟨xs, rfl, hx⟩, rfl⟩ := hcs
  have hx : okRe x xs := hx
  refine ⟨1000, ?_⟩
  conv => cbv
  refine hQ () _ _ _ trivial ?_
  subst hΩ
  show (binL .rem .i64 (xs.getD 0 0) 2 == 1) = decide (x.val % 2 = 1)
  have h0 := hx.2.1 _ (qV (l := xs) (i := 0) (by rw [hx.1]; decide))
  have e : binL .rem .i64 (xs.getD 0 0) 2 = xs.getD 0 0 % 2 := Int.tmod_eq_emod_of_nonneg h0.1
  rw [e, qsm hx, Bool.beq_eq_decide_eq]
  apply decide_eq_decide.2
  omega
def qhb (Ω : Om) : qd := fun args => match args with
 | [.ab (.re x)] => ⟨True, Unit, fun _ => True, fun _ => .ab (.re (Ω.hide _ fun _ => finv x))⟩
 | _ => PR.none
theorem qsp : Ctr Tryz.prog T glob 105 (qhb Om.real) := by
 refine qo T_ok qj qk (fun Ω => [(65, qg1 Ω), (140, qdU Ω), (158, qg9 Ω)]) [] (fun Ω => []) [] (qb qsd (qb qjJ (qb qsn qh))) qi qf qg Tryz.func105 (by rfl) (by kernel_rfl) Tryz.call105 ?_ ?_
 ·intro args; unfold qhb; split
  ·exact qq (by repeat' constructor) (fun _ _ => rfl) (by repeat' constructor)
  ·exact PR.good_none
 ·intro P Ω hΩ hE hI hm args pr hs hp Q hQ
  unfold qhb at hs
  split at hs <;> subst hs <;> try (exact hp.elim)
  rename_i x
  refine ⟨1000, ?_⟩
  conv => cbv
  constructor
  ·exact fun _ => trivial
  intro z hz
  have hz : z.1 = qct /\ z.1.length <= z.2 := by subst hΩ; exact hz
  have hzb : Byt z.1 := by rw [hz.1]; decide
  have hzl : z.1.length = 56 := by rw [hz.1]; rfl
  conv => cbv
  have hsub : (z.1.drop 0).take z.1.length = z.1 := by rw [List.drop_zero, List.take_length]
  constructor
  ·exact fun _ => ⟨by subst hΩ; show 0 + z.1.length <= z.1.length; omega, by show 0 + 1 <= 1; decide, trivial⟩
  constructor
  ·intro _ _
   subst hΩ
   show nV [2] <= nV ((z.1.drop 0).take z.1.length) /\ (((z.1.drop 0).take z.1.length).length < _ /\ _) /\ Byt ((z.1.drop 0).take z.1.length) /\ _
   rw [hsub, hz.1]
   exact ⟨by decide +kernel, ⟨by decide, by decide⟩, by decide, by decide⟩
  intro y hy
  have hy : nV y.1 = nV qct - nV [2] /\ Byt y.1 /\ y.1.length <= 56 /\ y.1.length <= y.2 := by
   subst hΩ
   have h : nV y.1 = nV ((z.1.drop 0).take z.1.length) - nV [2] /\ Byt y.1 /\ y.1.length <= ((z.1.drop 0).take z.1.length).length /\ y.1.length <= y.2 := hy
   rw [hsub, hz.1] at h
   exact h
  obtain ⟨ys, yc⟩ := y
  obtain ⟨hy1, hy2, hy3, hy4⟩ : nV ys = nV qct - nV [2] /\ Byt ys /\ ys.length <= 56 /\ ys.length <= yc := hy
  have hsub2 : (ys.drop 0).take ys.length = ys := by rw [List.drop_zero, List.take_length]
  conv => cbv
  constructor
  ·exact fun _ => ⟨trivial, by subst hΩ; show 0 + ys.length <= ys.length; omega, trivial⟩
  constructor
  ·intro _ _
   subst hΩ
   show ((ys.drop 0).take ys.length).length < _ /\ Byt ((ys.drop 0).take ys.length)
   rw [hsub2]
   exact ⟨by omega, hy2⟩
  intro _ _
  conv => cbv
  refine hQ () _ _ _ trivial ?_
  subst hΩ
  show Pay.re (pw x (nV ((ys.drop 0).take ys.length))) = Pay.re (finv x)
  rw [hsub2, hy1, qsl]
end Go.Sx.Tryz
end
section
set_option maxHeartbeats 4000000
namespace Go.Sx.Tryz
open Go.Proofs
set_option maxRecDepth 40000
def qhe (Ω : Om) : qd := fun args => match args with
 | [.int .u8 b] => ⟨∀ _ : Unit, qbA b, Unit, fun _ => True, fun _ => .int .i64 (Ω.hide _ fun _ => hd b)⟩
 | _ => PR.none
theorem qss : Ctr Tryz.prog T glob 167 (qhe Om.real) := by
 refine qo T_ok qj qk (fun Ω => []) [] (fun Ω => []) [] qh qi qf qg Tryz.func167 (by rfl) (by kernel_rfl) Tryz.call167 ?_ ?_
 ·intro args; unfold qhe; split
  ·exact qq (by repeat' constructor) (fun _ _ => rfl) (by repeat' constructor)
  ·exact PR.good_none
 ·intro P Ω hΩ hE hI hm args pr hs hp Q hQ
  unfold qhe at hs
  split at hs <;> subst hs <;> try (exact hp.elim)
  rename_i b
  have hb := hp ()
  refine ⟨1000, ?_⟩
  conv => cbv
  constructor
  ·intro hc
   have hc' : b >= 97 := by rw [hΩ] at hc; exact of_decide_eq_true hc
   conv => cbv
   refine hQ () _ _ _ trivial ?_
   subst hΩ
   refine ⟨rfl, ?_⟩
   show binL .add .i64 (IntKind.i64.wrap (binL .sub .u8 b 97)) 10 = hd b
   have e : binL .sub .u8 b 97 = b - 97 := by
    show IntKind.u8.wrap (b - 97) = _
    rw [IntKind.wrap_u8]; omega
   rw [e, qT (by omega) (by omega), qt (by omega) (by omega)]
   unfold hd; rw [if_pos (by omega)]; omega
  ·intro hc
   have hc' : ¬ b >= 97 := by rw [hΩ] at hc; exact of_decide_eq_false hc
   conv => cbv
   refine hQ () _ _ _ trivial ?_
   subst hΩ
   refine ⟨rfl, ?_⟩
   show IntKind.i64.wrap (binL .sub .u8 b 48) = hd b
   have e : binL .sub .u8 b 48 = b - 48 := by
    show IntKind.u8.wrap (b - 48) = _
    rw [IntKind.wrap_u8]; omega
   rw [e, qT (by omega) (by omega)]
   unfold hd; rw [if_neg (by omega)]
def qhf (Ω : Om) : qd := fun args => match args with
 | [.val (.string s)] => ⟨∀ _ : Unit, s.size = 112 /\ (∀ j, j < 112 -> qbA ((strB s).getD j 48)), Unit, fun _ => True, fun _ => .ab (.re (Ω.hide _ fun _ => fI (qu (hexB (strB s)))))⟩
 | _ => PR.none
theorem qst : Ctr Tryz.prog T glob 130 (qhf Om.real) := by
 refine qo T_ok qj qk (fun Ω => [(167, qhe Ω), (66, qg0 Ω)]) [] (fun Ω => []) [] (qb qss (qb qsc qh)) qi qf qg Tryz.func130 (by rfl) (by kernel_rfl) Tryz.call130 ?_ ?_
 ·intro args; unfold qhf; split
  ·exact qq (by repeat' constructor) (fun _ _ => rfl) (by repeat' constructor)
  ·exact PR.good_none
 ·intro P Ω hΩ hE hI hm args pr hs hp Q hQ
  unfold qhf at hs
  split at hs <;> subst hs <;> try (exact hp.elim)
  rename_i s
  obtain ⟨hs, hh⟩ := hp ()
  obtain ⟨xs, hxs⟩ : ∃ xs, xs = strB s := ⟨_, rfl⟩
  have hxl : xs.length = 112 := by rw [hxs]; simpa [strB] using hs
  rw [<- hxs] at hh
  refine ⟨1000, ?_⟩
  have hx' : strB s = xs := hxs.symm
  conv at hx' => lhs; cbv
  have hs' : s.size = 112 := hs
  conv at hs' => lhs; cbv
  obtain ⟨i0, hi0⟩ : ∃ i0 : Int, i0 = 110 := ⟨_, rfl⟩
  have hsl : (strB s).length = 112 := by rw [<- hxs]; exact hxl
  have e0 : Ω.bin .sub .i64 (Ω.ofN (Ω.len xs)) 2 = i0 := by
   subst hΩ
   show binL .sub .i64 ((xs.length : Nat) : Int) 2 = i0
   rw [hxl, hi0]; rfl
  conv => cbv
  refine qv hE hI hm (fun z : Nat × Int × List Int × Nat × Nat => (mkT 29 [(0, .val (.string s)), (2, .ptr 0 (.l 0)), (3, .sl 48 1 (.l 0) (.s z.2.2.2.1) (.s z.2.2.2.2)), (4, .int .i64 z.2.1)], [(48, .seq .u8 z.2.2.1), (0, .row .i64 16 [0, 0, 0, 0, 0, 0, 0, 0, 0, 0, 0, 0, 0, 0, 0, 0])])) (fun z => z.1 <= 56 /\ z.2.1 = 110 - 2 * z.1 /\ z.2.2.1 = hexT xs z.1 /\ z.2.2.2.1 = z.1 /\ z.2.2.2.1 <= z.2.2.2.2) (fun z => 56 - z.1) 1 ⟨(0, i0, [], 0, 0), [none], ⟨Nat.zero_le _, hi0, rfl, rfl, Nat.le_refl _⟩, by decide, ?_⟩ fun z hz => ⟨1000, ?_⟩
  ·conv => cbv
   rw [hx']
   exact ⟨e0, trivial⟩
  obtain ⟨j, i, u, n, c⟩ := z
  obtain ⟨hj, hi, hu, hn, hc⟩ : j <= 56 /\ i = 110 - 2 * (j : Int) /\ u = hexT xs j /\ n = j /\ n <= c := hz
  have hul : u.length = n := by rw [hu, hexT_len, hn]
  conv => cbv
  constructor
  ·intro hc2
   have hc' : i >= 0 := by rw [hΩ] at hc2; exact of_decide_eq_true hc2
   have g1 := hh (111 - 2 * j) (by omega)
   have g2 := hh (110 - 2 * j) (by omega)
   have hit : i.toNat = 110 - 2 * j := by omega
   have hii : i < 112 := by omega
   have ei1 : binL .add .i64 i 1 = i + 1 := qt (by omega) (by omega)
   have hd1 : xs.getD i.toNat 0 = xs.getD (110 - 2 * j) 48 := by
    rw [hit]; simp [List.getD, show 110 - 2 * j < xs.length by omega]
   have hd2 : xs.getD (i + 1).toNat 0 = xs.getD (111 - 2 * j) 48 := by
    rw [show (i + 1).toNat = 111 - 2 * j by omega]; simp [List.getD, show 111 - 2 * j < xs.length by omega]
   obtain ⟨u2, hu2⟩ : ∃ u2, u2 = hexT xs (j + 1) := ⟨_, rfl⟩
   obtain ⟨i2, hi2⟩ : ∃ i2 : Int, i2 = 110 - 2 * ((j + 1 : Nat) : Int) := ⟨_, rfl⟩
   conv => cbv
   rw [hx', hs']
   constructor
   ·exact fun _ => ⟨hc', hii⟩
   constructor
   ·intro _ _
    subst hΩ
    show qbA (xs.getD i.toNat 0)
    rw [hd1]; exact g2
   intro _ _
   conv => cbv
   rw [hx', hs']
   constructor
   ·intro _; subst hΩ; show 0 <= binL .add .i64 i 1 /\ binL .add .i64 i 1 < 112; rw [ei1]; omega
   constructor
   ·intro _ _
    subst hΩ
    show qbA (xs.getD (binL .add .i64 i 1).toNat 0)
    rw [ei1, hd2]; exact g1
   intro _ _
   conv => cbv
   constructor
   ·exact fun _ => (show (n + 1) * 1 <= 140737488355328 by omega)
   constructor
   ·exact fun _ => ⟨(show 0 + n * 1 <= u.length by omega), (show 0 + 1 * 1 <= 1 by omega)⟩
   intro cap hcap
   have hcap : n + 1 <= cap := hcap
   conv => cbv
   obtain ⟨n2, hn2⟩ : ∃ n2, n2 = n + 1 := ⟨_, rfl⟩
   refine ⟨(j + 1, i2, u2, n2, cap), [some 184], ⟨by omega, hi2, hu2, (by show n2 = j + 1; omega), (by show n2 <= cap; omega)⟩, by simp only; omega, by decide, ?_⟩
   conv => cbv
   subst hΩ
   have r1 := hd_rng g1
   have r2 := hd_rng g2
   refine ⟨hn2.symm, ?_, ?_, trivial⟩
   ·show binL .sub .i64 i 2 = i2
    rw [qx (by omega) (by omega), hi2, hi]; omega
   ·show (u.drop 0).take n ++ [IntKind.u8.wrap (binL .add .i64 (binL .mul .i64 16 (hd (xs.getD i.toNat 0))) (hd (xs.getD (binL .add .i64 i 1).toNat 0)))] = u2
    rw [ei1, hd1, hd2, qal (by omega) (by omega), qt (by omega) (by omega), List.drop_zero, List.take_of_length_le (by omega), hu2, hexT_succ, hu, IntKind.wrap_u8]
    congr 2
    omega
  ·intro hc2
   have hc' : ¬ i >= 0 := by rw [hΩ] at hc2; exact of_decide_eq_false hc2
   have h56 : j = 56 := by omega
   have hub : u.length = 56 /\ Byt u := by
    refine ⟨by omega, ?_⟩
    rw [hu]
    intro a ha
    obtain ⟨t, ht, rfl⟩ := List.mem_map.1 ha
    rw [List.mem_range] at ht
    have := hd_rng (hh (111 - 2 * t) (by omega))
    have := hd_rng (hh (110 - 2 * t) (by omega))
    omega
   conv => cbv
   constructor
   ·intro _ ; subst hΩ; exact ⟨by show 0 + n <= u.length; omega, trivial⟩
   constructor
   ·intro _ _
    subst hΩ
    show ((u.drop 0).take n).length = 56 /\ Byt ((u.drop 0).take n)
    rw [List.drop_zero, List.take_of_length_le (by omega)]
    exact hub
   intro _ _
   conv => cbv
   refine hQ () _ _ _ trivial ?_
   subst hΩ
   show Pay.re (fI (qu ((u.drop 0).take n))) = Pay.re (fI (qu (hexB (strB s))))
   rw [List.drop_zero, List.take_of_length_le (by omega), hu, hxs, h56]
   rfl
def qdV (Ω : Om) : qd := fun args => match args with
 | [] => ⟨True, Unit, fun _ => True, fun _ => .ab (.rp (Ω.hide _ fun _ => pid))⟩
 | _ => PR.none
theorem qjK : Ctr Tryz.prog T glob 41 (qdV Om.real) := by
 refine qo T_ok qj qk (fun Ω => [(46, qcu Ω)]) [] (fun Ω => []) [] (qb qe9 qh) qi qf qg Tryz.func41 (by rfl) (by kernel_rfl) Tryz.call41 ?_ ?_
 ·intro args; unfold qdV; split
  ·exact qq (by repeat' constructor) (fun _ _ => rfl) (by repeat' constructor)
  ·exact PR.good_none
 ·intro P Ω hΩ hE hI hm args pr hs hp Q hQ
  unfold qdV at hs
  split at hs <;> subst hs <;> try (exact hp.elim)
  refine ⟨1000, ?_⟩
  conv => cbv
  repeat (constructor; (first | exact fun _ => trivial | exact fun _ _ => (by decide)); intro _ _; conv => cbv)
  refine hQ () _ _ _ trivial ?_
  subst hΩ
  exact qsr qsk qc4 qcp (by decide +kernel) (by decide +kernel)
def qhg (Ω : Om) : qd := fun args => match args with
 | [] => ⟨True, Unit, fun _ => True, fun _ => .ab (.re (Ω.hide _ fun _ => fI (-39081)))⟩
 | _ => PR.none
theorem qsu : Ctr Tryz.prog T glob 77 (qhg Om.real) := by
 refine qo T_ok qj qk (fun Ω => [(46, qcu Ω)]) [] (fun Ω => []) [] (qb qe9 qh) qi qf qg Tryz.func77 (by rfl) (by kernel_rfl) Tryz.call77 ?_ ?_
 ·intro args; unfold qhg; split
  ·exact qq (by repeat' constructor) (fun _ _ => rfl) (by repeat' constructor)
  ·exact PR.good_none
 ·intro P Ω hΩ hE hI hm args pr hs hp Q hQ
  unfold qhg at hs
  split at hs <;> subst hs <;> try (exact hp.elim)
  refine ⟨1000, ?_⟩
  conv => cbv
  repeat (constructor; (first | exact fun _ => trivial | exact fun _ _ => (by decide)); intro _ _; conv => cbv)
  refine hQ () _ _ _ trivial ?_
  subst hΩ
  rfl
def qdW (Ω : Om) : qd := fun args => match args with
 | [.ab (.rp P), .ab (.rp Q)] => ⟨True, Unit, fun _ => True, fun _ => .ab (.rp (Ω.hide _ fun _ => padd P Q))⟩
 | _ => PR.none
theorem qjL : Ctr Tryz.prog T glob 22 (qdW Om.real) := by
 refine qao T_ok qj qk (fun Ω => [(43, qdP Ω), (44, qe7 Ω), (45, qgW Ω), (77, qhg Ω)]) [] (fun Ω => []) [] (qb qjE (qb qnH (qb qr8 (qb qsu qh)))) qi qf qg Tryz.func22 (by rfl) (by kernel_rfl) Tryz.call22 ?_ ?_
 ·intro args; unfold qdW; split
  ·exact qq (by repeat' constructor) (fun _ _ => rfl) (by repeat' constructor)
  ·exact PR.good_none
 ·intro P Ω hΩ hE hI hm args pr hs hp cs hcs Q hQ
  unfold qdW at hs
  split at hs <;> subst hs <;> try (exact hp.elim)
  rename_i P R
  obtain ⟨_, _, rfl, ⟨X1, Y1, Z1, rfl, hP, z1, x1, y1⟩, _, _, rfl, ⟨X2, Y2, Z2, rfl, hR, z2, x2, y2⟩, rfl⟩ := hcs
  refine ⟨1000, ?_⟩
  conv => cbv
  repeat (constructor; (first | exact fun _ => trivial | exact fun _ _ => (by decide)); intro _ _; conv => cbv)
  refine hQ () _ _ _ trivial ?_
  subst hΩ
  have h := qnX hP hR z1 x1 y1 z2 x2 y2
  rw [<- fI_d] at h
  exact qdz (qaj hP hR) h.1 h.2.1 h.2.2
def quH (Ω : Om) : qd := fun args => match args with
 | [.ab (.rp P)] => ⟨True, Unit, fun _ => True, fun _ => .ab (.rp (Ω.hide _ fun _ => pneg P))⟩
 | _ => PR.none
def qhh (Ω : Om) : qd := fun args => match args with
 | [.ab (.rp P)] => ⟨True, Unit, fun _ => True, fun _ => .tup [.ab (.re (Ω.hide _ fun _ => P.x)), .ab (.re (Ω.hide _ fun _ => P.y))]⟩
 | _ => PR.none
theorem qsv : Ctr Tryz.prog T glob 42 (qhh Om.real) := by
 refine qao T_ok qj qk (fun Ω => [(105, qhb Ω), (43, qdP Ω)]) [] (fun Ω => []) [] (qb qsp (qb qjE qh)) qi qf qg Tryz.func42 (by rfl) (by kernel_rfl) Tryz.call42 ?_ ?_
 ·intro args; unfold qhh; split
  ·exact qq (by repeat' constructor) (fun _ _ => rfl) (by repeat' constructor)
  ·exact PR.good_none
 ·intro P Ω hΩ hE hI hm args pr hs hp cs hcs Q hQ
  unfold qhh at hs
  split at hs <;> subst hs <;> try (exact hp.elim)
  rename_i P
  obtain ⟨_, _, rfl, ⟨X, Y, Z, rfl, hP, hz, hx, hy⟩, rfl⟩ := hcs
  refine ⟨1000, ?_⟩
  conv => cbv
  repeat (constructor; (first | exact fun _ => trivial | exact fun _ _ => (by decide)); intro _ _; conv => cbv)
  refine hQ () _ _ _ trivial ?_
  subst hΩ
  exact ⟨⟨congrArg Pay.re (qgC hz hx), congrArg Pay.re (qgC hz hy), trivial⟩, rfl, rfl⟩
def qhi (Ω : Om) : qd := fun args => match args with
 | [.roi .u8 bs, .ab (.rp P)] => ⟨∀ _ : Unit, P.on /\ bs.length < 1152921504606846976 /\ Byt bs, Unit, fun _ => True, fun _ => .ab (.rp (Ω.hide _ fun _ => nsm (nV bs) P))⟩
 | _ => PR.none
theorem qsw : Ctr Tryz.prog T glob 35 (qhi Om.real) := by
 refine qo T_ok qj qk (fun Ω => [(41, qdV Ω), (97, qfc Ω), (98, qdc Ω), (22, qdW Ω)]) [] (fun Ω => []) [] (qb qjK (qb qnW (qb qg8 (qb qjL qh)))) qi qf qg Tryz.func35 (by rfl) (by kernel_rfl) Tryz.call35 ?_ ?_
 ·intro args; unfold qhi; split
  ·exact qq (by repeat' constructor) (fun _ _ => rfl) (by repeat' constructor)
  ·exact PR.good_none
 ·intro P Ω hΩ hE hI hm args pr hs hp Q hQ
  unfold qhi at hs
  split at hs <;> subst hs <;> try (exact hp.elim)
  rename_i bs P
  obtain ⟨hP, hl, hb⟩ := hp ()
  refine ⟨1000, ?_⟩
  conv => cbv
  constructor; (first | exact fun _ => trivial | exact fun _ _ => (by decide)); intro _ _; conv => cbv
  constructor
  ·exact fun _ _ => ⟨by omega, hb⟩
  intro (z : Nat) hz
  obtain ⟨⟨hz1, _⟩, hz2⟩ : IsLen (nV bs) z /\ z <= 8 * bs.length := hz
  obtain ⟨i0, hi0⟩ : ∃ i0 : Int, i0 = (z : Int) - 1 := ⟨_, rfl⟩
  have e0 : Ω.bin .sub .i64 (z : Int) 1 = i0 := by
   subst hΩ
   show binL .sub .i64 (z : Int) 1 = i0
   rw [qx (by omega) (by omega), hi0]
  obtain ⟨O, hO⟩ : ∃ O, O = pid := ⟨_, rfl⟩
  conv => cbv
  refine qv hE hI hm (fun y : Nat × Int × AP => (mkT 26 [(0, .roi .u8 bs), (3, .ptr 0 (.l 0)), (4, .ptr 8 (.l 0)), (5, .ptr 24 (.l 0)), (6, .int .i64 y.2.1)], [(24, .ab (.rp y.2.2)), (8, .agg [.row .i64 16 [0, 0, 0, 0, 0, 0, 0, 0, 0, 0, 0, 0, 0, 0, 0, 0], .row .i64 16 [0, 0, 0, 0, 0, 0, 0, 0, 0, 0, 0, 0, 0, 0, 0, 0], .row .i64 16 [0, 0, 0, 0, 0, 0, 0, 0, 0, 0, 0, 0, 0, 0, 0, 0]]), (0, .ab (.rp P))])) (fun y => y.1 <= z /\ y.2.1 = y.1 - 1 /\ y.2.2 = nsm (nV bs / 2 ^ y.1) P) (fun y => y.1) 0 ⟨(z, i0, O), [], ⟨Nat.le_refl _, hi0, by rw [hO, Nat.div_eq_of_lt (by show nV bs < 2 ^ z; exact hz1)]; rfl⟩, Nat.zero_le _, ?_⟩ fun y hy => ⟨1000, ?_⟩
  ·conv => cbv
   subst hΩ
   exact ⟨e0, congrArg Pay.rp hO.symm, trivial⟩
  obtain ⟨n, i, X⟩ := y
  obtain ⟨hn, hi, hX⟩ : n <= z /\ i = (n : Int) - 1 /\ X = nsm (nV bs / 2 ^ n) P := hy
  conv => cbv
  constructor
  ·intro hc
   have hc' : i >= 0 := by rw [hΩ] at hc; exact of_decide_eq_true hc
   obtain ⟨m, rfl⟩ : ∃ m : Nat, i = m := ⟨i.toNat, by omega⟩
   have hm1 : n = m + 1 := by omega
   have hb2 := qcv (nV bs) m
   have hst : nsm (nV bs / 2 ^ m) P = if bitN (nV bs) m = 1 then padd (padd X X) P else padd X X := by
    rw [half_bit, hX, hm1]
    exact qsq hP _ _ hb2
   have ht : (if (m : Int) < 0 then (0 : Int) else ((bitN (nV bs) (m : Int).toNat : Nat) : Int)) = ((bitN (nV bs) m : Nat) : Int) := by
    rw [if_neg (by omega), Int.toNat_natCast]
   obtain ⟨x2, hx2⟩ : ∃ x2, x2 = nsm (nV bs / 2 ^ m) P := ⟨_, rfl⟩
   obtain ⟨i2, hi2⟩ : ∃ i2 : Int, i2 = (m : Int) - 1 := ⟨_, rfl⟩
   have ei : binL .sub .i64 (m : Int) 1 = i2 := by rw [qx (by omega) (by omega), hi2]
   have hmi : -9223372036854775808 <= (m : Int) /\ (m : Int) < 9223372036854775808 := by omega
   conv => cbv
   constructor; (first | exact fun _ => trivial | exact fun _ _ => (by decide)); intro _ _; conv => cbv
   constructor
   ·exact fun _ _ => ⟨by omega, hmi, hb⟩
   intro _ _
   conv => cbv
   constructor
   ·intro hc2
    have hbt : bitN (nV bs) m = 1 := by
     subst hΩ
     have h : (if (m : Int) < 0 then (0 : Int) else ((bitN (nV bs) (m : Int).toNat : Nat) : Int)) = 1 := eq_of_beq hc2
     rw [ht] at h; omega
    rw [if_pos hbt] at hst
    conv => cbv
    constructor; (first | exact fun _ => trivial | exact fun _ _ => (by decide)); intro _ _; conv => cbv
    refine ⟨(m, i2, x2), [], ⟨by omega, hi2, hx2⟩, by simp only; omega, Nat.zero_le _, ?_⟩
    conv => cbv
    subst hΩ
    exact ⟨ei, by rw [hx2, hst]; rfl, trivial⟩
   ·intro hc2
    have hbt : ¬ bitN (nV bs) m = 1 := by
     subst hΩ
     have h : ¬ (if (m : Int) < 0 then (0 : Int) else ((bitN (nV bs) (m : Int).toNat : Nat) : Int)) = 1 := ne_of_beq_false hc2
     rw [ht] at h; omega
    rw [if_neg hbt] at hst
    conv => cbv
    refine ⟨(m, i2, x2), [], ⟨by omega, hi2, hx2⟩, by simp only; omega, Nat.zero_le _, ?_⟩
    conv => cbv
    subst hΩ
    exact ⟨ei, by rw [hx2, hst]; rfl, trivial⟩
  ·intro hc
   have hc' : ¬ i >= 0 := by rw [hΩ] at hc; exact of_decide_eq_false hc
   have h0 : n = 0 := by omega
   conv => cbv
   refine hQ () _ _ _ trivial ?_
   subst hΩ
   show Pay.rp X = Pay.rp (nsm (nV bs) P)
   rw [hX, h0, Nat.pow_zero, Nat.div_one]
def qhj (Ω : Om) : qd := fun args => match args with
 | [.int .i64 n] => ⟨True, Unit, fun _ => True, fun _ => .ab (.rp (Ω.hide _ fun _ => torP n))⟩
 | _ => PR.none
theorem qsx : Ctr Tryz.prog T glob 84 (qhj Om.real) := by
 refine qo T_ok qj qk (fun Ω => [(46, qcu Ω), (78, qdO Ω)]) [] (fun Ω => []) [] (qb qe9 (qb qjD qh)) qi qf qg Tryz.func84 (by rfl) (by kernel_rfl) Tryz.call84 ?_ ?_
 ·intro args; unfold qhj; split
  ·exact qq (by repeat' constructor) (fun _ _ => rfl) (by repeat' constructor)
  ·exact PR.good_none
 ·intro P Ω hΩ hE hI hm args pr hs hp Q hQ
  unfold qhj at hs
  split at hs <;> subst hs <;> try (exact hp.elim)
  rename_i n
  refine ⟨1000, ?_⟩
  conv => cbv
  constructor; (first | exact fun _ => trivial | exact fun _ _ => (by decide)); intro _ _; conv => cbv
  constructor; (first | exact fun _ => trivial | exact fun _ _ => (by decide)); intro _ _; conv => cbv
  constructor
  ·intro hc
   have hn : n = 1 := by subst hΩ; exact eq_of_beq hc
   conv => cbv
   refine hQ () _ _ _ trivial ?_
   subst hΩ
   subst hn
   exact qdz (qfd 1) qcp (by decide +kernel) (by decide +kernel)
  ·intro hc
   have hn : n ≠ 1 := by subst hΩ; exact ne_of_beq_false hc
   constructor
   ·intro hc2
    have hn : n = 2 := by subst hΩ; exact eq_of_beq hc2
    conv => cbv
    constructor; (first | exact fun _ => trivial | exact fun _ _ => (by decide)); intro _ _; conv => cbv
    refine hQ () _ _ _ trivial ?_
    subst hΩ
    subst hn
    exact qdz (qfd 2) qcp (by decide +kernel) (by decide +kernel)
   ·intro hc2
    have hn2 : n ≠ 2 := by subst hΩ; exact ne_of_beq_false hc2
    constructor
    ·intro hc3
     have hn3 : n = 3 := by subst hΩ; exact eq_of_beq hc3
     conv => cbv
     constructor; (first | exact fun _ => trivial | exact fun _ _ => (by decide)); intro _ _; conv => cbv
     refine hQ () _ _ _ trivial ?_
     subst hΩ
     subst hn3
     exact qdz (qfd 3) qcp (by decide +kernel) (by decide +kernel)
    ·intro hc3
     have hn3 : n ≠ 3 := by subst hΩ; exact ne_of_beq_false hc3
     conv => cbv
     refine hQ () _ _ _ trivial ?_
     subst hΩ
     have e : torP n = ⟨fI 0, fI 1⟩ := by unfold torP; rw [if_neg hn, if_neg hn2, if_neg hn3]
     show qdu _ (.rp (torP n))
     rw [e]
     exact qdz (by unfold AP.on; decide +kernel) qcp (by decide +kernel) (by decide +kernel)
def qhk (Ω : Om) : qd := fun args => match args with
 | [.ab (.rp P)] => ⟨True, List Int × Nat, fun z => z.1 = codB P /\ z.1.length <= z.2, fun z => .fr .u8 z.1 z.2⟩
 | _ => PR.none
theorem qsy : Ctr Tryz.prog T glob 86 (qhk Om.real) := by
 refine qo T_ok qj qk (fun Ω => [(42, qhh Ω), (67, qha Ω), (51, qe8 Ω)]) [] (fun Ω => []) [] (qb qsv (qb qso (qb qnN qh))) qi qf qg Tryz.func86 (by rfl) (by kernel_rfl) Tryz.call86 ?_ ?_
 ·intro args; unfold qhk; split
  ·exact qaq ⟨trivial, trivial⟩ fun _ => qaz _
  ·exact PR.good_none
 ·intro P Ω hΩ hE hI hm args pr hs hp Q hQ
  unfold qhk at hs
  split at hs <;> subst hs <;> try (exact hp.elim)
  rename_i P
  refine ⟨1000, ?_⟩
  conv => cbv
  constructor; (first | exact fun _ => trivial | exact fun _ _ => (by decide)); intro _ _; conv => cbv
  constructor; (first | exact fun _ => trivial | exact fun _ _ => (by decide)); intro _ _; conv => cbv
  constructor
  ·intro hc
   have hx : P.x.val % 2 = 1 := by subst hΩ; exact of_decide_eq_true hc
   conv => cbv
   constructor
   ·exact fun _ => trivial
   intro z hz
   have hz : z.1 = qI P.y /\ z.1.length <= z.2 := by subst hΩ; exact hz
   have hzl : z.1.length = 56 := by rw [hz.1, qbc]
   conv => cbv
   constructor
   ·intro _; subst hΩ; show (z.1.length + 1) * 1 <= _; omega
   constructor
   ·exact fun _ => ⟨by subst hΩ; show 0 + z.1.length * 1 <= z.1.length; omega, (show 0 + 1 * 1 <= 1 by omega)⟩
   intro cap hcap
   have hcap : z.1.length + 1 <= cap := by subst hΩ; exact hcap
   obtain ⟨y, hy⟩ : ∃ y, y = codB P := ⟨_, rfl⟩
   have hyl : y.length = 57 := by rw [hy, qhd]
   conv => cbv
   refine hQ (y, cap) _ _ _ ⟨hy, by show y.length <= cap; omega⟩ ?_
   subst hΩ
   refine ⟨rfl, rfl, ?_, ?_⟩
   ·show 0 + (z.1.length + 1) <= ((z.1.drop 0).take z.1.length ++ [128]).length
    rw [List.drop_zero, List.take_length, List.length_append]; simp
   ·show y = (((z.1.drop 0).take z.1.length ++ [128]).drop 0).take (z.1.length + 1)
    rw [List.drop_zero, List.drop_zero, List.take_length, List.take_of_length_le (by rw [List.length_append]; simp), hy, hz.1]
    unfold codB
    rw [if_pos hx]
  ·intro hc
   have hx : ¬ P.x.val % 2 = 1 := by subst hΩ; exact of_decide_eq_false hc
   conv => cbv
   constructor
   ·exact fun _ => trivial
   intro z hz
   have hz : z.1 = qI P.y /\ z.1.length <= z.2 := by subst hΩ; exact hz
   have hzl : z.1.length = 56 := by rw [hz.1, qbc]
   conv => cbv
   constructor
   ·intro _; subst hΩ; show (z.1.length + 1) * 1 <= _; omega
   constructor
   ·exact fun _ => ⟨by subst hΩ; show 0 + z.1.length * 1 <= z.1.length; omega, (show 0 + 1 * 1 <= 1 by omega)⟩
   intro cap hcap
   have hcap : z.1.length + 1 <= cap := by subst hΩ; exact hcap
   obtain ⟨y, hy⟩ : ∃ y, y = codB P := ⟨_, rfl⟩
   have hyl : y.length = 57 := by rw [hy, qhd]
   conv => cbv
   refine hQ (y, cap) _ _ _ ⟨hy, by show y.length <= cap; omega⟩ ?_
   subst hΩ
   refine ⟨rfl, rfl, ?_, ?_⟩
   ·show 0 + (z.1.length + 1) <= ((z.1.drop 0).take z.1.length ++ [0]).length
    rw [List.drop_zero, List.take_length, List.length_append]; simp
   ·show y = (((z.1.drop 0).take z.1.length ++ [0]).drop 0).take (z.1.length + 1)
    rw [List.drop_zero, List.drop_zero, List.take_length, List.take_of_length_le (by rw [List.length_append]; simp), hy, hz.1]
    unfold codB
    rw [if_neg hx]
end Go.Sx.Tryz
end
section

end
section

end
section
set_option maxHeartbeats 4000000
namespace Go.Sx.Tryz
open Go.Proofs
set_option maxRecDepth 40000
def qhl (Ω : Om) : qd := fun args => match args with
 | [.val (.string s)] => ⟨∀ _ : Unit, s.size = 112 /\ (∀ j, j < 112 -> qbA ((strB s).getD j 48)), Unit, fun _ => True, fun _ => .ab (.fe (Ω.hide _ fun _ => fI (qu (hexB (strB s)))))⟩
 | _ => PR.none
theorem qsz : Ctr Tryz.prog T glob 104 (qhl Om.real) := by
 refine qo T_ok qj qk (fun Ω => [(108, qeG Ω)]) [] (fun Ω => []) [] (qb qmH qh) qi qf qg Tryz.func104 (by rfl) (by kernel_rfl) Tryz.call104 ?_ ?_
 ·intro args; unfold qhl; split
  ·exact qq (by repeat' constructor) (fun _ _ => rfl) (by repeat' constructor)
  ·exact PR.good_none
 ·intro P Ω hΩ hE hI hm args pr hs hp Q hQ
  unfold qhl at hs
  split at hs <;> subst hs <;> try (exact hp.elim)
  rename_i s
  obtain ⟨hs, hh⟩ := hp ()
  obtain ⟨xs, hxs⟩ : ∃ xs, xs = strB s := ⟨_, rfl⟩
  have hxl : xs.length = 112 := by rw [hxs]; simpa [strB] using hs
  rw [<- hxs] at hh
  have hx' : strB s = xs := hxs.symm
  conv at hx' => lhs; cbv
  have hs' : s.size = 112 := hs
  conv at hs' => lhs; cbv
  refine ⟨1000, ?_⟩
  conv => cbv
  rw [hx']
  obtain ⟨v0, hv0⟩ : ∃ v0, v0 = hexE xs 0 := ⟨_, rfl⟩
  have ev0 : [0, 0, 0, 0, 0, 0, 0, 0, 0, 0, 0, 0, 0, 0, 0, 0, 0, 0, 0, 0, 0, 0, 0, 0, 0, 0, 0, 0, 0, 0, 0, 0, 0, 0, 0, 0, 0, 0, 0, 0, 0, 0, 0, 0, 0, 0, 0, 0, 0, 0, 0, 0, 0, 0, 0, 0] = v0 := by rw [hv0, hexE_zero]; rfl
  refine qv hE hI hm (fun z : Nat × List Int => (mkT 50 [(0, .val (.string s)), (2, .ptr 0 (.l 0)), (3, .ptr 8 (.l 0)), (10, .int .i64 (Ω.ofN (Ω.len xs))), (11, .int .i64 z.1)], [(8, .row .u8 56 z.2), (0, .agg [.row .u64 8 [0, 0, 0, 0, 0, 0, 0, 0]])])) (fun z => z.1 <= 112 /\ z.2 = hexE xs z.1) (fun z => 112 - z.1) 0 ⟨(0, v0), [], ⟨Nat.zero_le _, hv0⟩, by decide, ?_⟩ fun z hz => ⟨1000, ?_⟩
  ·conv => cbv
   exact ⟨rfl, ev0, trivial⟩
  obtain ⟨i, v⟩ := z
  obtain ⟨hi, hv⟩ : i <= 112 /\ v = hexE xs i := hz
  have hvl : v.length = 56 := by rw [hv, hexE_len]
  conv => cbv
  constructor
  ·intro hc
   have hc' : i < 112 := by
    rw [hΩ] at hc
    have h : (i : Int) < ((xs.length : Nat) : Int) := of_decide_eq_true hc
    omega
   have gi := hh (111 - i) (by omega)
   have ei : binL .sub .i64 (binL .sub .i64 (xs.length : Int) 1) (i : Int) = 111 - i := by
    rw [hxl, qx (a := ((112 : Nat) : Int)) (b := 1) (by omega) (by omega), qx (by omega) (by omega)]; omega
   have gd : xs.getD (111 - (i : Int)).toNat 0 = xs.getD (111 - i) 48 := by
    rw [show (111 - (i : Int)).toNat = 111 - i by omega]; simp [List.getD, show 111 - i < xs.length by omega]
   conv => cbv
   rw [hx', hs']
   have eq : binL .quo .i64 (i : Int) 2 = ((i / 2 : Nat) : Int) := by
    rw [qbQ (by rw [Int.tdiv_eq_ediv_of_nonneg (by omega)]; omega) (by rw [Int.tdiv_eq_ediv_of_nonneg (by omega)]; omega), Int.tdiv_eq_ediv_of_nonneg (by omega)]; omega
   have er : binL .rem .i64 (i : Int) 2 = ((i % 2 : Nat) : Int) := by
    have : binL .rem .i64 (i : Int) 2 = (i : Int) % 2 := Int.tmod_eq_emod_of_nonneg (a := (i : Int)) (b := 2) (Int.natCast_nonneg i)
    rw [this]; omega
   constructor
   ·intro _
    subst hΩ
    show 0 <= binL .sub .i64 (binL .sub .i64 (xs.length : Int) 1) (i : Int) /\ binL .sub .i64 (binL .sub .i64 (xs.length : Int) 1) (i : Int) < 112
    rw [ei]; omega
   constructor
   ·intro hc2
    have hx : 97 <= xs.getD (111 - i) 48 := by
     subst hΩ
     have h : xs.getD (binL .sub .i64 (binL .sub .i64 (xs.length : Int) 1) (i : Int)).toNat 0 >= 97 := of_decide_eq_true hc2
     rw [ei, gd] at h; exact h
    have en : binL .add .u8 (binL .sub .u8 (xs.getD (binL .sub .i64 (binL .sub .i64 (xs.length : Int) 1) (i : Int)).toNat 0) 97) 10 = hd (xs.getD (111 - i) 48) := by
      rw [ei, gd]
      show IntKind.u8.wrap (IntKind.u8.wrap (xs.getD (111 - i) 48 - 97) + 10) = _
      rw [IntKind.wrap_u8, IntKind.wrap_u8]; unfold hd; rw [if_pos hx]; omega
    conv => cbv
    constructor
    ·intro hc3
     have hev : i % 2 = 0 := by
      subst hΩ
      have h : binL .rem .i64 (i : Int) 2 = 0 := eq_of_beq hc3
      rw [er] at h; omega
     obtain ⟨k, hk⟩ : ∃ k, i = 2 * k := ⟨i / 2, by omega⟩
     have hst := hexE_even xs (k := k) (by omega)
     obtain ⟨v2, hv2⟩ : ∃ v2, v2 = hexE xs (i + 1) := ⟨_, rfl⟩
     have ev2 : v.set (binL .quo .i64 (i : Int) 2).toNat (binL .add .u8 (binL .sub .u8 (xs.getD (binL .sub .i64 (binL .sub .i64 (xs.length : Int) 1) (i : Int)).toNat 0) 97) 10) = v2 := by
      rw [eq, en, hv2, hv, Int.toNat_natCast, hk, show 2 * k / 2 = k by omega, hst]
     have hq : 0 <= binL .quo .i64 (i : Int) 2 /\ binL .quo .i64 (i : Int) 2 < 56 := by rw [eq]; omega
     have hq2 : (binL .quo .i64 (i : Int) 2).toNat < 56 := by rw [eq]; omega
     conv => cbv
     constructor
     ·intro _; subst hΩ; exact hq
     constructor
     ·intro _; subst hΩ; exact hq2
     refine ⟨(i + 1, v2), [], ⟨by omega, hv2⟩, by simp only; omega, Nat.zero_le _, ?_⟩
     conv => cbv
     subst hΩ
     refine ⟨?_, ev2, trivial⟩
     show binL .add .i64 (i : Int) 1 = ((i + 1 : Nat) : Int)
     rw [qt (by omega) (by omega)]; omega
    ·intro hc3
     have hev : ¬ i % 2 = 0 := by
      subst hΩ
      have h : ¬ binL .rem .i64 (i : Int) 2 = 0 := ne_of_beq_false hc3
      rw [er] at h; omega
     obtain ⟨k, hk⟩ : ∃ k, i = 2 * k + 1 := ⟨i / 2, by omega⟩
     have hst := hexE_odd xs (k := k) (by omega)
     have hg0 := hexE_get xs (2 * k + 1) k (by omega)
     rw [if_neg (by omega), if_pos (by omega)] at hg0
     have hr1 := hd_rng (hh (111 - 2 * k) (by omega))
     have hr2 := hd_rng gi
     obtain ⟨v2, hv2⟩ : ∃ v2, v2 = hexE xs (i + 1) := ⟨_, rfl⟩
     have ev2 : v.set (binL .quo .i64 (i : Int) 2).toNat (binL .or .u8 (v.getD (binL .quo .i64 (i : Int) 2).toNat 0) (binL .mul .u8 (binL .add .u8 (binL .sub .u8 (xs.getD (binL .sub .i64 (binL .sub .i64 (xs.length : Int) 1) (i : Int)).toNat 0) 97) 10) 16)) = v2 := by
      rw [eq, en, hv2, hv, Int.toNat_natCast, hk, show (2 * k + 1) / 2 = k by omega, show 2 * k + 1 + 1 = 2 * k + 2 by omega, hst, hg0, show 111 - (2 * k + 1) = 110 - 2 * k by omega, qnY hr1 (by rw [show 110 - 2 * k = 111 - i by omega]; exact hr2)]
     have hq : 0 <= binL .quo .i64 (i : Int) 2 /\ binL .quo .i64 (i : Int) 2 < 56 := by rw [eq]; omega
     have hq2 : (binL .quo .i64 (i : Int) 2).toNat < 56 := by rw [eq]; omega
     conv => cbv
     constructor
     ·intro _; subst hΩ; exact hq
     constructor
     ·intro _; subst hΩ; exact hq2
     constructor
     ·intro _; subst hΩ; exact hq
     constructor
     ·intro _; subst hΩ; exact hq2
     refine ⟨(i + 1, v2), [], ⟨by omega, hv2⟩, by simp only; omega, Nat.zero_le _, ?_⟩
     conv => cbv
     subst hΩ
     refine ⟨?_, ev2, trivial⟩
     show binL .add .i64 (i : Int) 1 = ((i + 1 : Nat) : Int)
     rw [qt (by omega) (by omega)]; omega
   ·intro hc2
    have hx : ¬ 97 <= xs.getD (111 - i) 48 := by
     subst hΩ
     have h : ¬ xs.getD (binL .sub .i64 (binL .sub .i64 (xs.length : Int) 1) (i : Int)).toNat 0 >= 97 := of_decide_eq_false hc2
     rw [ei, gd] at h; exact h
    have en : binL .sub .u8 (xs.getD (binL .sub .i64 (binL .sub .i64 (xs.length : Int) 1) (i : Int)).toNat 0) 48 = hd (xs.getD (111 - i) 48) := by
      rw [ei, gd]
      show IntKind.u8.wrap (xs.getD (111 - i) 48 - 48) = _
      rw [IntKind.wrap_u8]; unfold hd; rw [if_neg hx]; omega
    conv => cbv
    constructor
    ·intro hc3
     have hev : i % 2 = 0 := by
      subst hΩ
      have h : binL .rem .i64 (i : Int) 2 = 0 := eq_of_beq hc3
      rw [er] at h; omega
     obtain ⟨k, hk⟩ : ∃ k, i = 2 * k := ⟨i / 2, by omega⟩
     have hst := hexE_even xs (k := k) (by omega)
     obtain ⟨v2, hv2⟩ : ∃ v2, v2 = hexE xs (i + 1) := ⟨_, rfl⟩
     have ev2 : v.set (binL .quo .i64 (i : Int) 2).toNat (binL .sub .u8 (xs.getD (binL .sub .i64 (binL .sub .i64 (xs.length : Int) 1) (i : Int)).toNat 0) 48) = v2 := by
      rw [eq, en, hv2, hv, Int.toNat_natCast, hk, show 2 * k / 2 = k by omega, hst]
     have hq : 0 <= binL .quo .i64 (i : Int) 2 /\ binL .quo .i64 (i : Int) 2 < 56 := by rw [eq]; omega
     have hq2 : (binL .quo .i64 (i : Int) 2).toNat < 56 := by rw [eq]; omega
     conv => cbv
     constructor
     ·intro _; subst hΩ; exact hq
     constructor
     ·intro _; subst hΩ; exact hq2
     refine ⟨(i + 1, v2), [], ⟨by omega, hv2⟩, by simp only; omega, Nat.zero_le _, ?_⟩
     conv => cbv
     subst hΩ
     refine ⟨?_, ev2, trivial⟩
     show binL .add .i64 (i : Int) 1 = ((i + 1 : Nat) : Int)
     rw [qt (by omega) (by omega)]; omega
    ·intro hc3
     have hev : ¬ i % 2 = 0 := by
      subst hΩ
      have h : ¬ binL .rem .i64 (i : Int) 2 = 0 := ne_of_beq_false hc3
      rw [er] at h; omega
     obtain ⟨k, hk⟩ : ∃ k, i = 2 * k + 1 := ⟨i / 2, by omega⟩
     have hst := hexE_odd xs (k := k) (by omega)
     have hg0 := hexE_get xs (2 * k + 1) k (by omega)
     rw [if_neg (by omega), if_pos (by omega)] at hg0
     have hr1 := hd_rng (hh (111 - 2 * k) (by omega))
     have hr2 := hd_rng gi
     obtain ⟨v2, hv2⟩ : ∃ v2, v2 = hexE xs (i + 1) := ⟨_, rfl⟩
     have ev2 : v.set (binL .quo .i64 (i : Int) 2).toNat (binL .or .u8 (v.getD (binL .quo .i64 (i : Int) 2).toNat 0) (binL .mul .u8 (binL .sub .u8 (xs.getD (binL .sub .i64 (binL .sub .i64 (xs.length : Int) 1) (i : Int)).toNat 0) 48) 16)) = v2 := by
      rw [eq, en, hv2, hv, Int.toNat_natCast, hk, show (2 * k + 1) / 2 = k by omega, show 2 * k + 1 + 1 = 2 * k + 2 by omega, hst, hg0, show 111 - (2 * k + 1) = 110 - 2 * k by omega, qnY hr1 (by rw [show 110 - 2 * k = 111 - i by omega]; exact hr2)]
     have hq : 0 <= binL .quo .i64 (i : Int) 2 /\ binL .quo .i64 (i : Int) 2 < 56 := by rw [eq]; omega
     have hq2 : (binL .quo .i64 (i : Int) 2).toNat < 56 := by rw [eq]; omega
     conv => cbv
     constructor
     ·intro _; subst hΩ; exact hq
     constructor
     ·intro _; subst hΩ; exact hq2
     constructor
     ·intro _; subst hΩ; exact hq
     constructor
     ·intro _; subst hΩ; exact hq2
     refine ⟨(i + 1, v2), [], ⟨by omega, hv2⟩, by simp only; omega, Nat.zero_le _, ?_⟩
     conv => cbv
     subst hΩ
     refine ⟨?_, ev2, trivial⟩
     show binL .add .i64 (i : Int) 1 = ((i + 1 : Nat) : Int)
     rw [qt (by omega) (by omega)]; omega
  ·intro hc
   have hc' : ¬ i < 112 := by
    rw [hΩ] at hc
    have h : ¬ (i : Int) < ((xs.length : Nat) : Int) := of_decide_eq_false hc
    omega
   have hvb : Byt v := by
    intro a ha
    obtain ⟨t, ht, rfl⟩ := List.getElem_of_mem ha
    have e : v[t] = v.getD t 0 := by simp [List.getD, ht]
    rw [e, hv, hexE_get xs i t (by omega), if_pos (by omega)]
    have := hd_rng (hh (111 - 2 * t) (by omega))
    have := hd_rng (hh (110 - 2 * t) (by omega))
    omega
   conv => cbv
   constructor
   ·exact fun _ => ⟨trivial, trivial, trivial, (show 0 <= 56 by decide), Nat.le_refl _, Nat.le_refl _⟩
   constructor
   ·exact fun _ => ⟨(show 0 + 56 <= 56 by decide), trivial⟩
   constructor
   ·exact fun _ _ => hvb
   intro z hz
   have hz1 : z = true := by
    have h : z = (v.length == 56) := hz
    rw [h, hvl]; rfl
   subst hz1
   conv => cbv
   refine hQ () _ _ _ trivial ?_
   subst hΩ
   show Pay.fe (fI (qu v)) = Pay.fe (fI (qu (hexB (strB s))))
   rw [hv, show i = 112 by omega, hexE_end, hxs]
def qhm (Ω : Om) : qd := fun args => match args with
 | [] => ⟨True, Unit, fun _ => True, fun _ => .ab (.pt (Ω.hide _ fun _ => baseP))⟩
 | _ => PR.none
theorem qsA : Ctr Tryz.prog T glob 40 (qhm Om.real) := by
 refine qo T_ok qj qk (fun Ω => [(104, qhl Ω), (54, qba Ω)]) [] (fun Ω => []) [] (qb qsz (qb qbL qh)) qi qf qg Tryz.func40 (by rfl) (by kernel_rfl) Tryz.call40 ?_ ?_
 ·intro args; unfold qhm; split
  ·exact qq (by repeat' constructor) (fun _ _ => rfl) (by repeat' constructor)
  ·exact PR.good_none
 ·intro P Ω hΩ hE hI hm args pr hs hp Q hQ
  unfold qhm at hs
  split at hs <;> subst hs <;> try (exact hp.elim)
  refine ⟨1000, ?_⟩
  conv => cbv
  constructor
  ·exact fun _ _ => (by decide +kernel)
  intro _ _
  conv => cbv
  constructor
  ·exact fun _ _ => (by decide +kernel)
  intro _ _
  conv => cbv
  constructor
  ·exact fun _ _ => (by decide)
  intro _ _
  conv => cbv
  refine hQ () _ _ _ trivial ?_
  subst hΩ
  exact qcc qbq qcp (by decide +kernel) (by decide +kernel)
def qhn (Ω : Om) : qd := fun args => match args with
 | [] => ⟨True, Unit, fun _ => True, fun _ => .ab (.rp (Ω.hide _ fun _ => baseP))⟩
 | _ => PR.none
theorem qsB : Ctr Tryz.prog T glob 83 (qhn Om.real) := by
 refine qo T_ok qj qk (fun Ω => [(130, qhf Ω), (46, qcu Ω)]) [] (fun Ω => []) [] (qb qst (qb qe9 qh)) qi qf qg Tryz.func83 (by rfl) (by kernel_rfl) Tryz.call83 ?_ ?_
 ·intro args; unfold qhn; split
  ·exact qq (by repeat' constructor) (fun _ _ => rfl) (by repeat' constructor)
  ·exact PR.good_none
 ·intro P Ω hΩ hE hI hm args pr hs hp Q hQ
  unfold qhn at hs
  split at hs <;> subst hs <;> try (exact hp.elim)
  refine ⟨1000, ?_⟩
  conv => cbv
  constructor
  ·exact fun _ _ => (by decide +kernel)
  intro _ _
  conv => cbv
  constructor
  ·exact fun _ _ => (by decide +kernel)
  intro _ _
  conv => cbv
  constructor
  ·exact fun _ _ => (by decide)
  intro _ _
  conv => cbv
  refine hQ () _ _ _ trivial ?_
  subst hΩ
  exact qdz qbq qcp (by decide +kernel) (by decide +kernel)
end Go.Sx.Tryz
end
section
set_option maxHeartbeats 4000000
namespace Go.Sx.Tryz
open Go.Proofs
set_option maxRecDepth 40000
def qho (Ω : Om) : qd := fun args => match args with
 | [.roi .u8 bs] => ⟨∀ _ : Unit, Byt bs /\ bs.length < 9223372036854775808, Bool, fun z => z = qaA bs, fun z => match z with | true => .tup [.ab (.pt (Ω.hide _ fun _ => qaN bs)), .lit .i64 0] | false => .tup [.agg [.agg [.row .u64 8 [0, 0, 0, 0, 0, 0, 0, 0]], .agg [.row .u64 8 [0, 0, 0, 0, 0, 0, 0, 0]], .agg [.row .u64 8 [0, 0, 0, 0, 0, 0, 0, 0]]], .int .i64 (Ω.hide _ fun _ => if bs.length = 57 then 13 else 11)]⟩
 | _ => PR.none
noncomputable def qsC : List (FuncId × Func) := [(131, Tryz.f131)]
theorem qsD : Ctr Tryz.prog T glob 85 (qho Om.real) := by
 refine qo T_ok qj qk (fun Ω => [(52, qeW Ω), (55, qbo Ω), (54, qba Ω), (62, qbK Ω), (57, qbM Ω), (58, qdJ Ω), (89, qeI Ω), (111, qc1 Ω), (118, qc0 Ω), (63, qeT Ω)]) qsC (fun Ω => []) [] (qb qnb (qb qco (qb qbL (qb qdD (qb qdH (qb qjm (qb qmQ (qb qgs (qb qgq (qb qm6 qh)))))))))) (qJ Tryz.call131 Tryz.func131 (by kernel_rfl) qi) qf qg Tryz.func85 (by rfl) (by kernel_rfl) Tryz.call85 ?_ ?_
 ·intro args; unfold qho; split
  ·exact qa9 ⟨fun x => by cases x <;> repeat' (first | exact trivial | constructor), fun E x b => by cases x <;> rfl⟩ (by repeat' (first | exact trivial | constructor)) (fun _ => ⟨_, rfl⟩)
  ·exact PR.good_none
 ·intro P Ω hΩ hE hI hm args pr hs hp Q hQ
  unfold qho at hs
  split at hs <;> subst hs <;> try (exact hp.elim)
  rename_i bs
  obtain ⟨hb, hl⟩ := hp ()
  refine ⟨1000, ?_⟩
  conv => cbv
  constructor
  ·intro hc
   have hl57 : ¬ bs.length = 57 := by rw [hΩ] at hc; simp (disch := omega) only [Om.real, qe, decide_eq_true_eq, decide_eq_false_iff_not] at hc; omega
   conv => cbv
   refine hQ false _ _ _ (by unfold qaA; rw [beq_eq_false_iff_ne.2 hl57]; rfl) ?_
   subst hΩ
   refine ⟨⟨⟨⟨⟨rfl, rfl, rfl⟩, trivial⟩, ⟨⟨rfl, rfl, rfl⟩, trivial⟩, ⟨⟨rfl, rfl, rfl⟩, trivial⟩, trivial⟩, ⟨rfl, ?_⟩, trivial⟩, rfl, rfl⟩
   exact (if_neg hl57).symm
  ·intro hc
   have hl57 : bs.length = 57 := by rw [hΩ] at hc; simp (disch := omega) only [Om.real, qe, decide_eq_true_eq, decide_eq_false_iff_not] at hc; omega
   conv => cbv
   have hbt : Byt (bs.take 56) := qaU hb 56
   have htl : (bs.take 56).length = 56 := by rw [List.length_take]; omega
   have hxr := qbz hb 56
   constructor
   ·intro _; subst hΩ; exact ⟨trivial, trivial, trivial, (show 0 <= 56 by decide), (show 56 <= 56 by decide), (show 56 <= bs.length by omega)⟩
   constructor
   ·intro _ _
    subst hΩ
    show Byt ((bs.drop 0).take 56) /\ ((bs.drop 0).take 56).length < _
    rw [List.drop_zero]
    exact ⟨hbt, by rw [htl]; decide⟩
   intro z hz
   have hz : z = decide (qu (bs.take 56) < 726838724295606890549323807888004534353641360687318060281490199180612328166730772686396383698676545930088884461843637361053498018365439) := by
    subst hΩ
    have h : z = decide (((bs.drop 0).take 56).length = 56 /\ qu ((bs.drop 0).take 56) < 726838724295606890549323807888004534353641360687318060281490199180612328166730772686396383698676545930088884461843637361053498018365439) := hz
    rw [h, List.drop_zero]
    apply decide_eq_decide.2
    exact ⟨fun h => h.2, fun h => ⟨htl, h⟩⟩
   have hlt' := hz
   cases z with
   | false =>
     conv => cbv
     have hce : (Ω.hide Int fun _ => if (Ω.sub bs 0 56).length = 56 then 12 else 11) = 12 := by
       subst hΩ
       show (if ((bs.drop 0).take 56).length = 56 then (12 : Int) else 11) = 12
       rw [List.drop_zero, if_pos htl]
     constructor
     · intro hc2
       cbv
       refine hQ false _ _ _ ?_ ?_
       · unfold qaA; rw [<- hz, Bool.false_and, Bool.and_false]
       subst hΩ
       refine ⟨⟨⟨⟨⟨rfl, rfl, rfl⟩, trivial⟩, ⟨⟨rfl, rfl, rfl⟩, trivial⟩, ⟨⟨rfl, rfl, rfl⟩, trivial⟩, trivial⟩, ⟨rfl, ?_⟩, trivial⟩, rfl, rfl⟩
       exact (if_pos hl57).symm
     · intro hc2
       exfalso
       have hc3 : Ω.cmp .neq (Ω.hide Int fun _ => if (Ω.sub bs 0 56).length = 56 then 12 else 11) 0 = false := hc2
       rw [hce] at hc3
       subst hΩ
       exact absurd hc3 (by decide)
   | true =>
     conv => cbv
     constructor
     · intro _; subst hΩ; exact (show 56 < bs.length by omega)
     constructor
     · intro _; subst hΩ; exact (show 56 + 1 <= bs.length by omega)
     constructor
     · intro hc2
       have h0 : bs.getD 56 0 ≠ 0 := by
         subst hΩ
         exact bne_iff_ne.1 (show (bs.getD 56 0 != 0) = true from hc2)
       conv => cbv
       constructor
       · intro _; subst hΩ; exact (show 56 < bs.length by omega)
       constructor
       · intro _; subst hΩ; exact (show 56 + 1 <= bs.length by omega)
       constructor
       · intro hc3
         have h128 : bs.getD 56 0 ≠ 128 := by
           subst hΩ
           exact bne_iff_ne.1 (show (bs.getD 56 0 != 128) = true from hc3)
         conv => cbv
         refine hQ false _ _ _ ?_ ?_
         · unfold qaA; rw [beq_eq_false_iff_ne.2 h0, beq_eq_false_iff_ne.2 h128, Bool.or_false, Bool.false_and, Bool.and_false, Bool.and_false]
         subst hΩ
         refine ⟨⟨⟨⟨⟨rfl, rfl, rfl⟩, trivial⟩, ⟨⟨rfl, rfl, rfl⟩, trivial⟩, ⟨⟨rfl, rfl, rfl⟩, trivial⟩, trivial⟩, ⟨rfl, ?_⟩, trivial⟩, rfl, rfl⟩
         exact (if_pos hl57).symm
       · intro hc3
         have h56 : bs.getD 56 0 = 128 := by
           subst hΩ
           exact bne_eq_false_iff_eq.1 (show (bs.getD 56 0 != 128) = false from hc3)
         have hq : binL .quo .u8 (bs.getD 56 0) 128 = 1 := by rw [h56]; rfl
         conv => cbv
         repeat (constructor; (first | exact fun (_ : Unit) => trivial | exact fun (_ : Unit) (_ : Unit) => (by decide)); intro _ _; conv => cbv)
         constructor
         · intro _; subst hΩ; exact (show 56 < bs.length by omega)
         constructor
         · intro _; subst hΩ; exact (show 56 + 1 <= bs.length by omega)
         constructor
         · intro hc4
           have hIs : qdX bs = false := by
             subst hΩ
             have h := hc4
             rw [<- Bool.not_eq_true']
             exact h
           conv => cbv
           refine hQ false _ _ _ ?_ ?_
           · unfold qaA; rw [hIs, Bool.false_and, Bool.and_false, Bool.and_false, Bool.and_false]
           subst hΩ
           refine ⟨⟨⟨⟨⟨rfl, rfl, rfl⟩, trivial⟩, ⟨⟨rfl, rfl, rfl⟩, trivial⟩, ⟨⟨rfl, rfl, rfl⟩, trivial⟩, trivial⟩, ⟨rfl, ?_⟩, trivial⟩, rfl, rfl⟩
           exact (if_pos hl57).symm
         · intro hc4
           have hIs : qdX bs = true := by
             subst hΩ
             have h := hc4
             rw [<- Bool.not_eq_false']
             exact h
           conv => cbv
           constructor; (first | exact fun (_ : Unit) => trivial | exact fun (_ : Unit) (_ : Unit) => (by decide)); intro _ _; conv => cbv
           constructor
           · intro hc5
             have h0x : qaa (codU bs) (codV bs) = 0 := by subst hΩ; exact of_decide_eq_true hc5
             conv => cbv
             constructor
             rotate_left
             · intro hb1
               have h' : False := by subst hΩ; have h : binL .quo .u8 (bs.getD 56 0) 128 = 1 := hq; exact absurd (show (IntKind.i64.wrap (binL .quo .u8 (bs.getD 56 0) 128) == 1) = false from hb1) (by rw [h]; decide)
               contradiction
             intro _
             conv => cbv
             refine hQ false _ _ _ ?_ ?_
             · unfold qaA; rw [decide_eq_true h0x, h56]; simp
             subst hΩ
             refine ⟨⟨⟨⟨⟨rfl, rfl, rfl⟩, trivial⟩, ⟨⟨rfl, rfl, rfl⟩, trivial⟩, ⟨⟨rfl, rfl, rfl⟩, trivial⟩, trivial⟩, ⟨rfl, ?_⟩, trivial⟩, rfl, rfl⟩
             exact (if_pos hl57).symm
           · intro hc5
             have h0x : ¬ qaa (codU bs) (codV bs) = 0 := by subst hΩ; exact of_decide_eq_false hc5
             conv => cbv
             constructor; (first | exact fun (_ : Unit) => trivial | exact fun (_ : Unit) (_ : Unit) => (by decide)); intro _ _; conv => cbv
             constructor; (first | exact fun (_ : Unit) => trivial | exact fun (_ : Unit) (_ : Unit) => (by decide)); intro _ _; conv => cbv
             constructor
             · exact fun (_ : Unit) => trivial
             intro z hz
             have ex : codX bs = if IntKind.i64.wrap (binL .quo .u8 (bs.getD 56 0) 128) % 2 = 0 then qaa (codU bs) (codV bs) else -qaa (codU bs) (codV bs) := by
               rw [hq]
               unfold codX
               rw [h56]
               rfl
             have hz : z = decide (AP.on ⟨codX bs, codY bs⟩) := by
               rw [ex]
               subst hΩ
               exact hz
             cases z with
             | false =>
               conv => cbv
               refine hQ false _ _ _ ?_ ?_
               · unfold qaA qaN; rw [<- hz, Bool.and_false, Bool.and_false, Bool.and_false, Bool.and_false, Bool.and_false]
               subst hΩ
               refine ⟨⟨⟨⟨⟨rfl, rfl, rfl⟩, trivial⟩, ⟨⟨rfl, rfl, rfl⟩, trivial⟩, ⟨⟨rfl, rfl, rfl⟩, trivial⟩, trivial⟩, ⟨rfl, ?_⟩, trivial⟩, rfl, rfl⟩
               exact (if_pos hl57).symm
             | true =>
               have hon : (qaN bs).on := of_decide_eq_true hz.symm
               conv => cbv
               refine hQ true _ _ _ ?_ ?_
               · unfold qaA; rw [hl57, <- hlt', h56, hIs, decide_eq_false h0x, decide_eq_true hon]; rfl
               have ep : qaN bs = ⟨codX bs, codY bs⟩ := rfl
               rw [ex] at ep
               subst hΩ
               exact ⟨⟨congrArg Pay.pt ep.symm, ⟨rfl, rfl⟩, trivial⟩, rfl, rfl⟩
     · intro hc2
       have h56 : bs.getD 56 0 = 0 := by
         subst hΩ
         exact bne_eq_false_iff_eq.1 (show (bs.getD 56 0 != 0) = false from hc2)
       have hq : binL .quo .u8 (bs.getD 56 0) 128 = 0 := by rw [h56]; rfl
       conv => cbv
       repeat (constructor; (first | exact fun (_ : Unit) => trivial | exact fun (_ : Unit) (_ : Unit) => (by decide)); intro _ _; conv => cbv)
       constructor
       · intro _; subst hΩ; exact (show 56 < bs.length by omega)
       constructor
       · intro _; subst hΩ; exact (show 56 + 1 <= bs.length by omega)
       constructor
       · intro hc4
         have hIs : qdX bs = false := by
           subst hΩ
           have h := hc4
           rw [<- Bool.not_eq_true']
           exact h
         conv => cbv
         refine hQ false _ _ _ ?_ ?_
         · unfold qaA; rw [hIs, Bool.false_and, Bool.and_false, Bool.and_false, Bool.and_false]
         subst hΩ
         refine ⟨⟨⟨⟨⟨rfl, rfl, rfl⟩, trivial⟩, ⟨⟨rfl, rfl, rfl⟩, trivial⟩, ⟨⟨rfl, rfl, rfl⟩, trivial⟩, trivial⟩, ⟨rfl, ?_⟩, trivial⟩, rfl, rfl⟩
         exact (if_pos hl57).symm
       · intro hc4
         have hIs : qdX bs = true := by
           subst hΩ
           have h := hc4
           rw [<- Bool.not_eq_false']
           exact h
         conv => cbv
         constructor; (first | exact fun (_ : Unit) => trivial | exact fun (_ : Unit) (_ : Unit) => (by decide)); intro _ _; conv => cbv
         constructor
         · intro hc5
           have h0x : qaa (codU bs) (codV bs) = 0 := by subst hΩ; exact of_decide_eq_true hc5
           conv => cbv
           constructor
           · intro hb1
             have h' : False := by subst hΩ; have h : binL .quo .u8 (bs.getD 56 0) 128 = 0 := hq; exact absurd (show (IntKind.i64.wrap (binL .quo .u8 (bs.getD 56 0) 128) == 1) = true from hb1) (by rw [h]; decide)
             contradiction
           intro _
           conv => cbv
           constructor; (first | exact fun (_ : Unit) => trivial | exact fun (_ : Unit) (_ : Unit) => (by decide)); intro _ _; conv => cbv
           constructor; (first | exact fun (_ : Unit) => trivial | exact fun (_ : Unit) (_ : Unit) => (by decide)); intro _ _; conv => cbv
           constructor
           · exact fun (_ : Unit) => trivial
           intro z hz
           have ex : codX bs = if IntKind.i64.wrap (binL .quo .u8 (bs.getD 56 0) 128) % 2 = 0 then qaa (codU bs) (codV bs) else -qaa (codU bs) (codV bs) := by
             rw [hq]
             unfold codX
             rw [h56]
             rfl
           have hz : z = decide (AP.on ⟨codX bs, codY bs⟩) := by
             rw [ex]
             subst hΩ
             exact hz
           cases z with
           | false =>
             conv => cbv
             refine hQ false _ _ _ ?_ ?_
             · unfold qaA qaN; rw [<- hz, Bool.and_false, Bool.and_false, Bool.and_false, Bool.and_false, Bool.and_false]
             subst hΩ
             refine ⟨⟨⟨⟨⟨rfl, rfl, rfl⟩, trivial⟩, ⟨⟨rfl, rfl, rfl⟩, trivial⟩, ⟨⟨rfl, rfl, rfl⟩, trivial⟩, trivial⟩, ⟨rfl, ?_⟩, trivial⟩, rfl, rfl⟩
             exact (if_pos hl57).symm
           | true =>
             have hon : (qaN bs).on := of_decide_eq_true hz.symm
             conv => cbv
             refine hQ true _ _ _ ?_ ?_
             · unfold qaA; rw [hl57, <- hlt', h56, hIs, decide_eq_true hon, show ((0 : Int) == 128) = false from rfl, Bool.and_false]; rfl
             have ep : qaN bs = ⟨codX bs, codY bs⟩ := rfl
             rw [ex] at ep
             subst hΩ
             exact ⟨⟨congrArg Pay.pt ep.symm, ⟨rfl, rfl⟩, trivial⟩, rfl, rfl⟩
         · intro hc5
           have h0x : ¬ qaa (codU bs) (codV bs) = 0 := by subst hΩ; exact of_decide_eq_false hc5
           conv => cbv
           constructor; (first | exact fun (_ : Unit) => trivial | exact fun (_ : Unit) (_ : Unit) => (by decide)); intro _ _; conv => cbv
           constructor; (first | exact fun (_ : Unit) => trivial | exact fun (_ : Unit) (_ : Unit) => (by decide)); intro _ _; conv => cbv
           constructor
           · exact fun (_ : Unit) => trivial
           intro z hz
           have ex : codX bs = if IntKind.i64.wrap (binL .quo .u8 (bs.getD 56 0) 128) % 2 = 0 then qaa (codU bs) (codV bs) else -qaa (codU bs) (codV bs) := by
             rw [hq]
             unfold codX
             rw [h56]
             rfl
           have hz : z = decide (AP.on ⟨codX bs, codY bs⟩) := by
             rw [ex]
             subst hΩ
             exact hz
           cases z with
           | false =>
             conv => cbv
             refine hQ false _ _ _ ?_ ?_
             · unfold qaA qaN; rw [<- hz, Bool.and_false, Bool.and_false, Bool.and_false, Bool.and_false, Bool.and_false]
             subst hΩ
             refine ⟨⟨⟨⟨⟨rfl, rfl, rfl⟩, trivial⟩, ⟨⟨rfl, rfl, rfl⟩, trivial⟩, ⟨⟨rfl, rfl, rfl⟩, trivial⟩, trivial⟩, ⟨rfl, ?_⟩, trivial⟩, rfl, rfl⟩
             exact (if_pos hl57).symm
           | true =>
             have hon : (qaN bs).on := of_decide_eq_true hz.symm
             conv => cbv
             refine hQ true _ _ _ ?_ ?_
             · unfold qaA; rw [hl57, <- hlt', h56, hIs, decide_eq_true hon, show ((0 : Int) == 128) = false from rfl, Bool.and_false]; rfl
             have ep : qaN bs = ⟨codX bs, codY bs⟩ := rfl
             rw [ex] at ep
             subst hΩ
             exact ⟨⟨congrArg Pay.pt ep.symm, ⟨rfl, rfl⟩, trivial⟩, rfl, rfl⟩
end Go.Sx.Tryz
end
section
set_option maxHeartbeats 4000000
namespace Go.Sx.Tryz
open Go.Proofs
set_option maxRecDepth 40000
def qhp (Ω : Om) : qd := fun args => match args with
 | [.roi .u8 xs, .roi .u8 ys] => ⟨∀ _ : Unit, xs.length < 9223372036854775807 /\ ys.length < 9223372036854775807, Unit, fun _ => True, fun _ => .bs (Ω.hide _ fun _ => xs == ys)⟩
 | _ => PR.none
theorem qsM : Ctr Tryz.prog T glob 15 (qhp Om.real) := by
 refine qo T_ok qj qk (fun Ω => []) [] (fun Ω => []) [] qh qi qf qg Tryz.func15 (by rfl) (by kernel_rfl) Tryz.call15 ?_ ?_
 ·intro args; unfold qhp; split
  ·exact qq (by repeat' constructor) (fun _ _ => rfl) (by repeat' constructor)
  ·exact PR.good_none
 ·intro P Ω hΩ hE hI hm args pr hs hp Q hQ
  unfold qhp at hs
  split at hs <;> subst hs <;> try (exact hp.elim)
  rename_i xs ys
  obtain ⟨lx, ly⟩ := hp ()
  refine ⟨1000, ?_⟩
  conv => cbv
  constructor
  ·intro hb
   rw [hΩ] at hb; simp (disch := omega) only [Om.real, qe, decide_eq_true_eq, decide_eq_false_iff_not] at hb
   conv => cbv
   refine hQ () _ _ _ trivial ?_
   subst hΩ
   show false = (xs == ys)
   cases h3 : xs == ys with
   | false => rfl
   | true => exact absurd (congrArg List.length (eq_of_beq h3)) hb
  ·intro hb
   rw [hΩ] at hb; simp (disch := omega) only [Om.real, qe, decide_eq_true_eq, decide_eq_false_iff_not] at hb
   have hlen : xs.length = ys.length := by omega
   conv => cbv
   refine qv hE hI hm (fun i : Nat => (mkT 26 [(0, .roi .u8 xs), (1, .roi .u8 ys), (4, .bl false), (5, .int .i64 i)], [])) (fun i => i <= xs.length /\ xs.take i = ys.take i) (fun i => xs.length - i) 0 ⟨0, [], ⟨Nat.zero_le _, rfl⟩, Nat.le_refl _, by cbv⟩ fun i hi => ⟨1000, ?_⟩
   conv => cbv
   constructor
   ·intro hc
    rw [hΩ] at hc; simp (disch := omega) only [Om.real, qe, decide_eq_true_eq, decide_eq_false_iff_not] at hc
    conv => cbv
    repeat (refine ⟨by ((try intro _); (try subst hΩ); simp (disch := omega) only [Om.real, qe, SN.v]; omega), ?_⟩)
    constructor
    ·intro hne
     cbv
     refine hQ () _ _ _ trivial ?_
     subst hΩ
     have h1 : (xs.getD i 0 != ys.getD i 0) = true := hne
     show false = (xs == ys)
     cases h3 : xs == ys with
     | false => rfl
     | true => rw [eq_of_beq h3] at h1; simp at h1
    ·intro hne
     cbv
     refine ⟨i + 1, [], ⟨hc, ?_⟩, by omega, Nat.zero_le _, ?_⟩
     ·subst hΩ
      have h1 : (xs.getD i 0 != ys.getD i 0) = false := hne
      rw [bne_eq_false_iff_eq] at h1
      rw [List.take_succ_eq_append_getElem hc, List.take_succ_eq_append_getElem (by omega), hi.2]
      have e1 : xs.getD i 0 = xs[i] := by simp [List.getD, hc]
      have e2 : ys.getD i 0 = ys[i]'(by omega) := by simp [List.getD, show i < ys.length by omega]
      rw [<- e1, <- e2, h1]
     ·conv => cbv
      subst hΩ
      simp (disch := omega) only [Om.real, qe]
   ·intro hc
    rw [hΩ] at hc; simp (disch := omega) only [Om.real, qe, decide_eq_true_eq, decide_eq_false_iff_not] at hc
    conv => cbv
    refine hQ () _ _ _ trivial ?_
    have e : i = xs.length := by have := hi.1; omega
    have h2 := hi.2
    rw [e, List.take_length, hlen, List.take_length] at h2
    subst hΩ
    show true = (xs == ys)
    rw [h2]
    simp
def qhq (Ω : Om) : qd := fun args => match args with
 | [.agg [.roi .u8 K, .int .i64 T]] => ⟨∀ _ : Unit, Byt K /\ K.length < 9223372036854775808, Bool, fun z => z = decide (K.length <= 57 /\ 0 <= T /\ T <= 3), fun z => match z with | true => .tup [.ab (.pt (Ω.hide _ fun _ => spP K T)), .ab (.rp (Ω.hide _ fun _ => spP K T)), .bl true] | false => .tup [.ab (.pt (Ω.hide _ fun _ => pid)), .ab (.rp (Ω.hide _ fun _ => pid)), .bl false]⟩
 | _ => PR.none
theorem qsN : Ctr Tryz.prog T glob 27 (qhq Om.real) := by
 refine qo T_ok qj qk (fun Ω => [(82, qcq Ω), (41, qdV Ω), (83, qhn Ω), (35, qhi Ω), (84, qhj Ω), (22, qdW Ω), (86, qhk Ω), (85, qho Ω)]) [] (fun Ω => []) [] (qb qeP (qb qjK (qb qsB (qb qsw (qb qsx (qb qjL (qb qsy (qb qsD qh)))))))) qi qf qg Tryz.func27 (by rfl) (by kernel_rfl) Tryz.call27 ?_ ?_
 ·intro args; unfold qhq; split
  ·exact qa9 ⟨fun x => by cases x <;> repeat' (first | exact trivial | constructor), fun E x b => by cases x <;> rfl⟩ (by repeat' (first | exact trivial | constructor)) (fun _ => ⟨_, rfl⟩)
  ·exact PR.good_none
 ·intro P Ω hΩ hE hI hm args pr hs hp Q hQ
  unfold qhq at hs
  split at hs <;> subst hs <;> try (exact hp.elim)
  rename_i K T'
  obtain ⟨hK, hl⟩ := hp ()
  refine ⟨1000, ?_⟩
  conv => cbv
  constructor
  ·intro hc
   have h1 : ¬ K.length <= 57 := by rw [hΩ] at hc; simp (disch := omega) only [Om.real, qe, decide_eq_true_eq, decide_eq_false_iff_not] at hc; omega
   conv => cbv
   repeat (constructor; (first | exact fun (_ : Unit) => trivial | exact fun (_ : Unit) (_ : Unit) => (by decide)); intro _ _; conv => cbv)
   refine hQ false _ _ _ ?_ ?_
   ·exact (decide_eq_false (by omega)).symm
   subst hΩ
   exact ⟨⟨rfl, rfl, rfl, trivial⟩, rfl, rfl⟩
  ·intro hc
   have h1 : K.length <= 57 := by rw [hΩ] at hc; simp (disch := omega) only [Om.real, qe, decide_eq_true_eq, decide_eq_false_iff_not] at hc; omega
   constructor
   ·intro hc2
    have h2 : T' < 0 := by subst hΩ; exact of_decide_eq_true hc2
    conv => cbv
    repeat (constructor; (first | exact fun (_ : Unit) => trivial | exact fun (_ : Unit) (_ : Unit) => (by decide)); intro _ _; conv => cbv)
    refine hQ false _ _ _ ?_ ?_
    ·exact (decide_eq_false (by omega)).symm
    subst hΩ
    exact ⟨⟨rfl, rfl, rfl, trivial⟩, rfl, rfl⟩
   ·intro hc2
    have h2 : ¬ T' < 0 := by subst hΩ; exact of_decide_eq_false hc2
    constructor
    ·intro hc3
     have h3 : T' > 3 := by subst hΩ; exact of_decide_eq_true hc3
     conv => cbv
     repeat (constructor; (first | exact fun (_ : Unit) => trivial | exact fun (_ : Unit) (_ : Unit) => (by decide)); intro _ _; conv => cbv)
     refine hQ false _ _ _ ?_ ?_
     ·exact (decide_eq_false (by omega)).symm
     subst hΩ
     exact ⟨⟨rfl, rfl, rfl, trivial⟩, rfl, rfl⟩
    ·intro hc3
     have h3 : ¬ T' > 3 := by subst hΩ; exact of_decide_eq_false hc3
     have hb : Byt (codB (spP K T')) := by
      intro a ha
      unfold codB at ha
      rcases List.mem_append.1 ha with h | h
      ·rw [qgY] at h; exact qdS _ _ a h
      ·rw [List.mem_singleton] at h; rw [h]; split <;> decide
     obtain ⟨cg, cp⟩ := qsG (qfe K T')
     conv => cbv
     constructor; (first | exact fun (_ : Unit) => trivial | exact fun (_ : Unit) (_ : Unit) => (by decide)); intro _ _; conv => cbv
     constructor
     ·intro _ _; subst hΩ; exact ⟨qbq, by omega, hK⟩
     intro _ _
     conv => cbv
     repeat (constructor; (first | exact fun (_ : Unit) => trivial | exact fun (_ : Unit) (_ : Unit) => (by decide)); intro _ _; conv => cbv)
     rename_i x hx
     have hx : x.1 = codB (spP K T') /\ x.1.length <= x.2 := by subst hΩ; exact hx
     have hsx : (x.1.drop 0).take x.1.length = x.1 := by rw [List.drop_zero, List.take_length]
     conv => cbv
     constructor
     ·exact fun _ => ⟨by subst hΩ; show 0 + x.1.length <= x.1.length; omega, trivial⟩
     constructor
     ·intro _ _
      subst hΩ
      show Byt ((x.1.drop 0).take x.1.length) /\ ((x.1.drop 0).take x.1.length).length < _
      rw [hsx, hx.1]
      exact ⟨hb, by rw [qhd]; decide⟩
     intro z hz
     have hz : z = true := by
      have h : z = qaA (Ω.sub x.1 0 (Ω.len x.1)) := hz
      rw [h]
      subst hΩ
      show qaA ((x.1.drop 0).take x.1.length) = true
      rw [hsx, hx.1]; exact cg
     subst hz
     conv => cbv
     refine hQ true _ _ _ (decide_eq_true ⟨h1, by omega, by omega⟩).symm ?_
     subst hΩ
     refine ⟨⟨?_, rfl, rfl, trivial⟩, rfl, rfl⟩
     show Pay.pt (qaN ((x.1.drop 0).take x.1.length)) = Pay.pt (spP K T')
     rw [hsx, hx.1, cp]
def qhr (Ω : Om) : qd := fun args => match args with
 | [.agg [.roi .u8 K, .int .i64 T]] => ⟨∀ _ : Unit, Byt K /\ K.length < 9223372036854775808, Bool, fun z => z = decide (K.length <= 57 /\ 0 <= T /\ T <= 3), fun z => match z with | true => .tup [.ab (.pt (Ω.hide _ fun _ => padd (spP K T) (spP K T))), .ab (.rp (Ω.hide _ fun _ => padd (spP K T) (spP K T))), .bl true] | false => .tup [.ab (.pt (Ω.hide _ fun _ => pid)), .ab (.rp (Ω.hide _ fun _ => pid)), .bl false]⟩
 | _ => PR.none
theorem qsO : Ctr Tryz.prog T glob 10 (qhr Om.real) := by
 refine qo T_ok qj qk (fun Ω => [(27, qhq Ω), (30, qdL Ω), (41, qdV Ω), (39, qeY Ω), (22, qdW Ω)]) [] (fun Ω => []) [] (qb qsN (qb qjn (qb qjK (qb qnd (qb qjL qh))))) qi qf qg Tryz.func10 (by rfl) (by kernel_rfl) Tryz.call10 ?_ ?_
 ·intro args; unfold qhr; split
  ·exact qa9 ⟨fun x => by cases x <;> repeat' (first | exact trivial | constructor), fun E x b => by cases x <;> rfl⟩ (by repeat' (first | exact trivial | constructor)) (fun _ => ⟨_, rfl⟩)
  ·exact PR.good_none
 ·intro P Ω hΩ hE hI hm args pr hs hp Q hQ
  unfold qhr at hs
  split at hs <;> subst hs <;> try (exact hp.elim)
  rename_i K T'
  obtain ⟨hK, hl⟩ := hp ()
  refine ⟨1000, ?_⟩
  conv => cbv
  constructor
  ·exact fun _ _ => ⟨hK, hl⟩
  intro z hz
  have hz : z = decide (K.length <= 57 /\ 0 <= T' /\ T' <= 3) := hz
  cases z with
  | false =>
    conv => cbv
    repeat (constructor; (first | exact fun (_ : Unit) => trivial | exact fun (_ : Unit) (_ : Unit) => (by decide)); intro _ _; conv => cbv)
    refine hQ false _ _ _ hz ?_
    subst hΩ
    exact ⟨⟨rfl, rfl, rfl, trivial⟩, rfl, rfl⟩
  | true =>
    conv => cbv
    repeat (constructor; (first | exact fun (_ : Unit) => trivial | exact fun (_ : Unit) (_ : Unit) => (by decide)); intro _ _; conv => cbv)
    refine hQ true _ _ _ hz ?_
    subst hΩ
    exact ⟨⟨rfl, rfl, rfl, trivial⟩, rfl, rfl⟩
def qhs (Ω : Om) : qd := fun args => match args with
 | [] => ⟨True, Unit, fun _ => True, fun _ => .bs (Ω.hide _ fun _ => true)⟩
 | _ => PR.none
theorem qsP : Ctr Tryz.prog T glob 9 (qhs Om.real) := by
 refine qo T_ok qj qk (fun Ω => [(30, qdL Ω), (16, qgM Ω), (12, qgN Ω), (40, qhm Ω), (39, qeY Ω), (15, qhp Ω), (19, qeZ Ω), (21, qdM Ω)]) [] (fun Ω => []) [] (qb qjn (qb qrC (qb qrD (qb qsA (qb qnd (qb qsM (qb qne (qb qjo qh)))))))) qi qf qg Tryz.func9 (by rfl) (by kernel_rfl) Tryz.call9 ?_ ?_
 ·intro args; unfold qhs; split
  ·exact qq (by repeat' constructor) (fun _ _ => rfl) (by repeat' constructor)
  ·exact PR.good_none
 ·intro P Ω hΩ hE hI hm args pr hs hp Q hQ
  unfold qhs at hs
  split at hs <;> subst hs <;> try (exact hp.elim)
  have hb0 : Byt (qI (encF pid)) := by rw [qgY]; exact qdS _ _
  obtain ⟨d1, d2, d3⟩ := qn0 qc4 qnZ
  obtain ⟨d4, d5⟩ := qsK
  refine ⟨1000, ?_⟩
  conv => cbv
  constructor; (first | exact fun (_ : Unit) => trivial | exact fun (_ : Unit) (_ : Unit) => (by decide)); intro _ _; conv => cbv
  constructor; (first | exact fun (_ : Unit) => trivial | exact fun (_ : Unit) (_ : Unit) => (by decide)); intro _ _; conv => cbv
  rename_i x hx
  have hx : x.1 = qI (encF pid) /\ x.1.length <= x.2 := by subst hΩ; exact hx
  have hxl : x.1.length = 56 := by rw [hx.1, qbc]
  have hsx : (x.1.drop 0).take x.1.length = x.1 := by rw [List.drop_zero, List.take_length]
  constructor
  ·exact fun _ => ⟨by subst hΩ; show 0 + x.1.length <= x.1.length; omega, trivial⟩
  constructor
  ·intro _ _
   subst hΩ
   show Byt ((x.1.drop 0).take x.1.length) /\ ((x.1.drop 0).take x.1.length).length < _
   rw [hsx, hx.1, qbc]
   exact ⟨hb0, by decide⟩
  intro z hz
  have hz : z = true := by
   have h : z = qaT (Ω.sub x.1 0 (Ω.len x.1)) := hz
   rw [h]
   subst hΩ
   show qaT ((x.1.drop 0).take x.1.length) = true
   rw [hsx, hx.1]; exact d1
  subst hz
  conv => cbv
  constructor; (first | exact fun (_ : Unit) => trivial | exact fun (_ : Unit) (_ : Unit) => (by decide)); intro _ _; conv => cbv
  constructor; (first | exact fun (_ : Unit) => trivial | exact fun (_ : Unit) (_ : Unit) => (by decide)); intro _ _; conv => cbv
  constructor
  ·exact fun _ => ⟨by subst hΩ; show 0 + x.1.length <= x.1.length; omega, (show 0 + 56 <= 56 by decide), trivial⟩
  constructor
  ·intro _ _
   subst hΩ
   show ((x.1.drop 0).take x.1.length).length < _ /\ _
   rw [hsx, hxl]
   exact ⟨by decide, by decide⟩
  intro _ _
  conv => cbv
  have hE : qar ((x.1.drop 0).take x.1.length) = qar (qI (encF pid)) := by rw [hsx, hx.1]
  constructor
  rotate_left
  ·intro h
   have h' : False := by
    subst hΩ
    have h2 : ((x.1.drop 0).take x.1.length == List.replicate 56 0) = false := h
    rw [hsx, hx.1, qsH, qsI] at h2
    simp at h2
   clear d1 d2 d3 d4 d5 hb0 hx hxl hsx hE
   contradiction
  intro _
  conv => cbv
  constructor; (first | exact fun (_ : Unit) => trivial | exact fun (_ : Unit) (_ : Unit) => (by decide)); intro _ _; conv => cbv
  constructor; (first | exact fun (_ : Unit) => trivial | exact fun (_ : Unit) (_ : Unit) => (by decide)); intro _ _; conv => cbv
  constructor
  rotate_left
  ·intro h
   have h' : False := by
    subst hΩ
    have h2 : (decide ((qar ((x.1.drop 0).take x.1.length)).x * pid.y = (qar ((x.1.drop 0).take x.1.length)).y * pid.x)) = false := h
    rw [hE] at h2
    exact of_decide_eq_false h2 d3
   clear d1 d2 d3 d4 d5 hb0 hx hxl hsx hE
   contradiction
  intro _
  conv => cbv
  constructor; (first | exact fun (_ : Unit) => trivial | exact fun (_ : Unit) (_ : Unit) => (by decide)); intro _ _; conv => cbv
  constructor
  rotate_left
  ·intro h
   have h' : False := by
    subst hΩ
    have h2 : (!decide ((padd baseP baseP).x * (qar ((x.1.drop 0).take x.1.length)).y = (padd baseP baseP).y * (qar ((x.1.drop 0).take x.1.length)).x)) = false := h
    rw [hE, Bool.not_eq_false'] at h2
    have h3 := of_decide_eq_true h2
    rw [d4] at h3
    have h4 : (padd baseP baseP).x * (qar (qI (encF pid))).y = 0 := by rw [h3]; exact Fin.mul_zero _
    rcases qaE h4 with h5 | h5
    ·exact qsL h5
    ·rw [h5] at d5
     exact qbJ (d5.symm.trans (Fin.mul_zero _))
   clear d1 d2 d3 d4 d5 hb0 hx hxl hsx hE
   contradiction
  intro _
  conv => cbv
  constructor; (first | exact fun (_ : Unit) => trivial | exact fun (_ : Unit) (_ : Unit) => (by decide)); intro _ _; conv => cbv
  constructor; (first | exact fun (_ : Unit) => trivial | exact fun (_ : Unit) (_ : Unit) => (by decide)); intro _ _; conv => cbv
  refine hQ () _ _ _ trivial ?_
  subst hΩ
  show (decide ((padd (padd baseP baseP) (qar ((x.1.drop 0).take x.1.length))).x * (padd baseP baseP).y = (padd (padd baseP baseP) (qar ((x.1.drop 0).take x.1.length))).y * (padd baseP baseP).x)) = true
  rw [hE]
  exact decide_eq_true (qn1 d4)
end Go.Sx.Tryz
end
section
set_option maxHeartbeats 4000000
namespace Go.Sx.Tryz
open Go.Proofs
set_option maxRecDepth 40000
def qht (Ω : Om) : qd := fun args => match args with
 | [.agg [.agg [.roi .u8 K0, .int .i64 T0], .agg [.roi .u8 K1, .int .i64 T1]]] => ⟨∀ _ : Unit, (Byt K0 /\ K0.length < 9223372036854775808) /\ Byt K1 /\ K1.length < 9223372036854775808, Bool × Bool, fun z => z.1 = decide (K0.length <= 57 /\ 0 <= T0 /\ T0 <= 3) /\ z.2 = decide (K1.length <= 57 /\ 0 <= T1 /\ T1 <= 3), fun z => match z with | (true, true) => .tup [.ab (.pt (Ω.hide _ fun _ => padd (spP K0 T0) (spP K0 T0))), .ab (.pt (Ω.hide _ fun _ => padd (spP K1 T1) (spP K1 T1))), .ab (.rp (Ω.hide _ fun _ => padd (spP K0 T0) (spP K0 T0))), .ab (.rp (Ω.hide _ fun _ => padd (spP K1 T1) (spP K1 T1))), .bl true] | (true, false) => .tup [.ab (.pt (Ω.hide _ fun _ => padd (spP K0 T0) (spP K0 T0))), .ab (.pt (Ω.hide _ fun _ => pid)), .ab (.rp (Ω.hide _ fun _ => padd (spP K0 T0) (spP K0 T0))), .ab (.rp (Ω.hide _ fun _ => pid)), .bl false] | (false, true) => .tup [.ab (.pt (Ω.hide _ fun _ => pid)), .ab (.pt (Ω.hide _ fun _ => padd (spP K1 T1) (spP K1 T1))), .ab (.rp (Ω.hide _ fun _ => pid)), .ab (.rp (Ω.hide _ fun _ => padd (spP K1 T1) (spP K1 T1))), .bl false] | (false, false) => .tup [.ab (.pt (Ω.hide _ fun _ => pid)), .ab (.pt (Ω.hide _ fun _ => pid)), .ab (.rp (Ω.hide _ fun _ => pid)), .ab (.rp (Ω.hide _ fun _ => pid)), .bl false]⟩
 | _ => PR.none
theorem qsQ : Ctr Tryz.prog T glob 17 (qht Om.real) := by
 refine qo T_ok qj qk (fun Ω => [(10, qhr Ω)]) [] (fun Ω => []) [] (qb qsO qh) qi qf qg Tryz.func17 (by rfl) (by kernel_rfl) Tryz.call17 ?_ ?_
 ·intro args; unfold qht; split
  ·exact qa9 ⟨fun x => by obtain ⟨a, b⟩ := x; cases a <;> cases b <;> repeat' (first | exact trivial | constructor), fun E x b => by obtain ⟨a, c⟩ := x; cases a <;> cases c <;> rfl⟩ (by repeat' (first | exact trivial | constructor)) (fun _ => ⟨(_, _), rfl, rfl⟩)
  ·exact PR.good_none
 ·intro P Ω hΩ hE hI hm args pr hs hp Q hQ
  unfold qht at hs
  split at hs <;> subst hs <;> try (exact hp.elim)
  rename_i K0 T0 K1 T1
  obtain ⟨⟨hK0, hl0⟩, hK1, hl1⟩ := hp ()
  refine ⟨1000, ?_⟩
  conv => cbv
  constructor
  ·exact fun _ _ => ⟨hK0, hl0⟩
  intro (z : Bool) hz
  have hz : z = decide (K0.length <= 57 /\ 0 <= T0 /\ T0 <= 3) := hz
  cases z with
  | true =>
    conv => cbv
    constructor
    · exact fun _ _ => ⟨hK1, hl1⟩
    intro (y : Bool) hy
    have hy : y = decide (K1.length <= 57 /\ 0 <= T1 /\ T1 <= 3) := hy
    cases y with
    | true =>
      conv => cbv
      refine hQ (true, true) _ _ _ ⟨hz, hy⟩ ?_
      subst hΩ
      exact ⟨⟨rfl, rfl, rfl, rfl, rfl, trivial⟩, rfl, rfl⟩
    | false =>
      conv => cbv
      refine hQ (true, false) _ _ _ ⟨hz, hy⟩ ?_
      subst hΩ
      exact ⟨⟨rfl, rfl, rfl, rfl, rfl, trivial⟩, rfl, rfl⟩
  | false =>
    conv => cbv
    constructor
    · exact fun _ _ => ⟨hK1, hl1⟩
    intro (y : Bool) hy
    have hy : y = decide (K1.length <= 57 /\ 0 <= T1 /\ T1 <= 3) := hy
    cases y with
    | true =>
      conv => cbv
      refine hQ (false, true) _ _ _ ⟨hz, hy⟩ ?_
      subst hΩ
      exact ⟨⟨rfl, rfl, rfl, rfl, rfl, trivial⟩, rfl, rfl⟩
    | false =>
      conv => cbv
      refine hQ (false, false) _ _ _ ⟨hz, hy⟩ ?_
      subst hΩ
      exact ⟨⟨rfl, rfl, rfl, rfl, rfl, trivial⟩, rfl, rfl⟩
end Go.Sx.Tryz
end
