/-
  Part of the proof of a statement: the means.
-/
import Derived.Test.YtpnebmmjpapopaaGreatDoorX9
import Derived.Test.YtpnebmmjpapopaaGreatDoorX6
set_option linter.unusedSectionVars false
set_option linter.unusedVariables false
set_option linter.unusedSimpArgs false
set_option linter.deprecated false
section
set_option maxHeartbeats 4000000
namespace Go.Sx.Tryz
open Go.Proofs
set_option maxRecDepth 40000
def qhy (Ω : Om) : qe := fun args => match args with
 | [.roi .u8 bs] => ⟨∀ _ : Unit, bs.length = 56 /\ ∀ a ∈ bs, 0 <= a /\ a < 256, Unit, fun _ => True, fun _ => .ab (.re (Ω.hide _ fun _ => fI (qd bs)))⟩
 | _ => PR.none
theorem quj : Ctr Tryz.prog T glob 31 (qhy Om.real) := by
 refine qo T_ok qg qh (fun Ω => [(101, qfu Ω)]) [] (fun Ω => []) [] (qb qow qi) qj qk ql Tryz.func31 (by rfl) (by kernel_rfl) Tryz.call31 ?_ ?_
 ·intro args; unfold qhy; split
  ·exact qq (by repeat' constructor) (fun _ _ => rfl) (by repeat' constructor)
  ·exact PR.good_none
 ·intro P Ω hΩ hE hI hm args pr hs hp Q hQ
  unfold qhy at hs
  split at hs <;> subst hs <;> try (exact hp.elim)
  rename_i bs
  obtain ⟨hl, hb⟩ := hp ()
  refine ⟨1000, ?_⟩
  cbv
  refine qu hE hI hm (fun z : Nat × List Int => (mkT 39 [(0, .roi .u8 bs), (2, .ptr 0 (.l 0)), (3, .ptr 8 (.l 0)), (4, .int .i64 z.1)], [(8, .row .i64 16 z.2), (0, .row .i64 16 [0, 0, 0, 0, 0, 0, 0, 0, 0, 0, 0, 0, 0, 0, 0, 0])])) (fun z => z.1 <= 8 /\ Ofs bs z.1 z.2) (fun z => 8 - z.1) 0 ⟨(0, z16), [], ⟨Nat.zero_le _, Ofs.zero bs⟩, Nat.zero_le _, by cbv; exact ⟨rfl, trivial⟩⟩ fun z hz => ⟨1000, ?_⟩
  obtain ⟨i, v⟩ := z
  obtain ⟨hi, hv⟩ : i <= 8 /\ Ofs bs i v := hz
  cbv
  constructor
  ·intro hc
   cbv
   rw [hΩ] at hc; simp (disch := omega) only [Om.real, qc, decide_eq_true_eq, decide_eq_false_iff_not] at hc
   refine qu hE hI hm (fun z : Nat × Int × Int => (mkT 39 [(0, .roi .u8 bs), (2, .ptr 0 (.l 0)), (3, .ptr 8 (.l 0)), (4, .int .i64 i), (5, .int .i64 z.2.2), (6, .int .i64 z.2.1)], [(8, .row .i64 16 v), (0, .row .i64 16 [0, 0, 0, 0, 0, 0, 0, 0, 0, 0, 0, 0, 0, 0, 0, 0])])) (fun z => z.1 <= 7 /\ z.2.1 = z.1 - 1 /\ z.2.2 = qd ((bs.drop (7 * i + z.1)).take (7 - z.1))) (fun z => z.1) 0 ⟨(7, 6, 0), [], ⟨Nat.le_refl _, rfl, rfl⟩, Nat.zero_le _, by cbv⟩ fun z hz => ⟨1000, ?_⟩
   obtain ⟨k, kk, n⟩ := z
   obtain ⟨hk, hkk, hn⟩ : k <= 7 /\ kk = (k : Int) - 1 /\ n = qd ((bs.drop (7 * i + k)).take (7 - k)) := hz
   cbv
   constructor
   ·intro hc2
    cbv
    have hkk : kk = (k : Int) - 1 := hkk
    have hc' : kk >= 0 := by rw [hΩ] at hc2; exact of_decide_eq_true hc2
    obtain ⟨m, rfl⟩ : ∃ m : Nat, kk = m := ⟨kk.toNat, by omega⟩
    have hm7 : m < 7 := by omega
    have hk1 : k = m + 1 := by omega
    have hbd := qgT hb (7 * i + m) (7 - m)
    have hnb := qgT hb (7 * i + k) (7 - k)
    rw [<- hn] at hnb
    have hst : qd ((bs.drop (7 * i + m)).take (7 - m)) = bs.getD (7 * i + m) 0 + 256 * n := by
     rw [show 7 - m = (7 - k) + 1 by omega, qr5 (by omega), hn, hk1]; rfl
    have p6 : (256 : Int) ^ (7 - k) <= 281474976710656 := by
     have : (256 : Int) ^ (7 - k) <= 256 ^ 6 := by
      have e : ((256 ^ (7 - k) : Nat) : Int) <= ((256 ^ 6 : Nat) : Int) := Int.ofNat_le.2 (Nat.pow_le_pow_right (by decide) (by omega))
      simpa using e
     exact this
    have hb1 := hb _ (qan (l := bs) (i := 7 * i + m) (by omega))
    obtain ⟨n2, hn2⟩ : ∃ n2, n2 = qd ((bs.drop (7 * i + m)).take (7 - m)) := ⟨_, rfl⟩
    have e1 : binL .mul .i64 n 256 = n * 256 := qbB (by omega) (by omega)
    have e3 : IntKind.i64.wrap (bs.getD (7 * i + m) 0) = bs.getD (7 * i + m) 0 := qam (by omega) (by omega)
    have e2 : binL .add .i64 (n * 256) (bs.getD (7 * i + m) 0) = n2 := by rw [qD (by omega) (by omega), hn2, hst]; omega
    repeat (refine ⟨by ((try intro _); (try subst hΩ); simp (disch := omega) only [Om.real, qc, SN.v]; omega), ?_⟩)
    obtain ⟨k2, hk2⟩ : ∃ k2 : Int, k2 = (m : Int) - 1 := ⟨_, rfl⟩
    refine ⟨(m, k2, n2), [], ⟨by omega, hk2, hn2⟩, by simp only; omega, Nat.zero_le _, ?_⟩
    cbv
    subst hΩ
    simp (disch := omega) only [Om.real, qc]
    exact ⟨by rw [e1, e3, e2], (q8 (by omega) (by omega)).trans hk2.symm, trivial⟩
   ·intro hc2
    cbv
    have hkk : kk = (k : Int) - 1 := hkk
    have hc' : ¬ kk >= 0 := by rw [hΩ] at hc2; exact of_decide_eq_false hc2
    have h0 : k = 0 := by omega
    subst h0
    have hst := hv.step hc hl hb hn
    have hnb := qgT hb (7 * i) 7
    have hn : n = qd ((bs.drop (7 * i)).take 7) := hn
    rw [<- hn] at hnb
    have p7 : (256 : Int) ^ 7 = 72057594037927936 := by decide
    rw [p7] at hnb
    obtain ⟨v2, hv2⟩ : ∃ v2, v2 = (v.set (2 * i) (n % 268435456)).set (2 * i + 1) (n / 268435456) := ⟨_, rfl⟩
    rw [<- hv2] at hst
    have hvl := hv.len
    have e1 : binL .rem .i64 n 268435456 = n % 268435456 := Int.tmod_eq_emod_of_nonneg hnb.1
    have e2 : binL .quo .i64 n 268435456 = n / 268435456 := by
     rw [qe5 (by rw [Int.tdiv_eq_ediv_of_nonneg hnb.1]; omega) (by rw [Int.tdiv_eq_ediv_of_nonneg hnb.1]; omega), Int.tdiv_eq_ediv_of_nonneg hnb.1]
    repeat (refine ⟨by ((try intro _); (try subst hΩ); simp (disch := omega) only [Om.real, qc, SN.v]; omega), ?_⟩)
    refine ⟨(i + 1, v2), [], ⟨by omega, hst⟩, by simp only; omega, Nat.zero_le _, ?_⟩
    cbv
    subst hΩ
    simp (disch := omega) only [Om.real, qc]
    exact ⟨trivial, by rw [e1, e2]; exact hv2.symm, trivial⟩
  ·intro hc
   cbv
   rw [hΩ] at hc; simp (disch := omega) only [Om.real, qc, decide_eq_true_eq, decide_eq_false_iff_not] at hc
   have h8 : i = 8 := by omega
   subst h8
   obtain ⟨q1, q2⟩ := hv.done hl
   have q3 := hv.len
   constructor
   ·intro _ _; subst hΩ; exact ⟨q3, q2⟩
   intro _ _
   cbv
   refine hQ () _ _ _ trivial ?_
   subst hΩ
   show Pay.re (fI (valB 268435456 v)) = Pay.re (fI (qd bs))
   rw [q1]
def qhz (Ω : Om) : qe := fun args => match args with
 | [.ab (.re x)] => ⟨True, List Int × Nat, fun z => z.1 = qO x /\ z.1.length <= z.2, fun z => .fr .u8 z.1 z.2⟩
 | [.row .i64 16 xs] => ⟨∀ _ : Unit, xs.length = 16 /\ (∀ a ∈ xs, 0 <= a /\ a < 268435456), List Int × Nat, fun z => z.1 = qR (valB 268435456 xs).toNat 56 /\ z.1.length <= z.2, fun z => .fr .u8 z.1 z.2⟩
 | _ => PR.none
theorem quk : Ctr Tryz.prog T glob 33 (qhz Om.real) := by
 refine qaQ T_ok qg qh (fun Ω => []) [] (fun Ω => []) [] qi qj qk ql Tryz.func33 (by rfl) (by kernel_rfl) Tryz.call33 ?_ ?_
 ·intro args; unfold qhz; split
  ·exact qa7 ⟨trivial, trivial⟩ fun _ => qaR _
  ·exact qa7 ⟨trivial, trivial⟩ fun _ => qaR _
  ·exact PR.good_none
 ·intro P Ω hΩ hE hI hm args pr hs hp cs hcs Q hQ
  unfold qhz at hs
  split at hs <;> subst hs <;> try (exact hp.elim)
  ·rename_i x
   obtain ⟨_, _, rfl, ⟨xs, rfl, hx⟩, rfl⟩ := hcs
   obtain ⟨hl, hdg0, hv⟩ : okRe x xs := hx
   refine ⟨1000, ?_⟩
   cbv
   refine qu hE hI hm (fun x : Nat × List Int × Nat × Nat => (mkT 35 [(1, .ptr 0 (.l 0)), (2, .val (.slice none 0 0)), (3, .sl 32 1 (.l 0) (.s x.2.2.1) (.s x.2.2.2)), (4, .int .i64 x.1)], [(32, .seq .u8 x.2.1), (0, .row .i64 16 xs)])) (fun z => z.1 <= 8 /\ z.2.1 = qR x.val (7 * z.1) /\ z.2.2.1 = 7 * z.1 /\ z.2.2.1 <= z.2.2.2) (fun x => 8 - x.1) 1 ⟨(0, [], 0, 0), [none], ⟨Nat.zero_le _, rfl, rfl, Nat.le_refl _⟩, by decide, ?_⟩ fun x hx => ⟨1000, ?_⟩
   ·cbv
    exact ⟨rfl, trivial⟩
   obtain ⟨i, u, n, c⟩ := x
   obtain ⟨hi, hu, hn, hc⟩ : i <= 8 /\ u = qR x.val (7 * i) /\ n = 7 * i /\ n <= c := hx
   cbv
   constructor
   ·intro hd
    cbv
    rw [hΩ] at hd; simp (disch := omega) only [Om.real, qc, decide_eq_true_eq, decide_eq_false_iff_not] at hd
    repeat (refine ⟨by ((try intro _); (try subst hΩ); simp (disch := omega) only [Om.real, qc, SN.v]; omega), ?_⟩)
    have hdg := dig2 (N := x.val) (i := i) hl hdg0 hv hd
    have b1 := hdg0 _ (qan (l := xs) (i := 2 * i) (by omega))
    have b2 := hdg0 _ (qan (l := xs) (i := 2 * i + 1) (by omega))
    obtain ⟨D, hD⟩ : ∃ D : Nat, D = x.val / 256 ^ (7 * i) % 72057594037927936 := ⟨_, rfl⟩
    rw [<- hD] at hdg
    have hDb : D < 72057594037927936 := by rw [hD]; exact Nat.mod_lt _ (by decide)
    have eD : binL .add .i64 (xs.getD (2 * i) 0) (binL .mul .i64 (xs.getD (2 * i + 1) 0) 268435456) = (D : Int) := by
     rw [qbB (by omega) (by omega), qD (by omega) (by omega)]; exact hdg
    refine qu hE hI hm (fun x : Nat × List Int × Nat × Nat × Nat => (mkT 35 [(1, .ptr 0 (.l 0)), (2, .val (.slice none 0 0)), (3, .sl 160 1 (.l 0) (.s x.2.2.1) (.s x.2.2.2.1)), (4, .int .i64 i), (5, .int .i64 x.2.2.2.2), (6, .int .i64 x.1)], [(160, .seq .u8 x.2.1), (0, .row .i64 16 xs)])) (fun z => z.1 <= 7 /\ z.2.1 = qR x.val (7 * i + z.1) /\ z.2.2.1 = 7 * i + z.1 /\ z.2.2.1 <= z.2.2.2.1 /\ z.2.2.2.2 = D / 256 ^ z.1) (fun x => 7 - x.1) 1 ⟨(0, u, n, c, D), [some 32], ⟨Nat.zero_le _, hu, hn, hc, (Nat.div_one D).symm⟩, by decide, ?_⟩ fun y hy => ⟨1000, ?_⟩
    ·cbv
     subst hΩ
     simp (disch := omega) only [Om.real, qc]
     exact ⟨eD, rfl, trivial⟩
    obtain ⟨k, v, m, c2, w⟩ := y
    obtain ⟨hk, hv2, hm', hc2, hw⟩ : k <= 7 /\ v = qR x.val (7 * i + k) /\ m = 7 * i + k /\ m <= c2 /\ w = D / 256 ^ k := hy
    have hvl : v.length = m := by rw [hv2, qc9, hm']
    have hwb : w <= D := by rw [hw]; exact Nat.div_le_self _ _
    cbv
    constructor
    ·intro he
     cbv
     rw [hΩ] at he; simp (disch := omega) only [Om.real, qc, decide_eq_true_eq, decide_eq_false_iff_not] at he
     constructor
     ·exact fun _ => (show (m + 1) * 1 <= 140737488355328 by omega)
     constructor
     ·exact fun _ => ⟨(show 0 + m * 1 <= v.length by omega), (show 0 + 1 * 1 <= 1 by omega)⟩
     intro cap hcap
     have hcap : m + 1 <= cap := hcap
     cbv
     obtain ⟨v', hv'⟩ : ∃ v', v' = qR x.val (7 * i + k + 1) := ⟨_, rfl⟩
     obtain ⟨w', hw'⟩ : ∃ w', w' = D / 256 ^ (k + 1) := ⟨_, rfl⟩
     obtain ⟨m2, hm2⟩ : ∃ m2, m2 = m + 1 := ⟨_, rfl⟩
     have ew : w' = w / 256 := by rw [hw', hw, Nat.pow_succ, Nat.div_div_eq_div_mul]
     have e1 : binL .quo .i64 (w : Int) 256 = (w' : Int) := by
      have e : ((w : Int)).tdiv 256 = (w' : Int) := by rw [Int.tdiv_eq_ediv_of_nonneg (by omega), ew]; omega
      rw [qe5 (by rw [e]; omega) (by rw [e]; omega), e]
     have e2 : IntKind.u8.wrap (binL .rem .i64 (w : Int) 256) = ((x.val / 256 ^ (7 * i + k) % 256 : Nat) : Int) := by
      have e : binL .rem .i64 (w : Int) 256 = (w : Int) % 256 := Int.tmod_eq_emod_of_nonneg (a := (w : Int)) (b := 256) (Int.natCast_nonneg w)
      rw [e, IntKind.wrap_u8, <- qgU x.val i k he, <- hD, <- hw]; omega
     refine ⟨(k + 1, v', m2, cap, w'), [some 224], ⟨he, hv', ?_, ?_, hw'⟩, by simp only; omega, by decide, ?_⟩
     ·show m2 = 7 * i + (k + 1); omega
     ·show m2 <= cap; omega
     cbv
     subst hΩ
     simp (disch := omega) only [Om.real, qc]
     refine ⟨hm2.symm, by rw [ew], trivial, ?_⟩
     refine ⟨?_, trivial⟩
     rw [List.drop_zero, List.take_of_length_le (by omega), hv', hv2, qns, IntKind.wrap_u8, <- qgU x.val i k he, <- hD, <- hw]
     congr 2
     omega
    ·intro he
     cbv
     rw [hΩ] at he; simp (disch := omega) only [Om.real, qc, decide_eq_true_eq, decide_eq_false_iff_not] at he
     have hk7 : k = 7 := by omega
     subst hk7
     refine ⟨(i + 1, v, m, c2), [some 160], ⟨hd, hv2, hm', hc2⟩, by simp only; omega, by decide, ?_⟩
     cbv
     subst hΩ
     simp (disch := omega) only [Om.real, qc]
     exact ⟨trivial, trivial⟩
   ·intro hd
    cbv
    rw [hΩ] at hd; simp (disch := omega) only [Om.real, qc, decide_eq_true_eq, decide_eq_false_iff_not] at hd
    have h8 : i = 8 := by omega
    subst h8
    have hul : u.length = n := by rw [hu, qc9, hn]
    refine hQ (u, c) _ _ _ ⟨hu.trans (qjf x).symm, by show u.length <= c; omega⟩ ?_
    refine ⟨rfl, rfl, by show 0 + n <= u.length; omega, ?_⟩
    subst hΩ
    show u = (u.drop 0).take n
    rw [List.drop_zero, List.take_of_length_le (by omega)]
  ·rename_i xs
   obtain ⟨_, _, rfl, rfl, rfl⟩ := hcs
   obtain ⟨hl, hdg0⟩ := hp ()
   obtain ⟨N, hv⟩ : ∃ N : Nat, valB 268435456 xs = N := ⟨(valB 268435456 xs).toNat, by have := (qcD _ hdg0).1; omega⟩
   refine ⟨1000, ?_⟩
   cbv
   refine qu hE hI hm (fun x : Nat × List Int × Nat × Nat => (mkT 35 [(1, .ptr 0 (.l 0)), (2, .val (.slice none 0 0)), (3, .sl 32 1 (.l 0) (.s x.2.2.1) (.s x.2.2.2)), (4, .int .i64 x.1)], [(32, .seq .u8 x.2.1), (0, .row .i64 16 xs)])) (fun z => z.1 <= 8 /\ z.2.1 = qR N (7 * z.1) /\ z.2.2.1 = 7 * z.1 /\ z.2.2.1 <= z.2.2.2) (fun x => 8 - x.1) 1 ⟨(0, [], 0, 0), [none], ⟨Nat.zero_le _, rfl, rfl, Nat.le_refl _⟩, by decide, ?_⟩ fun x hx => ⟨1000, ?_⟩
   ·cbv
    exact ⟨rfl, trivial⟩
   obtain ⟨i, u, n, c⟩ := x
   obtain ⟨hi, hu, hn, hc⟩ : i <= 8 /\ u = qR N (7 * i) /\ n = 7 * i /\ n <= c := hx
   cbv
   constructor
   ·intro hd
    cbv
    rw [hΩ] at hd; simp (disch := omega) only [Om.real, qc, decide_eq_true_eq, decide_eq_false_iff_not] at hd
    repeat (refine ⟨by ((try intro _); (try subst hΩ); simp (disch := omega) only [Om.real, qc, SN.v]; omega), ?_⟩)
    have hdg := dig2 (N := N) (i := i) hl hdg0 hv hd
    have b1 := hdg0 _ (qan (l := xs) (i := 2 * i) (by omega))
    have b2 := hdg0 _ (qan (l := xs) (i := 2 * i + 1) (by omega))
    obtain ⟨D, hD⟩ : ∃ D : Nat, D = N / 256 ^ (7 * i) % 72057594037927936 := ⟨_, rfl⟩
    rw [<- hD] at hdg
    have hDb : D < 72057594037927936 := by rw [hD]; exact Nat.mod_lt _ (by decide)
    have eD : binL .add .i64 (xs.getD (2 * i) 0) (binL .mul .i64 (xs.getD (2 * i + 1) 0) 268435456) = (D : Int) := by
     rw [qbB (by omega) (by omega), qD (by omega) (by omega)]; exact hdg
    refine qu hE hI hm (fun x : Nat × List Int × Nat × Nat × Nat => (mkT 35 [(1, .ptr 0 (.l 0)), (2, .val (.slice none 0 0)), (3, .sl 160 1 (.l 0) (.s x.2.2.1) (.s x.2.2.2.1)), (4, .int .i64 i), (5, .int .i64 x.2.2.2.2), (6, .int .i64 x.1)], [(160, .seq .u8 x.2.1), (0, .row .i64 16 xs)])) (fun z => z.1 <= 7 /\ z.2.1 = qR N (7 * i + z.1) /\ z.2.2.1 = 7 * i + z.1 /\ z.2.2.1 <= z.2.2.2.1 /\ z.2.2.2.2 = D / 256 ^ z.1) (fun x => 7 - x.1) 1 ⟨(0, u, n, c, D), [some 32], ⟨Nat.zero_le _, hu, hn, hc, (Nat.div_one D).symm⟩, by decide, ?_⟩ fun y hy => ⟨1000, ?_⟩
    ·cbv
     subst hΩ
     simp (disch := omega) only [Om.real, qc]
     exact ⟨eD, rfl, trivial⟩
    obtain ⟨k, v, m, c2, w⟩ := y
    obtain ⟨hk, hv2, hm', hc2, hw⟩ : k <= 7 /\ v = qR N (7 * i + k) /\ m = 7 * i + k /\ m <= c2 /\ w = D / 256 ^ k := hy
    have hvl : v.length = m := by rw [hv2, qc9, hm']
    have hwb : w <= D := by rw [hw]; exact Nat.div_le_self _ _
    cbv
    constructor
    ·intro he
     cbv
     rw [hΩ] at he; simp (disch := omega) only [Om.real, qc, decide_eq_true_eq, decide_eq_false_iff_not] at he
     constructor
     ·exact fun _ => (show (m + 1) * 1 <= 140737488355328 by omega)
     constructor
     ·exact fun _ => ⟨(show 0 + m * 1 <= v.length by omega), (show 0 + 1 * 1 <= 1 by omega)⟩
     intro cap hcap
     have hcap : m + 1 <= cap := hcap
     cbv
     obtain ⟨v', hv'⟩ : ∃ v', v' = qR N (7 * i + k + 1) := ⟨_, rfl⟩
     obtain ⟨w', hw'⟩ : ∃ w', w' = D / 256 ^ (k + 1) := ⟨_, rfl⟩
     obtain ⟨m2, hm2⟩ : ∃ m2, m2 = m + 1 := ⟨_, rfl⟩
     have ew : w' = w / 256 := by rw [hw', hw, Nat.pow_succ, Nat.div_div_eq_div_mul]
     have e1 : binL .quo .i64 (w : Int) 256 = (w' : Int) := by
      have e : ((w : Int)).tdiv 256 = (w' : Int) := by rw [Int.tdiv_eq_ediv_of_nonneg (by omega), ew]; omega
      rw [qe5 (by rw [e]; omega) (by rw [e]; omega), e]
     have e2 : IntKind.u8.wrap (binL .rem .i64 (w : Int) 256) = ((N / 256 ^ (7 * i + k) % 256 : Nat) : Int) := by
      have e : binL .rem .i64 (w : Int) 256 = (w : Int) % 256 := Int.tmod_eq_emod_of_nonneg (a := (w : Int)) (b := 256) (Int.natCast_nonneg w)
      rw [e, IntKind.wrap_u8, <- qgU N i k he, <- hD, <- hw]; omega
     refine ⟨(k + 1, v', m2, cap, w'), [some 224], ⟨he, hv', ?_, ?_, hw'⟩, by simp only; omega, by decide, ?_⟩
     ·show m2 = 7 * i + (k + 1); omega
     ·show m2 <= cap; omega
     cbv
     subst hΩ
     simp (disch := omega) only [Om.real, qc]
     refine ⟨hm2.symm, by rw [ew], trivial, ?_⟩
     refine ⟨?_, trivial⟩
     rw [List.drop_zero, List.take_of_length_le (by omega), hv', hv2, qns, IntKind.wrap_u8, <- qgU N i k he, <- hD, <- hw]
     congr 2
     omega
    ·intro he
     cbv
     rw [hΩ] at he; simp (disch := omega) only [Om.real, qc, decide_eq_true_eq, decide_eq_false_iff_not] at he
     have hk7 : k = 7 := by omega
     subst hk7
     refine ⟨(i + 1, v, m, c2), [some 160], ⟨hd, hv2, hm', hc2⟩, by simp only; omega, by decide, ?_⟩
     cbv
     subst hΩ
     simp (disch := omega) only [Om.real, qc]
     exact ⟨trivial, trivial⟩
   ·intro hd
    cbv
    rw [hΩ] at hd; simp (disch := omega) only [Om.real, qc, decide_eq_true_eq, decide_eq_false_iff_not] at hd
    have h8 : i = 8 := by omega
    subst h8
    have hul : u.length = n := by rw [hu, qc9, hn]
    refine hQ (u, c) _ _ _ ⟨hu.trans (by rw [hv]; rfl), by show u.length <= c; omega⟩ ?_
    refine ⟨rfl, rfl, by show 0 + n <= u.length; omega, ?_⟩
    subst hΩ
    show u = (u.drop 0).take n
    rw [List.drop_zero, List.take_of_length_le (by omega)]
end Go.Sx.Tryz
end
section

end
section

end
section

end
