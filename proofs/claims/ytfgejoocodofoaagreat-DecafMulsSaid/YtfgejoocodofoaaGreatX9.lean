/-
  Part of the proof of a statement: the means.
-/
import Derived.Test.YtfgejoocodofoaaGreatX8
import Derived.Test.YtfgejoocodofoaaGreatX5
import Derived.Test.YtfgejoocodofoaaGreatX6
set_option linter.unusedSectionVars false
set_option linter.unusedVariables false
set_option linter.unusedSimpArgs false
set_option linter.deprecated false
section
set_option maxHeartbeats 4000000
namespace Go.Sx.Tryz
open Go.Proofs
def qc8 (Ω : Om) : qd := fun args => match args with
 | [] => ⟨True, Unit, fun _ => True, fun _ => .row .i64 16 [268435455, 268435455, 268435455, 268435455, 268435455, 268435455, 268435455, 268435455, 268435454, 268435455, 268435455, 268435455, 268435455, 268435455, 268435455, 268435455]⟩
 | _ => PR.none
theorem qg0 : Ctr Tryz.prog T glob 122 (qc8 Om.real) := by
 refine qo T_ok qi qj (fun Ω => []) [] (fun Ω => []) [] qg qh qe qf Tryz.func122 (by rfl) (by kernel_rfl) Tryz.call122 ?_ ?_
 ·intro args; unfold qc8; split
  ·exact qr (by repeat' constructor) (fun _ _ => rfl) (by repeat' constructor)
  ·exact PR.good_none
 ·intro P Ω hΩ hE hI hm args pr hs hp Q hQ
  unfold qc8 at hs
  split at hs <;> subst hs <;> try (exact hp.elim)
  refine ⟨1000, ?_⟩
  cbv
  repeat (refine q9 hE hI hm (n := 1000) ?_; cbv)
  refine hQ () _ _ _ trivial ?_
  subst hΩ
  refine ⟨rfl, rfl, ?_⟩
  rfl
def qe9 (Ω : Om) : qd := fun args => match args with
 | [.row .i64 16 a] => ⟨∀ _ : Unit, a.length = 16 /\ (∀ x ∈ a, 0 <= x /\ x < 268435456), Unit, fun _ => True, fun _ => .bs (Ω.hide _ fun _ => decide (valB 268435456 a < 726838724295606890549323807888004534353641360687318060281490199180612328166730772686396383698676545930088884461843637361053498018365439))⟩
 | _ => PR.none
theorem qnC : Ctr Tryz.prog T glob 159 (qe9 Om.real) := by
 refine qo T_ok qi qj (fun Ω => [(122, qc8 Ω)]) [] (fun Ω => []) [] (qb qg0 qg) qh qe qf Tryz.func159 (by rfl) (by kernel_rfl) Tryz.call159 ?_ ?_
 ·intro args; unfold qe9; split
  ·exact qr (by repeat' constructor) (fun _ _ => rfl) (by repeat' constructor)
  ·exact PR.good_none
 ·intro P Ω hΩ hE hI hm args pr hs hp Q hQ
  unfold qe9 at hs
  split at hs <;> subst hs <;> try (exact hp.elim)
  rename_i a
  have hp := hp ()
  refine ⟨1000, ?_⟩
  cbv
  repeat (constructor; (first | exact fun _ => trivial | exact fun _ _ => (by decide)); intro _ _; cbv)
  obtain ⟨hl, hd⟩ := hp
  refine qv hE hI hm (fun z : Nat × Int => (mkT 24 [(0, .row .i64 16 a), (1, .ptr 0 (.l 0)), (2, .bl false), (3, .ptr 24 (.l 0)), (4, .int .i64 z.2)], [(0, .row .i64 16 a), (24, .row .i64 16 [268435455, 268435455, 268435455, 268435455, 268435455, 268435455, 268435455, 268435455, 268435454, 268435455, 268435455, 268435455, 268435455, 268435455, 268435455, 268435455])])) (fun z => z.1 <= 16 /\ z.2 = z.1 - 1 /\ a.drop z.1 = pL.drop z.1) (fun z => z.1) 0 ⟨(16, 15), [], ⟨Nat.le_refl _, rfl, by rw [List.drop_eq_nil_of_le (by omega)]; rfl⟩, Nat.zero_le _, by cbv⟩ fun z hz => ⟨1000, ?_⟩
  obtain ⟨n, i⟩ := z
  obtain ⟨hn, hi, hdr⟩ : n <= 16 /\ i = (n : Int) - 1 /\ a.drop n = pL.drop n := hz
  cbv
  constructor
  ·intro hc
   cbv
   have hi : i = (n : Int) - 1 := hi
   have hc' : i >= 0 := by rw [hΩ] at hc; exact of_decide_eq_true hc
   obtain ⟨m, rfl⟩ : ∃ m : Nat, i = m := ⟨i.toNat, by omega⟩
   repeat (refine ⟨by ((try intro _); (try subst hΩ); simp (disch := omega) only [Om.real, qk, SN.v]; omega), ?_⟩)
   have hmn : m < 16 := by omega
   have hm1 : n = m + 1 := by omega
   have ea : a.getD m 0 ∈ a := qX (by omega)
   constructor
   ·intro hne
    cbv
    repeat (refine ⟨by ((try intro _); (try subst hΩ); simp (disch := omega) only [Om.real, qk, SN.v]; omega), ?_⟩)
    refine hQ () _ _ _ trivial ?_
    subst hΩ
    have hne : (a.getD m 0 != pL.getD m 0) = true := hne
    rw [bne_iff_ne] at hne
    show decide (a.getD m 0 < pL.getD m 0) = decide _
    have hdr : a.drop (m + 1) = pL.drop (m + 1) := by rw [<- hm1]; exact hdr
    have hpd : ∀ a ∈ pL, 0 <= a /\ a < 268435456 := by decide
    rcases Int.lt_or_gt_of_ne hne with hlt | hgt
    ·have := qnt (by rw [hl]; rfl) hd hpd (by omega) hdr hlt
     rw [qe6] at this
     rw [decide_eq_true hlt, decide_eq_true this]
    ·have := qnt (by rw [hl]; rfl) hpd hd (show m < 16 from hmn) hdr.symm hgt
     rw [qe6] at this
     rw [decide_eq_false (by omega), decide_eq_false (by omega)]
   ·intro hne
    cbv
    obtain ⟨i2, hi2⟩ : ∃ i2 : Int, i2 = (m : Int) - 1 := ⟨_, rfl⟩
    refine ⟨(m, i2), [], ⟨by omega, hi2, ?_⟩, by simp only; omega, Nat.zero_le _, ?_⟩
    ·subst hΩ
     have hne : (a.getD m 0 != pL.getD m 0) = false := hne
     rw [bne_eq_false_iff_eq] at hne
     exact qrF (by omega) hmn (by rw [<- hm1]; exact hdr) hne
    ·cbv
     subst hΩ
     refine ⟨?_, trivial⟩
     rw [hi2]
     show binL .sub .i64 (m : Int) 1 = (m : Int) - 1
     exact qx (by omega) (by omega)
  ·intro hc
   cbv
   have hi : i = (n : Int) - 1 := hi
   have hc' : ¬ i >= 0 := by rw [hΩ] at hc; exact of_decide_eq_false hc
   have h0 : n = 0 := by omega
   subst h0
   refine hQ () _ _ _ trivial ?_
   subst hΩ
   show false = decide _
   have e : a = pL := hdr
   rw [e, qe6]
   exact (decide_eq_false (Int.lt_irrefl _)).symm
end Go.Sx.Tryz
end
section
set_option maxHeartbeats 4000000
namespace Go.Sx.Tryz
open Go.Proofs
def qg1 (Ω : Om) : qd := fun args => match args with
 | [.row .i64 16 a] => ⟨∀ _ : Unit, a.length = 16 /\ (∀ x ∈ a, -4611686018427387904 < x /\ x < 4611686018427387904) /\ 0 <= valB 268435456 a /\ valB 268435456 a < 726838724295606890549323807888004534353641360687318060281490199180612328166730772686396383698676545930088884461843637361053498018365439, Unit, fun _ => True, fun _ => .ab (.re (Ω.hide _ fun _ => fI (valB 268435456 a)))⟩
 | _ => PR.none
theorem qrI : Ctr Tryz.prog T glob 106 (qg1 Om.real) := by
 refine qo T_ok qi qj (fun Ω => [(159, qe9 Ω)]) [] (fun Ω => []) [] (qb qnC qg) qh qe qf Tryz.func106 (by rfl) (by kernel_rfl) Tryz.call106 ?_ ?_
 ·intro args; unfold qg1; split
  ·exact qr (by repeat' constructor) (fun _ _ => rfl) (by repeat' constructor)
  ·exact PR.good_none
 ·intro P Ω hΩ hE hI hm args pr hs hp Q hQ
  unfold qg1 at hs
  split at hs <;> subst hs <;> try (exact hp.elim)
  rename_i a
  obtain ⟨hl, hb, hv0, hv1⟩ := hp ()
  refine ⟨1000, ?_⟩
  cbv
  refine qv hE hI hm (fun z : Nat × List Int × Int => (mkT 68 [(1, .ptr 0 (.l 0)), (2, .ptr 8 (.l 0)), (3, .int .i64 z.2.2)], [(8, .row .i64 16 [0, 0, 0, 0, 0, 0, 0, 0, 0, 0, 0, 0, 0, 0, 0, 0]), (0, .row .i64 16 z.2.1)])) (fun z => Rp (valB 268435456 a) z.1 z.2.1 z.2.2 /\ valB 268435456 z.2.1 = valB 268435456 a) (fun z => z.1) 0 ⟨(3, a, 1), [], ⟨Rp.start hl hb, rfl⟩, Nat.zero_le _, by cbv⟩ fun z hz => ⟨1000, ?_⟩
  obtain ⟨k, u, o⟩ := z
  obtain ⟨hR, hx⟩ : Rp (valB 268435456 a) k u o /\ valB 268435456 u = valB 268435456 a := hz
  cbv
  constructor
  ·intro hc
   cbv
   have ho : o ≠ 0 := by subst hΩ; exact bne_iff_ne.1 (show (o != 0) = true from hc)
   obtain ⟨hk, hR'⟩ := hR.step ho
   have hub := hR.bd
   have hul := hR.len
   refine qv hE hI hm (fun z : Nat × Int × List Int => (mkT 68 [(1, .ptr 0 (.l 0)), (2, .ptr 8 (.l 0)), (3, .int .i64 z.2.1), (4, .int .i64 z.1)], [(8, .row .i64 16 [0, 0, 0, 0, 0, 0, 0, 0, 0, 0, 0, 0, 0, 0, 0, 0]), (0, .row .i64 16 z.2.2)])) (fun z => z.1 <= 16 /\ z.2.1 = rov u z.1 /\ z.2.2 = rst u z.1) (fun z => 16 - z.1) 0 ⟨(0, 0, u), [], ⟨Nat.zero_le _, rfl, (qnn u).symm⟩, Nat.zero_le _, by cbv; exact ⟨rfl, trivial⟩⟩ fun z hz => ⟨1000, ?_⟩
   obtain ⟨i, c, v⟩ := z
   obtain ⟨hi, hcv, hv⟩ : i <= 16 /\ c = rov u i /\ v = rst u i := hz
   cbv
   constructor
   ·intro hc2
    cbv
    rw [hΩ] at hc2; simp (disch := omega) only [Om.real, qk, decide_eq_true_eq, decide_eq_false_iff_not] at hc2
    have hcb := qe4 hub i
    rw [<- hcv] at hcb
    have hvl : v.length = 16 := by rw [hv, qbS, hul]
    have hvi : v.getD i 0 = u.getD i 0 := by rw [hv]; exact qno (by omega)
    have hui := hub _ (qX (l := u) (i := i) (by omega))
    obtain ⟨n, hn⟩ : ∃ n, n = u.getD i 0 + c := ⟨_, rfl⟩
    have hadd : binL .add .i64 (v.getD i 0) c = n := by rw [hvi, hn]; exact qu (by omega) (by omega)
    obtain ⟨v2, hv2⟩ : ∃ v2, v2 = rst u (i + 1) := ⟨_, rfl⟩
    obtain ⟨c2, hc2'⟩ : ∃ c2, c2 = rov u (i + 1) := ⟨_, rfl⟩
    have ev2 : v2 = v.set i (n % 268435456) := by rw [hv2, qnp (by omega), <- hv, <- hcv, <- hn]
    have ec2 : c2 = n / 268435456 := by rw [hc2', qnq (by omega), <- hcv, <- hn]
    repeat (refine ⟨by ((try intro _); (try subst hΩ); simp (disch := omega) only [Om.real, qk, SN.v]; omega), ?_⟩)
    constructor
    ·intro hc3
     cbv
     repeat (refine ⟨by ((try intro _); (try subst hΩ); simp (disch := omega) only [Om.real, qk, SN.v]; omega), ?_⟩)
     have hpn := qnv (v := v) (i := i) (c := c) (n := n) (by omega) hadd (by omega) (by omega) (by subst hΩ; exact hc3)
     refine ⟨(i + 1, c2, v2), [], ⟨by omega, hc2', hv2⟩, by simp only; omega, Nat.zero_le _, ?_⟩
     cbv
     subst hΩ
     simp (disch := omega) only [Om.real, qk]
     exact ⟨hpn.2.trans ec2.symm, trivial, hpn.1.trans ev2.symm⟩
    ·intro hc3
     cbv
     repeat (refine ⟨by ((try intro _); (try subst hΩ); simp (disch := omega) only [Om.real, qk, SN.v]; omega), ?_⟩)
     have hpn := qnw (v := v) (i := i) (c := c) (n := n) (by omega) hadd (by omega) (by omega) (by subst hΩ; exact hc3)
     refine ⟨(i + 1, c2, v2), [], ⟨by omega, hc2', hv2⟩, by simp only; omega, Nat.zero_le _, ?_⟩
     cbv
     subst hΩ
     simp (disch := omega) only [Om.real, qk]
     exact ⟨hpn.2.trans ec2.symm, trivial, hpn.1.trans ev2.symm⟩
   ·intro hc2
    cbv
    rw [hΩ] at hc2; simp (disch := omega) only [Om.real, qk, decide_eq_true_eq, decide_eq_false_iff_not] at hc2
    have h16 : i = 16 := by omega
    subst h16
    obtain ⟨u2, hu2⟩ : ∃ u2, u2 = qbf u := ⟨_, rfl⟩
    have ef := qnA hul hub
    rw [<- hv, <- hcv] at ef
    refine ⟨(k - 1, u2, c), [], ⟨(by rw [hu2, hcv]; exact hR'), (by rw [hu2, qnr hul, Rp.one hul (by rw [hx]; exact hv0) (by rw [hx]; exact hv1), hx]; omega)⟩, by simp only; omega, Nat.zero_le _, ?_⟩
    cbv
    subst hΩ
    exact ef.trans hu2.symm
  ·intro hc
   cbv
   have ho : o = 0 := by subst hΩ; exact bne_eq_false_iff_eq.1 (show (o != 0) = false from hc)
   subst ho
   obtain ⟨hd, ⟨hv0', hv1'⟩, hfi⟩ := hR.done
   constructor
   ·exact fun _ _ => ⟨hR.len, hd⟩
   intro _ _
   cbv
   constructor
   ·intro hc2
    cbv
    refine hQ () _ _ _ trivial ?_
    subst hΩ
    have hlt : valB 268435456 u < 726838724295606890549323807888004534353641360687318060281490199180612328166730772686396383698676545930088884461843637361053498018365439 := by rw [hx]; exact hv1
    obtain ⟨q1, q2, q3⟩ := qnB hR.len hd hlt hfi
    exact ⟨rfl, q1, q2, q3⟩
   ·intro hc2
    exfalso
    subst hΩ
    have := of_decide_eq_false hc2
    rw [hx] at this
    exact this hv1
end Go.Sx.Tryz
end
section
set_option maxHeartbeats 4000000
namespace Go.Sx.Tryz
open Go.Proofs
def qcu (Ω : Om) : qd := fun args => match args with
 | [.row .i64 16 a] => ⟨∀ _ : Unit, a.length = 16 /\ (∀ x ∈ a, -4611686018427387904 < x /\ x < 4611686018427387904), Unit, fun _ => True, fun _ => .ab (.re (Ω.hide _ fun _ => fI (valB 268435456 a)))⟩
 | _ => PR.none
theorem qfa : Ctr Tryz.prog T glob 106 (qcu Om.real) := by
 refine qo T_ok qi qj (fun Ω => [(159, qe9 Ω), (122, qc8 Ω), (106, qg1 Ω)]) [] (fun Ω => []) [] (qb qnC (qb qg0 (qb qrI qg))) qh qe qf Tryz.func106 (by rfl) (by kernel_rfl) Tryz.call106 ?_ ?_
 ·intro args; unfold qcu; split
  ·exact qr (by repeat' constructor) (fun _ _ => rfl) (by repeat' constructor)
  ·exact PR.good_none
 ·intro P Ω hΩ hE hI hm args pr hs hp Q hQ
  unfold qcu at hs
  split at hs <;> subst hs <;> try (exact hp.elim)
  rename_i a
  obtain ⟨hl, hb⟩ := hp ()
  refine ⟨1000, ?_⟩
  cbv
  refine qv hE hI hm (fun z : Nat × List Int × Int => (mkT 68 [(1, .ptr 0 (.l 0)), (2, .ptr 8 (.l 0)), (3, .int .i64 z.2.2)], [(8, .row .i64 16 [0, 0, 0, 0, 0, 0, 0, 0, 0, 0, 0, 0, 0, 0, 0, 0]), (0, .row .i64 16 z.2.1)])) (fun z => Rp (valB 268435456 a) z.1 z.2.1 z.2.2 /\ True) (fun z => z.1) 0 ⟨(3, a, 1), [], ⟨Rp.start hl hb, trivial⟩, Nat.zero_le _, by cbv⟩ fun z hz => ⟨1000, ?_⟩
  obtain ⟨k, u, o⟩ := z
  obtain ⟨hR, hx⟩ : Rp (valB 268435456 a) k u o /\ True := hz
  cbv
  constructor
  ·intro hc
   cbv
   have ho : o ≠ 0 := by subst hΩ; exact bne_iff_ne.1 (show (o != 0) = true from hc)
   obtain ⟨hk, hR'⟩ := hR.step ho
   have hub := hR.bd
   have hul := hR.len
   refine qv hE hI hm (fun z : Nat × Int × List Int => (mkT 68 [(1, .ptr 0 (.l 0)), (2, .ptr 8 (.l 0)), (3, .int .i64 z.2.1), (4, .int .i64 z.1)], [(8, .row .i64 16 [0, 0, 0, 0, 0, 0, 0, 0, 0, 0, 0, 0, 0, 0, 0, 0]), (0, .row .i64 16 z.2.2)])) (fun z => z.1 <= 16 /\ z.2.1 = rov u z.1 /\ z.2.2 = rst u z.1) (fun z => 16 - z.1) 0 ⟨(0, 0, u), [], ⟨Nat.zero_le _, rfl, (qnn u).symm⟩, Nat.zero_le _, by cbv; exact ⟨rfl, trivial⟩⟩ fun z hz => ⟨1000, ?_⟩
   obtain ⟨i, c, v⟩ := z
   obtain ⟨hi, hcv, hv⟩ : i <= 16 /\ c = rov u i /\ v = rst u i := hz
   cbv
   constructor
   ·intro hc2
    cbv
    rw [hΩ] at hc2; simp (disch := omega) only [Om.real, qk, decide_eq_true_eq, decide_eq_false_iff_not] at hc2
    have hcb := qe4 hub i
    rw [<- hcv] at hcb
    have hvl : v.length = 16 := by rw [hv, qbS, hul]
    have hvi : v.getD i 0 = u.getD i 0 := by rw [hv]; exact qno (by omega)
    have hui := hub _ (qX (l := u) (i := i) (by omega))
    obtain ⟨n, hn⟩ : ∃ n, n = u.getD i 0 + c := ⟨_, rfl⟩
    have hadd : binL .add .i64 (v.getD i 0) c = n := by rw [hvi, hn]; exact qu (by omega) (by omega)
    obtain ⟨v2, hv2⟩ : ∃ v2, v2 = rst u (i + 1) := ⟨_, rfl⟩
    obtain ⟨c2, hc2'⟩ : ∃ c2, c2 = rov u (i + 1) := ⟨_, rfl⟩
    have ev2 : v2 = v.set i (n % 268435456) := by rw [hv2, qnp (by omega), <- hv, <- hcv, <- hn]
    have ec2 : c2 = n / 268435456 := by rw [hc2', qnq (by omega), <- hcv, <- hn]
    repeat (refine ⟨by ((try intro _); (try subst hΩ); simp (disch := omega) only [Om.real, qk, SN.v]; omega), ?_⟩)
    constructor
    ·intro hc3
     cbv
     repeat (refine ⟨by ((try intro _); (try subst hΩ); simp (disch := omega) only [Om.real, qk, SN.v]; omega), ?_⟩)
     have hpn := qnv (v := v) (i := i) (c := c) (n := n) (by omega) hadd (by omega) (by omega) (by subst hΩ; exact hc3)
     refine ⟨(i + 1, c2, v2), [], ⟨by omega, hc2', hv2⟩, by simp only; omega, Nat.zero_le _, ?_⟩
     cbv
     subst hΩ
     simp (disch := omega) only [Om.real, qk]
     exact ⟨hpn.2.trans ec2.symm, trivial, hpn.1.trans ev2.symm⟩
    ·intro hc3
     cbv
     repeat (refine ⟨by ((try intro _); (try subst hΩ); simp (disch := omega) only [Om.real, qk, SN.v]; omega), ?_⟩)
     have hpn := qnw (v := v) (i := i) (c := c) (n := n) (by omega) hadd (by omega) (by omega) (by subst hΩ; exact hc3)
     refine ⟨(i + 1, c2, v2), [], ⟨by omega, hc2', hv2⟩, by simp only; omega, Nat.zero_le _, ?_⟩
     cbv
     subst hΩ
     simp (disch := omega) only [Om.real, qk]
     exact ⟨hpn.2.trans ec2.symm, trivial, hpn.1.trans ev2.symm⟩
   ·intro hc2
    cbv
    rw [hΩ] at hc2; simp (disch := omega) only [Om.real, qk, decide_eq_true_eq, decide_eq_false_iff_not] at hc2
    have h16 : i = 16 := by omega
    subst h16
    obtain ⟨u2, hu2⟩ : ∃ u2, u2 = qbf u := ⟨_, rfl⟩
    have ef := qnA hul hub
    rw [<- hv, <- hcv] at ef
    refine ⟨(k - 1, u2, c), [], ⟨(by rw [hu2, hcv]; exact hR'), trivial⟩, by simp only; omega, Nat.zero_le _, ?_⟩
    cbv
    subst hΩ
    exact ef.trans hu2.symm
  ·intro hc
   cbv
   have ho : o = 0 := by subst hΩ; exact bne_eq_false_iff_eq.1 (show (o != 0) = false from hc)
   subst ho
   obtain ⟨hd, ⟨hv0', hv1'⟩, hfi⟩ := hR.done
   constructor
   ·exact fun _ _ => ⟨hR.len, hd⟩
   intro _ _
   cbv
   constructor
   ·intro hc2
    cbv
    refine hQ () _ _ _ trivial ?_
    subst hΩ
    have hlt := of_decide_eq_true (show decide (valB 268435456 u < 726838724295606890549323807888004534353641360687318060281490199180612328166730772686396383698676545930088884461843637361053498018365439) = true from hc2)
    obtain ⟨q1, q2, q3⟩ := qnB hR.len hd hlt hfi
    exact ⟨rfl, q1, q2, q3⟩
   ·intro hc2
    have hge : ¬ valB 268435456 u < 726838724295606890549323807888004534353641360687318060281490199180612328166730772686396383698676545930088884461843637361053498018365439 := by
     subst hΩ
     exact of_decide_eq_false hc2
    cbv
    constructor
    ·exact fun _ => trivial
    intro _ _
    cbv
    refine qv hE hI hm (fun z : Nat × List Int => (mkT 68 [(1, .ptr 0 (.l 0)), (2, .ptr 8 (.l 0)), (6, .ptr 64 (.l 0)), (7, .int .i64 z.1)], [(64, .row .i64 16 pL), (8, .row .i64 16 [0, 0, 0, 0, 0, 0, 0, 0, 0, 0, 0, 0, 0, 0, 0, 0]), (0, .row .i64 16 z.2)])) (fun z => z.1 <= 16 /\ z.2 = zst (fun x y => x - y) u pL z.1) (fun z => 16 - z.1) 0 ⟨(0, u), [], ⟨Nat.zero_le _, (qjA _ _ _).symm⟩, Nat.zero_le _, by cbv; exact ⟨rfl, trivial⟩⟩ fun z hz => ⟨1000, ?_⟩
    obtain ⟨i, v⟩ := z
    obtain ⟨hi, hv⟩ : i <= 16 /\ v = zst (fun x y => x - y) u pL i := hz
    have hul := hR.len
    have hpl : u.length = pL.length := hul
    cbv
    constructor
    ·intro hc3
     cbv
     rw [hΩ] at hc3; simp (disch := omega) only [Om.real, qk, decide_eq_true_eq, decide_eq_false_iff_not] at hc3
     have hvl : v.length = 16 := by rw [hv, qjB hpl, hul]
     have hvi : v.getD i 0 = u.getD i 0 := by rw [hv]; exact qjC hpl (by omega)
     have hui := hd _ (qX (l := u) (i := i) (by omega))
     have hpi := qe8 _ (qX (l := pL) (i := i) hc3)
     obtain ⟨v2, hv2⟩ : ∃ v2, v2 = zst (fun x y => x - y) u pL (i + 1) := ⟨_, rfl⟩
     have ev2 : v.set i (binL .sub .i64 (v.getD i 0) (pL.getD i 0)) = v2 := by
      rw [hv2, qjD hpl (by omega), <- hv, hvi, qx (by omega) (by omega)]
     repeat (refine ⟨by ((try intro _); (try subst hΩ); simp (disch := omega) only [Om.real, qk, SN.v]; omega), ?_⟩)
     refine ⟨(i + 1, v2), [], ⟨by omega, hv2⟩, by simp only; omega, Nat.zero_le _, ?_⟩
     cbv
     subst hΩ
     simp (disch := omega) only [Om.real, qk]
     exact ⟨trivial, ev2⟩
    ·intro hc3
     cbv
     rw [hΩ] at hc3; simp (disch := omega) only [Om.real, qk, decide_eq_true_eq, decide_eq_false_iff_not] at hc3
     have h16 : i = 16 := by omega
     subst h16
     have ev : v = List.zipWith (fun x y => x - y) u pL := by rw [hv]; exact qjE hpl (by omega)
     have hval : valB 268435456 v = valB 268435456 u - 726838724295606890549323807888004534353641360687318060281490199180612328166730772686396383698676545930088884461843637361053498018365439 := by rw [ev, qnx _ _ hpl, qe6]
     have hvb : ∀ x ∈ v, -4611686018427387904 < x /\ x < 4611686018427387904 := by
      rw [ev]
      refine qgZ _ _ hpl fun x hx y hy => ?_
      have := hd x hx
      have := qe8 y hy
      omega
     constructor
     ·exact fun _ _ => ⟨by rw [ev, List.length_zipWith, <- hpl, hul]; rfl, hvb, by rw [hval]; omega, by rw [hval]; omega⟩
     intro _ _
     cbv
     refine hQ () _ _ _ trivial ?_
     subst hΩ
     have e : fI (valB 268435456 v) = fI (valB 268435456 a) := by rw [hval, qjd, hfi, show (726838724295606890549323807888004534353641360687318060281490199180612328166730772686396383698676545930088884461843637361053498018365439 : Int) = 1 * 726838724295606890549323807888004534353641360687318060281490199180612328166730772686396383698676545930088884461843637361053498018365439 from rfl, fI_p]; grind -lia -linarith -order -ac (splits := 0)
     show Pay.re (fI (valB 268435456 v)) = Pay.re (fI (valB 268435456 a))
     rw [e]
end Go.Sx.Tryz
end
section
set_option maxHeartbeats 4000000
namespace Go.Sx.Tryz
open Go.Proofs
set_option maxRecDepth 40000
def qdR (Ω : Om) : qd := fun args => match args with
 | [.ab (.re x), .ab (.re y)] => ⟨True, Unit, fun _ => True, fun _ => .ab (.re (Ω.hide _ fun _ => x + y))⟩
 | _ => PR.none
theorem qjM : Ctr Tryz.prog T glob 44 (qdR Om.real) := by
 refine qal T_ok qi qj (fun Ω => [(106, qcu Ω)]) [] (fun Ω => []) [] (qb qfa qg) qh qe qf Tryz.func44 (by rfl) (by kernel_rfl) Tryz.call44 ?_ ?_
 ·intro args; unfold qdR; split
  ·exact qr (by repeat' constructor) (fun _ _ => rfl) (by repeat' constructor)
  ·exact PR.good_none
 ·intro P Ω hΩ hE hI hm args pr hs hp cs hcs Q hQ
  unfold qdR at hs
  split at hs <;> subst hs <;> try (exact hp.elim)
  rename_i x y
  obtain ⟨_, _, rfl, ⟨xs, rfl, hx⟩, _, _, rfl, ⟨ys, rfl, hy⟩, rfl⟩ := hcs
  obtain ⟨hxl, hxd, hxv⟩ : okRe x xs := hx
  obtain ⟨hyl, hyd, hyv⟩ : okRe y ys := hy
  have hpl : xs.length = ys.length := hxl.trans hyl.symm
  refine ⟨1000, ?_⟩
  cbv
  refine qv hE hI hm (fun z : Nat × List Int => (mkT 21 [(2, .ptr 0 (.l 0)), (3, .ptr 8 (.l 0)), (4, .ptr 16 (.l 0)), (5, .int .i64 z.1)], [(16, .row .i64 16 [0, 0, 0, 0, 0, 0, 0, 0, 0, 0, 0, 0, 0, 0, 0, 0]), (8, .row .i64 16 ys), (0, .row .i64 16 z.2)])) (fun z => z.1 <= 16 /\ z.2 = zst (fun x y => x + y) xs ys z.1) (fun z => 16 - z.1) 0 ⟨(0, xs), [], ⟨Nat.zero_le _, (qjA _ _ _).symm⟩, Nat.zero_le _, by cbv; exact ⟨rfl, trivial⟩⟩ fun z hz => ⟨1000, ?_⟩
  obtain ⟨i, v⟩ := z
  obtain ⟨hi, hv⟩ : i <= 16 /\ v = zst (fun x y => x + y) xs ys i := hz
  cbv
  constructor
  ·intro hc3
   cbv
   rw [hΩ] at hc3; simp (disch := omega) only [Om.real, qk, decide_eq_true_eq, decide_eq_false_iff_not] at hc3
   have hvl : v.length = 16 := by rw [hv, qjB hpl, hxl]
   have hvi : v.getD i 0 = xs.getD i 0 := by rw [hv]; exact qjC hpl (by omega)
   have hui := hxd _ (qX (l := xs) (i := i) (by omega))
   have hpi := hyd _ (qX (l := ys) (i := i) (by omega))
   obtain ⟨v2, hv2⟩ : ∃ v2, v2 = zst (fun x y => x + y) xs ys (i + 1) := ⟨_, rfl⟩
   have ev2 : v.set i (binL .add .i64 (v.getD i 0) (ys.getD i 0)) = v2 := by
    rw [hv2, qjD hpl (by omega), <- hv, hvi, qu (by omega) (by omega)]
   repeat (refine ⟨by ((try intro _); (try subst hΩ); simp (disch := omega) only [Om.real, qk, SN.v]; omega), ?_⟩)
   refine ⟨(i + 1, v2), [], ⟨by omega, hv2⟩, by simp only; omega, Nat.zero_le _, ?_⟩
   cbv
   subst hΩ
   simp (disch := omega) only [Om.real, qk]
   exact ⟨trivial, ev2⟩
  ·intro hc3
   cbv
   rw [hΩ] at hc3; simp (disch := omega) only [Om.real, qk, decide_eq_true_eq, decide_eq_false_iff_not] at hc3
   have h16 : i = 16 := by omega
   subst h16
   have ev : v = List.zipWith (fun x y => x + y) xs ys := by rw [hv]; exact qjE hpl (by omega)
   have hval : valB 268435456 v = valB 268435456 xs + valB 268435456 ys := by rw [ev, qny _ _ hpl]
   constructor
   ·intro _ _
    refine ⟨by rw [ev, List.length_zipWith, <- hpl, hxl]; rfl, ?_⟩
    rw [ev]
    refine qgZ _ _ hpl fun x hx y hy => ?_
    have := hxd x hx
    have := hyd y hy
    omega
   intro _ _
   cbv
   refine hQ () _ _ _ trivial ?_
   subst hΩ
   show Pay.re (fI (valB 268435456 v)) = Pay.re (x + y)
   rw [hval, qaN, hxv, hyv, qcY, qcY]
def qcv (Ω : Om) : qd := fun args => match args with
 | [.ab (.re y)] => ⟨True, Unit, fun _ => True, fun _ => .ab (.re (Ω.hide _ fun _ => -y))⟩
 | _ => PR.none
theorem qfc : Ctr Tryz.prog T glob 78 (qcv Om.real) := by
 refine qal T_ok qi qj (fun Ω => [(106, qcu Ω), (122, qc8 Ω)]) [] (fun Ω => []) [] (qb qfa (qb qg0 qg)) qh qe qf Tryz.func78 (by rfl) (by kernel_rfl) Tryz.call78 ?_ ?_
 ·intro args; unfold qcv; split
  ·exact qr (by repeat' constructor) (fun _ _ => rfl) (by repeat' constructor)
  ·exact PR.good_none
 ·intro P Ω hΩ hE hI hm args pr hs hp cs hcs Q hQ
  unfold qcv at hs
  split at hs <;> subst hs <;> try (exact hp.elim)
  rename_i y
  obtain ⟨_, _, rfl, ⟨ys, rfl, hy⟩, rfl⟩ := hcs
  obtain ⟨hyl, hyd, hyv⟩ : okRe y ys := hy
  have hpl : ys.length = pL.length := hyl
  refine ⟨1000, ?_⟩
  cbv
  repeat (constructor; (first | exact fun _ => trivial | exact fun _ _ => (by decide)); intro _ _; cbv)
  refine qv hE hI hm (fun z : Nat × List Int => (mkT 21 [(1, .ptr 0 (.l 0)), (2, .ptr 8 (.l 0)), (3, .ptr 24 (.l 0)), (4, .int .i64 z.1)], [(24, .row .i64 16 pL), (8, .row .i64 16 [0, 0, 0, 0, 0, 0, 0, 0, 0, 0, 0, 0, 0, 0, 0, 0]), (0, .row .i64 16 z.2)])) (fun z => z.1 <= 16 /\ z.2 = zst (fun x y => y - x) ys pL z.1) (fun z => 16 - z.1) 0 ⟨(0, ys), [], ⟨Nat.zero_le _, (qjA _ _ _).symm⟩, Nat.zero_le _, by cbv; exact ⟨rfl, trivial⟩⟩ fun z hz => ⟨1000, ?_⟩
  obtain ⟨i, v⟩ := z
  obtain ⟨hi, hv⟩ : i <= 16 /\ v = zst (fun x y => y - x) ys pL i := hz
  cbv
  constructor
  ·intro hc3
   cbv
   rw [hΩ] at hc3; simp (disch := omega) only [Om.real, qk, decide_eq_true_eq, decide_eq_false_iff_not] at hc3
   have hvl : v.length = 16 := by rw [hv, qjB hpl, hyl]
   have hvi : v.getD i 0 = ys.getD i 0 := by rw [hv]; exact qjC hpl (by omega)
   have hui := hyd _ (qX (l := ys) (i := i) (by omega))
   have hpi := qe8 _ (qX (l := pL) (i := i) hc3)
   obtain ⟨v2, hv2⟩ : ∃ v2, v2 = zst (fun x y => y - x) ys pL (i + 1) := ⟨_, rfl⟩
   have ev2 : v.set i (binL .sub .i64 (pL.getD i 0) (v.getD i 0)) = v2 := by
    rw [hv2, qjD hpl (by omega), <- hv, hvi, qx (by omega) (by omega)]
   repeat (refine ⟨by ((try intro _); (try subst hΩ); simp (disch := omega) only [Om.real, qk, SN.v]; omega), ?_⟩)
   refine ⟨(i + 1, v2), [], ⟨by omega, hv2⟩, by simp only; omega, Nat.zero_le _, ?_⟩
   cbv
   subst hΩ
   simp (disch := omega) only [Om.real, qk]
   exact ⟨trivial, ev2⟩
  ·intro hc3
   cbv
   rw [hΩ] at hc3; simp (disch := omega) only [Om.real, qk, decide_eq_true_eq, decide_eq_false_iff_not] at hc3
   have h16 : i = 16 := by omega
   subst h16
   have ev : v = List.zipWith (fun x y => y - x) ys pL := by rw [hv]; exact qjE hpl (by omega)
   have hval : valB 268435456 v = 726838724295606890549323807888004534353641360687318060281490199180612328166730772686396383698676545930088884461843637361053498018365439 - valB 268435456 ys := by rw [ev, qnz _ _ hpl, qe6]
   constructor
   ·intro _ _
    refine ⟨by rw [ev, List.length_zipWith, <- hpl, hyl]; rfl, ?_⟩
    rw [ev]
    refine qgZ _ _ hpl fun x hx y hy => ?_
    have := hyd x hx
    have := qe8 y hy
    omega
   intro _ _
   cbv
   refine hQ () _ _ _ trivial ?_
   subst hΩ
   show Pay.re (fI (valB 268435456 v)) = Pay.re (-y)
   rw [hval, qjd, hyv, qcY, show (726838724295606890549323807888004534353641360687318060281490199180612328166730772686396383698676545930088884461843637361053498018365439 : Int) = 1 * 726838724295606890549323807888004534353641360687318060281490199180612328166730772686396383698676545930088884461843637361053498018365439 from rfl, fI_p]
   (first | (congr 1; done) | (congr 1; grind -lia -linarith -order -ac (splits := 0)))
def qfd (Ω : Om) : qd := fun args => match args with
 | [.ab (.re x), .ab (.re y)] => ⟨True, Unit, fun _ => True, fun _ => .ab (.re (Ω.hide _ fun _ => x - y))⟩
 | _ => PR.none
theorem qnJ : Ctr Tryz.prog T glob 45 (qfd Om.real) := by
 refine qo T_ok qi qj (fun Ω => [(44, qdR Ω), (78, qcv Ω)]) [] (fun Ω => []) [] (qb qjM (qb qfc qg)) qh qe qf Tryz.func45 (by rfl) (by kernel_rfl) Tryz.call45 ?_ ?_
 ·intro args; unfold qfd; split
  ·exact qr (by repeat' constructor) (fun _ _ => rfl) (by repeat' constructor)
  ·exact PR.good_none
 ·intro P Ω hΩ hE hI hm args pr hs hp Q hQ
  unfold qfd at hs
  split at hs <;> subst hs <;> try (exact hp.elim)
  rename_i x y
  refine ⟨1000, ?_⟩
  cbv
  repeat (constructor; (first | exact fun _ => trivial | exact fun _ _ => (by decide)); intro _ _; cbv)
  refine hQ () _ _ _ trivial ?_
  subst hΩ
  show Pay.re (x + -y) = Pay.re (x - y)
  (first | (congr 1; done) | (congr 1; grind -lia -linarith -order -ac (splits := 0)))
def qg6 (Ω : Om) : qd := fun args => match args with
 | [.ab (.re x), .ab (.re y)] => ⟨True, Unit, fun _ => True, fun _ => .bs (Ω.hide _ fun _ => decide (x = y))⟩
 | _ => PR.none
theorem qr8 : Ctr Tryz.prog T glob 73 (qg6 Om.real) := by
 refine qal T_ok qi qj (fun Ω => []) [] (fun Ω => []) [] qg qh qe qf Tryz.func73 (by rfl) (by kernel_rfl) Tryz.call73 ?_ ?_
 ·intro args; unfold qg6; split
  ·exact qr (by repeat' constructor) (fun _ _ => rfl) (by repeat' constructor)
  ·exact PR.good_none
 ·intro P Ω hΩ hE hI hm args pr hs hp cs hcs Q hQ
  unfold qg6 at hs
  split at hs <;> subst hs <;> try (exact hp.elim)
  rename_i x y
  obtain ⟨_, _, rfl, ⟨xs, rfl, hx⟩, _, _, rfl, ⟨ys, rfl, hy⟩, rfl⟩ := hcs
  refine ⟨1000, ?_⟩
  cbv
  refine hQ () _ _ _ trivial ?_
  subst hΩ
  exact qr7 hx hy
end Go.Sx.Tryz
end
section
set_option maxHeartbeats 4000000
namespace Go.Sx.Tryz
open Go.Proofs
set_option maxRecDepth 40000
def qbC (Ω : Om) : qd := fun args => match args with
 | [.ab (.re x), .ab (.re y)] => ⟨True, Unit, fun _ => True, fun _ => .ab (.re (Ω.hide _ fun _ => x * y))⟩
 | _ => PR.none
theorem qda : Ctr Tryz.prog T glob 43 (qbC Om.real) := by
 refine qal T_ok qi qj (fun Ω => [(106, qcu Ω)]) [] (fun Ω => []) [] (qb qfa qg) qh qe qf Tryz.func43 (by rfl) (by kernel_rfl) Tryz.call43 ?_ ?_
 ·intro args; unfold qbC; split
  ·exact qr (by repeat' constructor) (fun _ _ => rfl) (by repeat' constructor)
  ·exact PR.good_none
 ·intro P Ω hΩ hE hI hm args pr hs hp cs hcs Q hQ
  unfold qbC at hs
  split at hs <;> subst hs <;> try (exact hp.elim)
  rename_i x y
  obtain ⟨_, _, rfl, ⟨xs, rfl, hx⟩, _, _, rfl, ⟨ys, rfl, hy⟩, rfl⟩ := hcs
  obtain ⟨hxl, hxd, hxv⟩ : okRe x xs := hx
  obtain ⟨hyl, hyd, hyv⟩ : okRe y ys := hy
  refine ⟨1000, ?_⟩
  cbv
  refine qv hE hI hm (fun z : Nat × List Int => (mkT 64 [(2, .ptr 0 (.l 0)), (3, .ptr 8 (.l 0)), (4, .ptr 16 (.l 0)), (5, .ptr 24 (.l 0)), (6, .int .i64 z.1)], [(24, .row .i64 31 z.2), (16, .row .i64 16 [0, 0, 0, 0, 0, 0, 0, 0, 0, 0, 0, 0, 0, 0, 0, 0]), (8, .row .i64 16 ys), (0, .row .i64 16 xs)])) (fun z => z.1 <= 16 /\ Cv xs ys z.1 0 z.2) (fun z => 16 - z.1) 0 ⟨(0, z31), [], ⟨Nat.zero_le _, Cv.zero xs ys⟩, Nat.zero_le _, by cbv; exact ⟨rfl, trivial⟩⟩ fun z hz => ⟨1000, ?_⟩
  obtain ⟨i, u⟩ := z
  obtain ⟨hi, hu⟩ : i <= 16 /\ Cv xs ys i 0 u := hz
  cbv
  constructor
  ·intro hc
   cbv
   rw [hΩ] at hc; simp (disch := omega) only [Om.real, qk, decide_eq_true_eq, decide_eq_false_iff_not] at hc
   refine qv hE hI hm (fun z : Nat × List Int => (mkT 64 [(2, .ptr 0 (.l 0)), (3, .ptr 8 (.l 0)), (4, .ptr 16 (.l 0)), (5, .ptr 24 (.l 0)), (6, .int .i64 i), (7, .int .i64 z.1)], [(24, .row .i64 31 z.2), (16, .row .i64 16 [0, 0, 0, 0, 0, 0, 0, 0, 0, 0, 0, 0, 0, 0, 0, 0]), (8, .row .i64 16 ys), (0, .row .i64 16 xs)])) (fun z => z.1 <= 16 /\ Cv xs ys i z.1 z.2) (fun z => 16 - z.1) 0 ⟨(0, u), [], ⟨Nat.zero_le _, hu⟩, Nat.zero_le _, by cbv; exact ⟨rfl, trivial⟩⟩ fun z hz => ⟨1000, ?_⟩
   obtain ⟨k, v⟩ := z
   obtain ⟨hk, hv⟩ : k <= 16 /\ Cv xs ys i k v := hz
   cbv
   constructor
   ·intro hc2
    cbv
    rw [hΩ] at hc2; simp (disch := omega) only [Om.real, qk, decide_eq_true_eq, decide_eq_false_iff_not] at hc2
    have hr := hv.rng hxl hyl hxd hyd hc hc2
    have hs := hv.step hxl hyl hxd hyd hc hc2
    have hvl := hv.len
    obtain ⟨v2, hv2⟩ : ∃ v2, v2 = v.set (i + k) (v.getD (i + k) 0 + xs.getD i 0 * ys.getD k 0) := ⟨_, rfl⟩
    rw [<- hv2] at hs
    have e1 : binL .mul .i64 (xs.getD i 0) (ys.getD k 0) = xs.getD i 0 * ys.getD k 0 := qaj (by omega) (by omega)
    have e2 : binL .add .i64 (v.getD (i + k) 0) (xs.getD i 0 * ys.getD k 0) = v.getD (i + k) 0 + xs.getD i 0 * ys.getD k 0 := qu (by omega) (by omega)
    repeat (refine ⟨by ((try intro _); (try subst hΩ); simp (disch := omega) only [Om.real, qk, SN.v]; omega), ?_⟩)
    refine ⟨(k + 1, v2), [], ⟨by omega, hs⟩, by simp only; omega, Nat.zero_le _, ?_⟩
    cbv
    subst hΩ
    simp (disch := omega) only [Om.real, qk]
    exact ⟨trivial, by rw [e1, e2]; exact hv2.symm, trivial⟩
   ·intro hc2
    cbv
    rw [hΩ] at hc2; simp (disch := omega) only [Om.real, qk, decide_eq_true_eq, decide_eq_false_iff_not] at hc2
    have h16 : k = 16 := by omega
    subst h16
    refine ⟨(i + 1, v), [], ⟨by omega, hv.row hxl hyl hxd hyd hc⟩, by simp only; omega, Nat.zero_le _, ?_⟩
    cbv
    subst hΩ
    simp (disch := omega) only [Om.real, qk]
    exact ⟨trivial, trivial⟩
  ·intro hc
   cbv
   rw [hΩ] at hc; simp (disch := omega) only [Om.real, qk, decide_eq_true_eq, decide_eq_false_iff_not] at hc
   have h16 : i = 16 := by omega
   subst h16
   refine qv hE hI hm (fun z : Nat × List Int => (mkT 64 [(2, .ptr 0 (.l 0)), (3, .ptr 8 (.l 0)), (4, .ptr 16 (.l 0)), (5, .ptr 24 (.l 0)), (8, .int .i64 z.1)], [(24, .row .i64 31 z.2), (16, .row .i64 16 [0, 0, 0, 0, 0, 0, 0, 0, 0, 0, 0, 0, 0, 0, 0, 0]), (8, .row .i64 16 ys), (0, .row .i64 16 xs)])) (fun z => 15 <= z.1 /\ z.1 <= 30 /\ Fd (fI (valB 268435456 xs) * fI (valB 268435456 ys)) z.1 z.2) (fun z => z.1) 0 ⟨(30, u), [], ⟨by show 15 <= 30; decide, by show 30 <= 30; decide, Fd.start hxl hu⟩, Nat.zero_le _, by cbv; exact ⟨rfl, trivial⟩⟩ fun z hz => ⟨1000, ?_⟩
   obtain ⟨k, v⟩ := z
   obtain ⟨hk0, hk, hv⟩ : 15 <= k /\ k <= 30 /\ Fd (fI (valB 268435456 xs) * fI (valB 268435456 ys)) k v := hz
   cbv
   constructor
   ·intro hc2
    cbv
    rw [hΩ] at hc2; simp (disch := omega) only [Om.real, qk, decide_eq_true_eq, decide_eq_false_iff_not] at hc2
    obtain ⟨hs, b1, b2, g1, g2⟩ := hv.step hc2 hk
    have hvl := hv.len
    obtain ⟨v2, hv2⟩ : ∃ v2, v2 = fstp v k := ⟨_, rfl⟩
    rw [<- hv2] at hs
    unfold fstp at hv2
    have e1 : binL .add .i64 (v.getD (k - 16) 0) (v.getD k 0) = v.getD (k - 16) 0 + v.getD k 0 := qu (by omega) b1.2
    have e2 : binL .add .i64 (v.getD (k - 8) 0) (v.getD k 0) = v.getD (k - 8) 0 + v.getD k 0 := qu (by omega) b2.2
    repeat (refine ⟨by ((try intro _); (try subst hΩ); simp (disch := omega) only [Om.real, qk, SN.v]; omega), ?_⟩)
    refine ⟨(k - 1, v2), [], ⟨by omega, by omega, hs⟩, by simp only; omega, Nat.zero_le _, ?_⟩
    cbv
    subst hΩ
    simp (disch := omega) only [Om.real, qk]
    exact ⟨by cases k <;> rfl, by rw [e1, g1, g2, e2, hv2, g1, g2], trivial⟩
   ·intro hc2
    cbv
    rw [hΩ] at hc2; simp (disch := omega) only [Om.real, qk, decide_eq_true_eq, decide_eq_false_iff_not] at hc2
    have h15 : k = 15 := by omega
    subst h15
    obtain ⟨q1, q2, q3⟩ := hv.done
    refine ⟨fun _ => ⟨trivial, trivial, trivial, (show 0 <= 16 by decide), (show 16 <= 31 by decide), Nat.le_refl _⟩, fun _ => ⟨by decide, by decide⟩, ?_⟩
    constructor
    ·intro _ _; subst hΩ; exact ⟨q1, q2⟩
    intro _ _
    cbv
    refine hQ () _ _ _ trivial ?_
    subst hΩ
    show Pay.re (fI (valB 268435456 (v.take 16))) = Pay.re (x * y)
    rw [q3, hxv, hyv, qcY, qcY]
end Go.Sx.Tryz
end
section
set_option maxHeartbeats 4000000
namespace Go.Sx.Tryz
open Go.Proofs
set_option maxRecDepth 40000
def qha (Ω : Om) : qd := fun args => match args with
 | [.roi .u8 bs] => ⟨∀ _ : Unit, bs.length = 56 /\ ∀ a ∈ bs, 0 <= a /\ a < 256, Unit, fun _ => True, fun _ => .ab (.re (Ω.hide _ fun _ => fI (qw bs)))⟩
 | _ => PR.none
theorem qsc : Ctr Tryz.prog T glob 66 (qha Om.real) := by
 refine qo T_ok qi qj (fun Ω => [(106, qcu Ω)]) [] (fun Ω => []) [] (qb qfa qg) qh qe qf Tryz.func66 (by rfl) (by kernel_rfl) Tryz.call66 ?_ ?_
 ·intro args; unfold qha; split
  ·exact qr (by repeat' constructor) (fun _ _ => rfl) (by repeat' constructor)
  ·exact PR.good_none
 ·intro P Ω hΩ hE hI hm args pr hs hp Q hQ
  unfold qha at hs
  split at hs <;> subst hs <;> try (exact hp.elim)
  rename_i bs
  obtain ⟨hl, hb⟩ := hp ()
  refine ⟨1000, ?_⟩
  cbv
  refine qv hE hI hm (fun z : Nat × List Int => (mkT 39 [(0, .roi .u8 bs), (2, .ptr 0 (.l 0)), (3, .ptr 8 (.l 0)), (4, .int .i64 z.1)], [(8, .row .i64 16 z.2), (0, .row .i64 16 [0, 0, 0, 0, 0, 0, 0, 0, 0, 0, 0, 0, 0, 0, 0, 0])])) (fun z => z.1 <= 8 /\ Ofs bs z.1 z.2) (fun z => 8 - z.1) 0 ⟨(0, z16), [], ⟨Nat.zero_le _, Ofs.zero bs⟩, Nat.zero_le _, by cbv; exact ⟨rfl, trivial⟩⟩ fun z hz => ⟨1000, ?_⟩
  obtain ⟨i, v⟩ := z
  obtain ⟨hi, hv⟩ : i <= 8 /\ Ofs bs i v := hz
  cbv
  constructor
  ·intro hc
   cbv
   rw [hΩ] at hc; simp (disch := omega) only [Om.real, qk, decide_eq_true_eq, decide_eq_false_iff_not] at hc
   refine qv hE hI hm (fun z : Nat × Int × Int => (mkT 39 [(0, .roi .u8 bs), (2, .ptr 0 (.l 0)), (3, .ptr 8 (.l 0)), (4, .int .i64 i), (5, .int .i64 z.2.2), (6, .int .i64 z.2.1)], [(8, .row .i64 16 v), (0, .row .i64 16 [0, 0, 0, 0, 0, 0, 0, 0, 0, 0, 0, 0, 0, 0, 0, 0])])) (fun z => z.1 <= 7 /\ z.2.1 = z.1 - 1 /\ z.2.2 = qw ((bs.drop (7 * i + z.1)).take (7 - z.1))) (fun z => z.1) 0 ⟨(7, 6, 0), [], ⟨Nat.le_refl _, rfl, rfl⟩, Nat.zero_le _, by cbv⟩ fun z hz => ⟨1000, ?_⟩
   obtain ⟨k, kk, n⟩ := z
   obtain ⟨hk, hkk, hn⟩ : k <= 7 /\ kk = (k : Int) - 1 /\ n = qw ((bs.drop (7 * i + k)).take (7 - k)) := hz
   cbv
   constructor
   ·intro hc2
    cbv
    have hkk : kk = (k : Int) - 1 := hkk
    have hc' : kk >= 0 := by rw [hΩ] at hc2; exact of_decide_eq_true hc2
    obtain ⟨m, rfl⟩ : ∃ m : Nat, kk = m := ⟨kk.toNat, by omega⟩
    have hm7 : m < 7 := by omega
    have hk1 : k = m + 1 := by omega
    have hbd := qg7 hb (7 * i + m) (7 - m)
    have hnb := qg7 hb (7 * i + k) (7 - k)
    rw [<- hn] at hnb
    have hst : qw ((bs.drop (7 * i + m)).take (7 - m)) = bs.getD (7 * i + m) 0 + 256 * n := by
     rw [show 7 - m = (7 - k) + 1 by omega, qr9 (by omega), hn, hk1]; rfl
    have p6 : (256 : Int) ^ (7 - k) <= 281474976710656 := by
     have : (256 : Int) ^ (7 - k) <= 256 ^ 6 := by
      have e : ((256 ^ (7 - k) : Nat) : Int) <= ((256 ^ 6 : Nat) : Int) := Int.ofNat_le.2 (Nat.pow_le_pow_right (by decide) (by omega))
      simpa using e
     exact this
    have hb1 := hb _ (qX (l := bs) (i := 7 * i + m) (by omega))
    obtain ⟨n2, hn2⟩ : ∃ n2, n2 = qw ((bs.drop (7 * i + m)).take (7 - m)) := ⟨_, rfl⟩
    have e1 : binL .mul .i64 n 256 = n * 256 := qaj (by omega) (by omega)
    have e3 : IntKind.i64.wrap (bs.getD (7 * i + m) 0) = bs.getD (7 * i + m) 0 := qV (by omega) (by omega)
    have e2 : binL .add .i64 (n * 256) (bs.getD (7 * i + m) 0) = n2 := by rw [qu (by omega) (by omega), hn2, hst]; omega
    repeat (refine ⟨by ((try intro _); (try subst hΩ); simp (disch := omega) only [Om.real, qk, SN.v]; omega), ?_⟩)
    obtain ⟨k2, hk2⟩ : ∃ k2 : Int, k2 = (m : Int) - 1 := ⟨_, rfl⟩
    refine ⟨(m, k2, n2), [], ⟨by omega, hk2, hn2⟩, by simp only; omega, Nat.zero_le _, ?_⟩
    cbv
    subst hΩ
    simp (disch := omega) only [Om.real, qk]
    exact ⟨by rw [e1, e3, e2], (qx (by omega) (by omega)).trans hk2.symm, trivial⟩
   ·intro hc2
    cbv
    have hkk : kk = (k : Int) - 1 := hkk
    have hc' : ¬ kk >= 0 := by rw [hΩ] at hc2; exact of_decide_eq_false hc2
    have h0 : k = 0 := by omega
    subst h0
    have hst := hv.step hc hl hb hn
    have hnb := qg7 hb (7 * i) 7
    have hn : n = qw ((bs.drop (7 * i)).take 7) := hn
    rw [<- hn] at hnb
    have p7 : (256 : Int) ^ 7 = 72057594037927936 := by decide
    rw [p7] at hnb
    obtain ⟨v2, hv2⟩ : ∃ v2, v2 = (v.set (2 * i) (n % 268435456)).set (2 * i + 1) (n / 268435456) := ⟨_, rfl⟩
    rw [<- hv2] at hst
    have hvl := hv.len
    have e1 : binL .rem .i64 n 268435456 = n % 268435456 := Int.tmod_eq_emod_of_nonneg hnb.1
    have e2 : binL .quo .i64 n 268435456 = n / 268435456 := by
     rw [qbs (by rw [Int.tdiv_eq_ediv_of_nonneg hnb.1]; omega) (by rw [Int.tdiv_eq_ediv_of_nonneg hnb.1]; omega), Int.tdiv_eq_ediv_of_nonneg hnb.1]
    repeat (refine ⟨by ((try intro _); (try subst hΩ); simp (disch := omega) only [Om.real, qk, SN.v]; omega), ?_⟩)
    refine ⟨(i + 1, v2), [], ⟨by omega, hst⟩, by simp only; omega, Nat.zero_le _, ?_⟩
    cbv
    subst hΩ
    simp (disch := omega) only [Om.real, qk]
    exact ⟨trivial, by rw [e1, e2]; exact hv2.symm, trivial⟩
  ·intro hc
   cbv
   rw [hΩ] at hc; simp (disch := omega) only [Om.real, qk, decide_eq_true_eq, decide_eq_false_iff_not] at hc
   have h8 : i = 8 := by omega
   subst h8
   obtain ⟨q1, q2⟩ := hv.done hl
   have q3 := hv.len
   constructor
   ·intro _ _; subst hΩ; exact ⟨q3, q2⟩
   intro _ _
   cbv
   refine hQ () _ _ _ trivial ?_
   subst hΩ
   show Pay.re (fI (valB 268435456 v)) = Pay.re (fI (qw bs))
   rw [q1]
def qdT (Ω : Om) : qd := fun args => match args with
 | [.ab (.re x)] => ⟨True, List Int × Nat, fun z => z.1 = qA x /\ z.1.length <= z.2, fun z => .fr .u8 z.1 z.2⟩
 | [.row .i64 16 xs] => ⟨∀ _ : Unit, xs.length = 16 /\ (∀ a ∈ xs, 0 <= a /\ a < 268435456), List Int × Nat, fun z => z.1 = qK (valB 268435456 xs).toNat 56 /\ z.1.length <= z.2, fun z => .fr .u8 z.1 z.2⟩
 | _ => PR.none
theorem qjO : Ctr Tryz.prog T glob 51 (qdT Om.real) := by
 refine qal T_ok qi qj (fun Ω => []) [] (fun Ω => []) [] qg qh qe qf Tryz.func51 (by rfl) (by kernel_rfl) Tryz.call51 ?_ ?_
 ·intro args; unfold qdT; split
  ·exact qai ⟨trivial, trivial⟩ fun _ => qav _
  ·exact qai ⟨trivial, trivial⟩ fun _ => qav _
  ·exact PR.good_none
 ·intro P Ω hΩ hE hI hm args pr hs hp cs hcs Q hQ
  unfold qdT at hs
  split at hs <;> subst hs <;> try (exact hp.elim)
  ·rename_i x
   obtain ⟨_, _, rfl, ⟨xs, rfl, hx⟩, rfl⟩ := hcs
   obtain ⟨hl, hdg0, hv⟩ : okRe x xs := hx
   refine ⟨1000, ?_⟩
   cbv
   refine qv hE hI hm (fun x : Nat × List Int × Nat × Nat => (mkT 35 [(1, .ptr 0 (.l 0)), (2, .val (.slice none 0 0)), (3, .sl 32 1 (.l 0) (.s x.2.2.1) (.s x.2.2.2)), (4, .int .i64 x.1)], [(32, .seq .u8 x.2.1), (0, .row .i64 16 xs)])) (fun z => z.1 <= 8 /\ z.2.1 = qK x.val (7 * z.1) /\ z.2.2.1 = 7 * z.1 /\ z.2.2.1 <= z.2.2.2) (fun x => 8 - x.1) 1 ⟨(0, [], 0, 0), [none], ⟨Nat.zero_le _, rfl, rfl, Nat.le_refl _⟩, by decide, ?_⟩ fun x hx => ⟨1000, ?_⟩
   ·cbv
    exact ⟨rfl, trivial⟩
   obtain ⟨i, u, n, c⟩ := x
   obtain ⟨hi, hu, hn, hc⟩ : i <= 8 /\ u = qK x.val (7 * i) /\ n = 7 * i /\ n <= c := hx
   cbv
   constructor
   ·intro hd
    cbv
    rw [hΩ] at hd; simp (disch := omega) only [Om.real, qk, decide_eq_true_eq, decide_eq_false_iff_not] at hd
    repeat (refine ⟨by ((try intro _); (try subst hΩ); simp (disch := omega) only [Om.real, qk, SN.v]; omega), ?_⟩)
    have hdg := dig2 (N := x.val) (i := i) hl hdg0 hv hd
    have b1 := hdg0 _ (qX (l := xs) (i := 2 * i) (by omega))
    have b2 := hdg0 _ (qX (l := xs) (i := 2 * i + 1) (by omega))
    obtain ⟨D, hD⟩ : ∃ D : Nat, D = x.val / 256 ^ (7 * i) % 72057594037927936 := ⟨_, rfl⟩
    rw [<- hD] at hdg
    have hDb : D < 72057594037927936 := by rw [hD]; exact Nat.mod_lt _ (by decide)
    have eD : binL .add .i64 (xs.getD (2 * i) 0) (binL .mul .i64 (xs.getD (2 * i + 1) 0) 268435456) = (D : Int) := by
     rw [qaj (by omega) (by omega), qu (by omega) (by omega)]; exact hdg
    refine qv hE hI hm (fun x : Nat × List Int × Nat × Nat × Nat => (mkT 35 [(1, .ptr 0 (.l 0)), (2, .val (.slice none 0 0)), (3, .sl 160 1 (.l 0) (.s x.2.2.1) (.s x.2.2.2.1)), (4, .int .i64 i), (5, .int .i64 x.2.2.2.2), (6, .int .i64 x.1)], [(160, .seq .u8 x.2.1), (0, .row .i64 16 xs)])) (fun z => z.1 <= 7 /\ z.2.1 = qK x.val (7 * i + z.1) /\ z.2.2.1 = 7 * i + z.1 /\ z.2.2.1 <= z.2.2.2.1 /\ z.2.2.2.2 = D / 256 ^ z.1) (fun x => 7 - x.1) 1 ⟨(0, u, n, c, D), [some 32], ⟨Nat.zero_le _, hu, hn, hc, (Nat.div_one D).symm⟩, by decide, ?_⟩ fun y hy => ⟨1000, ?_⟩
    ·cbv
     subst hΩ
     simp (disch := omega) only [Om.real, qk]
     exact ⟨eD, rfl, trivial⟩
    obtain ⟨k, v, m, c2, w⟩ := y
    obtain ⟨hk, hv2, hm', hc2, hw⟩ : k <= 7 /\ v = qK x.val (7 * i + k) /\ m = 7 * i + k /\ m <= c2 /\ w = D / 256 ^ k := hy
    have hvl : v.length = m := by rw [hv2, qbg, hm']
    have hwb : w <= D := by rw [hw]; exact Nat.div_le_self _ _
    cbv
    constructor
    ·intro he
     cbv
     rw [hΩ] at he; simp (disch := omega) only [Om.real, qk, decide_eq_true_eq, decide_eq_false_iff_not] at he
     constructor
     ·exact fun _ => (show (m + 1) * 1 <= 140737488355328 by omega)
     constructor
     ·exact fun _ => ⟨(show 0 + m * 1 <= v.length by omega), (show 0 + 1 * 1 <= 1 by omega)⟩
     intro cap hcap
     have hcap : m + 1 <= cap := hcap
     cbv
     obtain ⟨v', hv'⟩ : ∃ v', v' = qK x.val (7 * i + k + 1) := ⟨_, rfl⟩
     obtain ⟨w', hw'⟩ : ∃ w', w' = D / 256 ^ (k + 1) := ⟨_, rfl⟩
     obtain ⟨m2, hm2⟩ : ∃ m2, m2 = m + 1 := ⟨_, rfl⟩
     have ew : w' = w / 256 := by rw [hw', hw, Nat.pow_succ, Nat.div_div_eq_div_mul]
     have e1 : binL .quo .i64 (w : Int) 256 = (w' : Int) := by
      have e : ((w : Int)).tdiv 256 = (w' : Int) := by rw [Int.tdiv_eq_ediv_of_nonneg (by omega), ew]; omega
      rw [qbs (by rw [e]; omega) (by rw [e]; omega), e]
     have e2 : IntKind.u8.wrap (binL .rem .i64 (w : Int) 256) = ((x.val / 256 ^ (7 * i + k) % 256 : Nat) : Int) := by
      have e : binL .rem .i64 (w : Int) 256 = (w : Int) % 256 := Int.tmod_eq_emod_of_nonneg (a := (w : Int)) (b := 256) (Int.natCast_nonneg w)
      rw [e, IntKind.wrap_u8, <- qg9 x.val i k he, <- hD, <- hw]; omega
     refine ⟨(k + 1, v', m2, cap, w'), [some 224], ⟨he, hv', ?_, ?_, hw'⟩, by simp only; omega, by decide, ?_⟩
     ·show m2 = 7 * i + (k + 1); omega
     ·show m2 <= cap; omega
     cbv
     subst hΩ
     simp (disch := omega) only [Om.real, qk]
     refine ⟨hm2.symm, by rw [ew], trivial, ?_⟩
     refine ⟨?_, trivial⟩
     rw [List.drop_zero, List.take_of_length_le (by omega), hv', hv2, qjN, IntKind.wrap_u8, <- qg9 x.val i k he, <- hD, <- hw]
     congr 2
     omega
    ·intro he
     cbv
     rw [hΩ] at he; simp (disch := omega) only [Om.real, qk, decide_eq_true_eq, decide_eq_false_iff_not] at he
     have hk7 : k = 7 := by omega
     subst hk7
     refine ⟨(i + 1, v, m, c2), [some 160], ⟨hd, hv2, hm', hc2⟩, by simp only; omega, by decide, ?_⟩
     cbv
     subst hΩ
     simp (disch := omega) only [Om.real, qk]
     exact ⟨trivial, trivial⟩
   ·intro hd
    cbv
    rw [hΩ] at hd; simp (disch := omega) only [Om.real, qk, decide_eq_true_eq, decide_eq_false_iff_not] at hd
    have h8 : i = 8 := by omega
    subst h8
    have hul : u.length = n := by rw [hu, qbg, hn]
    refine hQ (u, c) _ _ _ ⟨hu.trans (qg8 x).symm, by show u.length <= c; omega⟩ ?_
    refine ⟨rfl, rfl, by show 0 + n <= u.length; omega, ?_⟩
    subst hΩ
    show u = (u.drop 0).take n
    rw [List.drop_zero, List.take_of_length_le (by omega)]
  ·rename_i xs
   obtain ⟨_, _, rfl, rfl, rfl⟩ := hcs
   obtain ⟨hl, hdg0⟩ := hp ()
   obtain ⟨N, hv⟩ : ∃ N : Nat, valB 268435456 xs = N := ⟨(valB 268435456 xs).toNat, by have := (qct _ hdg0).1; omega⟩
   refine ⟨1000, ?_⟩
   cbv
   refine qv hE hI hm (fun x : Nat × List Int × Nat × Nat => (mkT 35 [(1, .ptr 0 (.l 0)), (2, .val (.slice none 0 0)), (3, .sl 32 1 (.l 0) (.s x.2.2.1) (.s x.2.2.2)), (4, .int .i64 x.1)], [(32, .seq .u8 x.2.1), (0, .row .i64 16 xs)])) (fun z => z.1 <= 8 /\ z.2.1 = qK N (7 * z.1) /\ z.2.2.1 = 7 * z.1 /\ z.2.2.1 <= z.2.2.2) (fun x => 8 - x.1) 1 ⟨(0, [], 0, 0), [none], ⟨Nat.zero_le _, rfl, rfl, Nat.le_refl _⟩, by decide, ?_⟩ fun x hx => ⟨1000, ?_⟩
   ·cbv
    exact ⟨rfl, trivial⟩
   obtain ⟨i, u, n, c⟩ := x
   obtain ⟨hi, hu, hn, hc⟩ : i <= 8 /\ u = qK N (7 * i) /\ n = 7 * i /\ n <= c := hx
   cbv
   constructor
   ·intro hd
    cbv
    rw [hΩ] at hd; simp (disch := omega) only [Om.real, qk, decide_eq_true_eq, decide_eq_false_iff_not] at hd
    repeat (refine ⟨by ((try intro _); (try subst hΩ); simp (disch := omega) only [Om.real, qk, SN.v]; omega), ?_⟩)
    have hdg := dig2 (N := N) (i := i) hl hdg0 hv hd
    have b1 := hdg0 _ (qX (l := xs) (i := 2 * i) (by omega))
    have b2 := hdg0 _ (qX (l := xs) (i := 2 * i + 1) (by omega))
    obtain ⟨D, hD⟩ : ∃ D : Nat, D = N / 256 ^ (7 * i) % 72057594037927936 := ⟨_, rfl⟩
    rw [<- hD] at hdg
    have hDb : D < 72057594037927936 := by rw [hD]; exact Nat.mod_lt _ (by decide)
    have eD : binL .add .i64 (xs.getD (2 * i) 0) (binL .mul .i64 (xs.getD (2 * i + 1) 0) 268435456) = (D : Int) := by
     rw [qaj (by omega) (by omega), qu (by omega) (by omega)]; exact hdg
    refine qv hE hI hm (fun x : Nat × List Int × Nat × Nat × Nat => (mkT 35 [(1, .ptr 0 (.l 0)), (2, .val (.slice none 0 0)), (3, .sl 160 1 (.l 0) (.s x.2.2.1) (.s x.2.2.2.1)), (4, .int .i64 i), (5, .int .i64 x.2.2.2.2), (6, .int .i64 x.1)], [(160, .seq .u8 x.2.1), (0, .row .i64 16 xs)])) (fun z => z.1 <= 7 /\ z.2.1 = qK N (7 * i + z.1) /\ z.2.2.1 = 7 * i + z.1 /\ z.2.2.1 <= z.2.2.2.1 /\ z.2.2.2.2 = D / 256 ^ z.1) (fun x => 7 - x.1) 1 ⟨(0, u, n, c, D), [some 32], ⟨Nat.zero_le _, hu, hn, hc, (Nat.div_one D).symm⟩, by decide, ?_⟩ fun y hy => ⟨1000, ?_⟩
    ·cbv
     subst hΩ
     simp (disch := omega) only [Om.real, qk]
     exact ⟨eD, rfl, trivial⟩
    obtain ⟨k, v, m, c2, w⟩ := y
    obtain ⟨hk, hv2, hm', hc2, hw⟩ : k <= 7 /\ v = qK N (7 * i + k) /\ m = 7 * i + k /\ m <= c2 /\ w = D / 256 ^ k := hy
    have hvl : v.length = m := by rw [hv2, qbg, hm']
    have hwb : w <= D := by rw [hw]; exact Nat.div_le_self _ _
    cbv
    constructor
    ·intro he
     cbv
     rw [hΩ] at he; simp (disch := omega) only [Om.real, qk, decide_eq_true_eq, decide_eq_false_iff_not] at he
     constructor
     ·exact fun _ => (show (m + 1) * 1 <= 140737488355328 by omega)
     constructor
     ·exact fun _ => ⟨(show 0 + m * 1 <= v.length by omega), (show 0 + 1 * 1 <= 1 by omega)⟩
     intro cap hcap
     have hcap : m + 1 <= cap := hcap
     cbv
     obtain ⟨v', hv'⟩ : ∃ v', v' = qK N (7 * i + k + 1) := ⟨_, rfl⟩
     obtain ⟨w', hw'⟩ : ∃ w', w' = D / 256 ^ (k + 1) := ⟨_, rfl⟩
     obtain ⟨m2, hm2⟩ : ∃ m2, m2 = m + 1 := ⟨_, rfl⟩
     have ew : w' = w / 256 := by rw [hw', hw, Nat.pow_succ, Nat.div_div_eq_div_mul]
     have e1 : binL .quo .i64 (w : Int) 256 = (w' : Int) := by
      have e : ((w : Int)).tdiv 256 = (w' : Int) := by rw [Int.tdiv_eq_ediv_of_nonneg (by omega), ew]; omega
      rw [qbs (by rw [e]; omega) (by rw [e]; omega), e]
     have e2 : IntKind.u8.wrap (binL .rem .i64 (w : Int) 256) = ((N / 256 ^ (7 * i + k) % 256 : Nat) : Int) := by
      have e : binL .rem .i64 (w : Int) 256 = (w : Int) % 256 := Int.tmod_eq_emod_of_nonneg (a := (w : Int)) (b := 256) (Int.natCast_nonneg w)
      rw [e, IntKind.wrap_u8, <- qg9 N i k he, <- hD, <- hw]; omega
     refine ⟨(k + 1, v', m2, cap, w'), [some 224], ⟨he, hv', ?_, ?_, hw'⟩, by simp only; omega, by decide, ?_⟩
     ·show m2 = 7 * i + (k + 1); omega
     ·show m2 <= cap; omega
     cbv
     subst hΩ
     simp (disch := omega) only [Om.real, qk]
     refine ⟨hm2.symm, by rw [ew], trivial, ?_⟩
     refine ⟨?_, trivial⟩
     rw [List.drop_zero, List.take_of_length_le (by omega), hv', hv2, qjN, IntKind.wrap_u8, <- qg9 N i k he, <- hD, <- hw]
     congr 2
     omega
    ·intro he
     cbv
     rw [hΩ] at he; simp (disch := omega) only [Om.real, qk, decide_eq_true_eq, decide_eq_false_iff_not] at he
     have hk7 : k = 7 := by omega
     subst hk7
     refine ⟨(i + 1, v, m, c2), [some 160], ⟨hd, hv2, hm', hc2⟩, by simp only; omega, by decide, ?_⟩
     cbv
     subst hΩ
     simp (disch := omega) only [Om.real, qk]
     exact ⟨trivial, trivial⟩
   ·intro hd
    cbv
    rw [hΩ] at hd; simp (disch := omega) only [Om.real, qk, decide_eq_true_eq, decide_eq_false_iff_not] at hd
    have h8 : i = 8 := by omega
    subst h8
    have hul : u.length = n := by rw [hu, qbg, hn]
    refine hQ (u, c) _ _ _ ⟨hu.trans (by rw [hv]; rfl), by show u.length <= c; omega⟩ ?_
    refine ⟨rfl, rfl, by show 0 + n <= u.length; omega, ?_⟩
    subst hΩ
    show u = (u.drop 0).take n
    rw [List.drop_zero, List.take_of_length_le (by omega)]
def qfe (Ω : Om) : qd := fun args => match args with
 | [] => ⟨True, List Int × Nat, fun z => z.1 = qbt /\ z.1.length <= z.2, fun z => .fr .u8 z.1 z.2⟩
 | _ => PR.none
theorem qnO : Ctr Tryz.prog T glob 65 (qfe Om.real) := by
 refine qo T_ok qi qj (fun Ω => [(51, qdT Ω), (122, qc8 Ω)]) [] (fun Ω => []) [] (qb qjO (qb qg0 qg)) qh qe qf Tryz.func65 (by rfl) (by kernel_rfl) Tryz.call65 ?_ ?_
 ·intro args; unfold qfe; split
  ·exact qai trivial fun _ => qav _
  ·exact PR.good_none
 ·intro P Ω hΩ hE hI hm args pr hs hp Q hQ
  unfold qfe at hs
  split at hs <;> subst hs <;> try (exact hp.elim)
  refine ⟨1000, ?_⟩
  cbv
  constructor
  ·exact fun _ => trivial
  intro _ _
  cbv
  constructor
  ·intro _ _; subst hΩ; exact ⟨rfl, qe8⟩
  intro z hz
  have hz : z.1 = qbt /\ z.1.length <= z.2 := by subst hΩ; exact ⟨hz.1.trans qsb, hz.2⟩
  cbv
  refine hQ z _ _ _ hz ?_
  subst hΩ
  exact ⟨rfl, rfl, by show 0 + z.1.length <= z.1.length; omega, List.take_length.symm⟩
def qbD (Ω : Om) : qd := fun args => match args with
 | [.int .i64 n] => ⟨∀ _ : Unit, -9223372036854775808 <= n /\ n < 9223372036854775808, Unit, fun _ => True, fun _ => .ab (.re (Ω.hide _ fun _ => fI n))⟩
 | _ => PR.none
theorem qdb : Ctr Tryz.prog T glob 46 (qbD Om.real) := by
 refine qo T_ok qi qj (fun Ω => [(106, qcu Ω), (78, qcv Ω)]) [] (fun Ω => []) [] (qb qfa (qb qfc qg)) qh qe qf Tryz.func46 (by rfl) (by kernel_rfl) Tryz.call46 ?_ ?_
 ·intro args; unfold qbD; split
  ·exact qr (by repeat' constructor) (fun _ _ => rfl) (by repeat' constructor)
  ·exact PR.good_none
 ·intro P Ω hΩ hE hI hm args pr hs hp Q hQ
  unfold qbD at hs
  split at hs <;> subst hs <;> try (exact hp.elim)
  rename_i n
  obtain ⟨hn0, hn1⟩ := hp ()
  refine ⟨1000, ?_⟩
  cbv
  constructor
  ·intro hc
   cbv
   rw [hΩ] at hc; simp (disch := omega) only [Om.real, qk, decide_eq_true_eq, decide_eq_false_iff_not] at hc
   obtain ⟨r1, r2, r3⟩ := qnN hn0 hn1
   have e1 : unL .neg .i64 (binL .rem .i64 n 268435456) = -n.tmod 268435456 := by
    show IntKind.i64.wrap (0 - n.tmod 268435456) = _
    rw [Int.zero_sub]; exact qV (by omega) (by omega)
   have e2 : binL .quo .i64 n 268435456 = n.tdiv 268435456 := qbs (by omega) (by omega)
   have e3 : unL .neg .i64 (n.tdiv 268435456) = -n.tdiv 268435456 := by
    show IntKind.i64.wrap (0 - n.tdiv 268435456) = _
    rw [Int.zero_sub]; exact qV (by omega) (by omega)
   obtain ⟨q1, q2, q3⟩ := qnM (-n.tmod 268435456) (-n.tdiv 268435456) (by omega) (by omega)
   constructor
   ·intro _ _
    subst hΩ
    have : (Om.real.set (Om.real.set z16 0 (unL .neg .i64 (binL .rem .i64 n 268435456))) 1 (unL .neg .i64 (binL .quo .i64 n 268435456))) = (z16.set 0 (-n.tmod 268435456)).set 1 (-n.tdiv 268435456) := by rw [e1, e2, e3]; rfl
    show List.length (Om.real.set (Om.real.set z16 0 (unL .neg .i64 (binL .rem .i64 n 268435456))) 1 (unL .neg .i64 (binL .quo .i64 n 268435456))) = 16 /\ ∀ x ∈ (Om.real.set (Om.real.set z16 0 (unL .neg .i64 (binL .rem .i64 n 268435456))) 1 (unL .neg .i64 (binL .quo .i64 n 268435456))), _
    rw [this]; exact ⟨q1, q2⟩
   intro _ _
   cbv
   repeat (constructor; (first | exact fun _ => trivial | exact fun _ _ => (by decide)); intro _ _; cbv)
   refine hQ () _ _ _ trivial ?_
   subst hΩ
   show Pay.re (-(fI (valB 268435456 ((z16.set 0 (unL .neg .i64 (binL .rem .i64 n 268435456))).set 1 (unL .neg .i64 (binL .quo .i64 n 268435456)))))) = Pay.re (fI n)
   rw [e1, e2, e3, q3, show -n.tmod 268435456 + 268435456 * -n.tdiv 268435456 = -n by omega, qjc]
   have : -(-fI n) = fI n := by grind -lia -linarith -order -ac (splits := 0)
   rw [this]
  ·intro hc
   cbv
   rw [hΩ] at hc; simp (disch := omega) only [Om.real, qk, decide_eq_true_eq, decide_eq_false_iff_not] at hc
   obtain ⟨r1, r2, r3⟩ := qnN hn0 hn1
   have e2 : binL .quo .i64 n 268435456 = n.tdiv 268435456 := qbs (by omega) (by omega)
   obtain ⟨q1, q2, q3⟩ := qnM (n.tmod 268435456) (n.tdiv 268435456) (by omega) (by omega)
   constructor
   ·intro _ _
    subst hΩ
    have : (Om.real.set (Om.real.set z16 0 (binL .rem .i64 n 268435456)) 1 (binL .quo .i64 n 268435456)) = (z16.set 0 (n.tmod 268435456)).set 1 (n.tdiv 268435456) := by rw [e2]; rfl
    show List.length (Om.real.set (Om.real.set z16 0 (binL .rem .i64 n 268435456)) 1 (binL .quo .i64 n 268435456)) = 16 /\ ∀ x ∈ (Om.real.set (Om.real.set z16 0 (binL .rem .i64 n 268435456)) 1 (binL .quo .i64 n 268435456)), _
    rw [this]; exact ⟨q1, q2⟩
   intro _ _
   cbv
   refine hQ () _ _ _ trivial ?_
   subst hΩ
   show Pay.re (fI (valB 268435456 ((z16.set 0 (binL .rem .i64 n 268435456)).set 1 (binL .quo .i64 n 268435456)))) = Pay.re (fI n)
   rw [e2, show binL .rem .i64 n 268435456 = n.tmod 268435456 from rfl, q3, show n.tmod 268435456 + 268435456 * n.tdiv 268435456 = n by omega]
end Go.Sx.Tryz
end
section
set_option maxHeartbeats 4000000
namespace Go.Sx.Tryz
open Go.Proofs
set_option maxRecDepth 40000
def qcx (Ω : Om) : qd := fun args => match args with
 | [.roi .u8 bs, .int .i64 i] => ⟨∀ _ : Unit, 0 <= i /\ bs.length < 9223372036854775808 /\ Byt bs, Unit, fun _ => True, fun _ => .int .i64 (Ω.hide _ fun _ => bs.getD i.toNat 0)⟩
 | _ => PR.none
theorem qfj : Ctr Tryz.prog T glob 121 (qcx Om.real) := by
 refine qo T_ok qi qj (fun Ω => []) [] (fun Ω => []) [] qg qh qe qf Tryz.func121 (by rfl) (by kernel_rfl) Tryz.call121 ?_ ?_
 ·intro args; unfold qcx; split
  ·exact qr (by repeat' constructor) (fun _ _ => rfl) (by repeat' constructor)
  ·exact PR.good_none
 ·intro P Ω hΩ hE hI hm args pr hs hp Q hQ
  unfold qcx at hs
  split at hs <;> subst hs <;> try (exact hp.elim)
  rename_i bs i
  obtain ⟨hi, hl, hb⟩ := hp ()
  obtain ⟨n, rfl⟩ := Int.eq_ofNat_of_zero_le hi
  refine ⟨1000, ?_⟩
  cbv
  constructor
  ·intro hc
   cbv
   refine hQ () _ _ _ trivial ?_
   rw [hΩ] at hc; simp (disch := omega) only [Om.real, qk, decide_eq_true_eq, decide_eq_false_iff_not] at hc
   subst hΩ
   refine ⟨rfl, ?_⟩
   show 0 = bs.getD n 0
   simp [List.getD, hc]
  ·intro hc
   cbv
   rw [hΩ] at hc; simp (disch := omega) only [Om.real, qk, decide_eq_true_eq, decide_eq_false_iff_not] at hc
   repeat (refine ⟨by ((try intro _); (try subst hΩ); simp (disch := omega) only [Om.real, qk, SN.v]; omega), ?_⟩)
   refine hQ () _ _ _ trivial ?_
   subst hΩ
   refine ⟨rfl, ?_⟩
   have hx := qaJ hb n
   show IntKind.i64.wrap (bs.getD n 0) = bs.getD n 0
   exact qV (by omega) (by omega)
def qhb (Ω : Om) : qd := fun args => match args with
 | [.roi .u8 xs, .roi .u8 ys] => ⟨∀ _ : Unit, xs.length < 9223372036854775808 /\ ys.length < 9223372036854775808 /\ Byt xs /\ Byt ys, Unit, fun _ => True, fun _ => .int .i64 (Ω.hide _ fun _ => if nV xs < nV ys then -1 else if nV ys < nV xs then 1 else 0)⟩
 | _ => PR.none
theorem qsl : Ctr Tryz.prog T glob 64 (qhb Om.real) := by
 refine qo T_ok qi qj (fun Ω => [(121, qcx Ω)]) [] (fun Ω => []) [] (qb qfj qg) qh qe qf Tryz.func64 (by rfl) (by kernel_rfl) Tryz.call64 ?_ ?_
 ·intro args; unfold qhb; split
  ·exact qr (by repeat' constructor) (fun _ _ => rfl) (by repeat' constructor)
  ·exact PR.good_none
 ·intro P Ω hΩ hE hI hm args pr hs hp Q hQ
  unfold qhb at hs
  split at hs <;> subst hs <;> try (exact hp.elim)
  rename_i xs ys
  obtain ⟨lx, ly, bx, bys⟩ := hp ()
  refine ⟨1000, ?_⟩
  cbv
  obtain ⟨M, hM⟩ : ∃ M, M = max xs.length ys.length := ⟨_, rfl⟩
  obtain ⟨i0, hi0⟩ : ∃ i0 : Int, i0 = (M : Int) - 1 := ⟨_, rfl⟩
  have e0 : Ω.bin .sub .i64 (Ω.imax (Ω.ofN (Ω.len xs)) (Ω.ofN (Ω.len ys))) 1 = i0 := by
   subst hΩ
   show binL .sub .i64 (max (xs.length : Int) (ys.length : Int)) 1 = i0
   rw [qx (by omega) (by omega)]; omega
  refine qv hE hI hm (fun z : Nat × Int => (mkT 30 [(0, .roi .u8 xs), (1, .roi .u8 ys), (4, .lit .i64 0), (5, .int .i64 z.2)], [])) (fun z => z.1 <= max xs.length ys.length /\ z.2 = z.1 - 1 /\ nV xs / 256 ^ z.1 = nV ys / 256 ^ z.1) (fun z => z.1) 0 ⟨(M, i0), [], ⟨by show M <= _; omega, hi0, by rw [qnU bx (by show _ <= M; omega), qnU bys (by show _ <= M; omega)]⟩, Nat.zero_le _, ?_⟩ fun z hz => ⟨1000, ?_⟩
  ·cbv
   exact e0
  obtain ⟨n, i⟩ := z
  obtain ⟨hn, hi, he⟩ : n <= max xs.length ys.length /\ i = (n : Int) - 1 /\ nV xs / 256 ^ n = nV ys / 256 ^ n := hz
  cbv
  constructor
  ·intro hc
   cbv
   have hi : i = (n : Int) - 1 := hi
   have hc' : i >= 0 := by rw [hΩ] at hc; exact of_decide_eq_true hc
   obtain ⟨m, rfl⟩ : ∃ m : Nat, i = m := ⟨i.toNat, by omega⟩
   have hm1 : n = m + 1 := by omega
   subst hm1
   have gx := qdc bx m
   have gy := qdc bys m
   have dx := qnT (nV xs) m
   have dy := qnT (nV ys) m
   rw [he] at dx
   constructor
   ·exact fun _ _ => ⟨Int.natCast_nonneg m, lx, bx⟩
   intro _ _
   cbv
   constructor
   ·exact fun _ _ => ⟨Int.natCast_nonneg m, ly, bys⟩
   intro _ _
   cbv
   constructor
   ·intro hc2
    cbv
    refine hQ () _ _ _ trivial ?_
    have h2 : xs.getD m 0 < ys.getD m 0 := by subst hΩ; exact of_decide_eq_true hc2
    rw [gx, gy] at h2
    have h3 := qnW h2
    have h4 := qjS (a := nV xs) (b := nV ys) (w := 256 ^ m) (qnV dx dy h3)
    subst hΩ
    exact ⟨rfl, (if_pos h4).symm⟩
   ·intro hc2
    cbv
    have h2 : ¬ xs.getD m 0 < ys.getD m 0 := by subst hΩ; exact of_decide_eq_false hc2
    constructor
    ·exact fun _ _ => ⟨Int.natCast_nonneg m, lx, bx⟩
    intro _ _
    cbv
    constructor
    ·exact fun _ _ => ⟨Int.natCast_nonneg m, ly, bys⟩
    intro _ _
    cbv
    constructor
    ·intro hc3
     cbv
     refine hQ () _ _ _ trivial ?_
     have h2 : xs.getD m 0 > ys.getD m 0 := by subst hΩ; exact of_decide_eq_true hc3
     rw [gx, gy] at h2
     have h3 := qnW h2
     have h4 := qjS (a := nV ys) (b := nV xs) (w := 256 ^ m) (qnV dy dx h3)
     subst hΩ
     refine ⟨rfl, ?_⟩
     show 1 = if nV xs < nV ys then -1 else if nV ys < nV xs then 1 else 0
     rw [if_neg (by omega), if_pos h4]
    ·intro hc3
     cbv
     have h5 : ¬ xs.getD m 0 > ys.getD m 0 := by subst hΩ; exact of_decide_eq_false hc3
     have h2 : ¬ xs.getD m 0 < ys.getD m 0 := h2
     have gx := qdc bx m
     have gy := qdc bys m
     rw [gx, gy] at h2 h5
     have h6 : nV xs / 256 ^ m % 256 = nV ys / 256 ^ m % 256 := by omega
     obtain ⟨i2, hi2⟩ : ∃ i2 : Int, i2 = (m : Int) - 1 := ⟨_, rfl⟩
     refine ⟨(m, i2), [], ⟨by omega, hi2, by rw [dx, dy, h6]⟩, by simp only; omega, Nat.zero_le _, ?_⟩
     cbv
     subst hΩ
     show binL .sub .i64 (m : Int) 1 = i2
     rw [hi2]
     exact qx (by omega) (by omega)
  ·intro hc
   cbv
   have hi : i = (n : Int) - 1 := hi
   have hc' : ¬ i >= 0 := by rw [hΩ] at hc; exact of_decide_eq_false hc
   have h0 : n = 0 := by omega
   subst h0
   refine hQ () _ _ _ trivial ?_
   rw [Nat.pow_zero, Nat.div_one, Nat.div_one] at he
   subst hΩ
   refine ⟨rfl, ?_⟩
   show 0 = if nV xs < nV ys then -1 else if nV ys < nV xs then 1 else 0
   rw [if_neg (by omega), if_neg (by omega)]
def qcy (Ω : Om) : qd := fun args => match args with
 | [.roi .u8 bs, .int .i64 i] => ⟨∀ _ : Unit, bs.length < 9223372036854775808 /\ (-9223372036854775808 <= i /\ i < 9223372036854775808) /\ Byt bs, Unit, fun _ => True, fun _ => .int .i64 (Ω.hide _ fun _ => if i < 0 then 0 else ((bitN (nV bs) i.toNat : Nat) : Int))⟩
 | _ => PR.none
theorem qfk : Ctr Tryz.prog T glob 98 (qcy Om.real) := by
 refine qo T_ok qi qj (fun Ω => [(121, qcx Ω)]) [] (fun Ω => []) [] (qb qfj qg) qh qe qf Tryz.func98 (by rfl) (by kernel_rfl) Tryz.call98 ?_ ?_
 ·intro args; unfold qcy; split
  ·exact qr (by repeat' constructor) (fun _ _ => rfl) (by repeat' constructor)
  ·exact PR.good_none
 ·intro P Ω hΩ hE hI hm args pr hs hp Q hQ
  unfold qcy at hs
  split at hs <;> subst hs <;> try (exact hp.elim)
  rename_i bs i
  obtain ⟨hl, ⟨hi0, hi1⟩, hb⟩ := hp ()
  refine ⟨1000, ?_⟩
  cbv
  constructor
  ·intro hc
   cbv
   have hc' : i < 0 := by rw [hΩ] at hc; exact of_decide_eq_true hc
   refine hQ () _ _ _ trivial ?_
   subst hΩ
   exact ⟨rfl, (if_pos hc').symm⟩
  ·intro hc
   cbv
   have hc' : ¬ i < 0 := by rw [hΩ] at hc; exact of_decide_eq_false hc
   obtain ⟨n, rfl⟩ := Int.eq_ofNat_of_zero_le (show 0 <= i by omega)
   have eq : binL .quo .i64 (n : Int) 8 = ((n / 8 : Nat) : Int) := by
    rw [qbs (by rw [Int.tdiv_eq_ediv_of_nonneg (by omega)]; omega) (by rw [Int.tdiv_eq_ediv_of_nonneg (by omega)]; omega), Int.tdiv_eq_ediv_of_nonneg (by omega)]; omega
   have er : binL .rem .i64 (n : Int) 8 = ((n % 8 : Nat) : Int) := by
    have : binL .rem .i64 (n : Int) 8 = (n : Int) % 8 := Int.tmod_eq_emod_of_nonneg (a := (n : Int)) (b := 8) (Int.natCast_nonneg n)
    rw [this]; omega
   constructor
   ·intro _ _; subst hΩ; refine ⟨?_, hl, hb⟩; show 0 <= binL .quo .i64 (n : Int) 8; rw [eq]; omega
   intro _ _
   cbv
   obtain ⟨r, hr⟩ : ∃ r, r = n % 8 := ⟨_, rfl⟩
   rw [<- hr] at er
   obtain ⟨D, hD⟩ : ∃ D : Nat, D = nV bs / 256 ^ (n / 8) % 256 := ⟨_, rfl⟩
   have hDb : D < 256 := by rw [hD]; exact Nat.mod_lt _ (by decide)
   refine qv hE hI hm (fun z : Nat × Nat => (mkT 23 [(0, .roi .u8 bs), (1, .int .i64 n), (4, .lit .i64 0), (5, .int .i64 z.2), (6, .int .i64 z.1)], [])) (fun z => z.1 <= r /\ z.2 = D / 2 ^ z.1) (fun z => r - z.1) 0 ⟨(0, D), [], ⟨Nat.zero_le _, (Nat.div_one D).symm⟩, Nat.zero_le _, ?_⟩ fun z hz => ⟨1000, ?_⟩
   ·cbv
    subst hΩ
    refine ⟨?_, rfl⟩
    show bs.getD (binL .quo .i64 (n : Int) 8).toNat 0 = (D : Int)
    rw [eq, Int.toNat_natCast, qdc hb, <- hD]
   obtain ⟨k, w⟩ := z
   obtain ⟨hk, hw⟩ : k <= r /\ w = D / 2 ^ k := hz
   have hwb : w <= D := by rw [hw]; exact Nat.div_le_self _ _
   cbv
   constructor
   ·intro hc2
    cbv
    have hc2' : k < r := by
     rw [hΩ] at hc2
     have h : (k : Int) < binL .rem .i64 (n : Int) 8 := of_decide_eq_true hc2
     have er : binL .rem .i64 (n : Int) 8 = (r : Int) := er
     rw [er] at h; exact Int.ofNat_lt.1 h
    obtain ⟨w2, hw2⟩ : ∃ w2, w2 = D / 2 ^ (k + 1) := ⟨_, rfl⟩
    refine ⟨(k + 1, w2), [], ⟨by omega, hw2⟩, by simp only; omega, Nat.zero_le _, ?_⟩
    have ew : w2 = w / 2 := by rw [hw2, hw, Nat.pow_succ, Nat.div_div_eq_div_mul]
    cbv
    subst hΩ
    simp (disch := omega) only [Om.real, qk]
    exact ⟨by rw [ew], trivial⟩
   ·intro hc2
    cbv
    have hc2' : ¬ k < r := by
     rw [hΩ] at hc2
     have h : ¬ (k : Int) < binL .rem .i64 (n : Int) 8 := of_decide_eq_false hc2
     have er : binL .rem .i64 (n : Int) 8 = (r : Int) := er
     rw [er] at h; omega
    have hk : k <= r := hk
    have hk8 : k = r := by omega
    refine hQ () _ _ _ trivial ?_
    subst hΩ
    refine ⟨rfl, ?_⟩
    show binL .rem .i64 (w : Int) 2 = if (n : Int) < 0 then 0 else ((bitN (nV bs) (n : Int).toNat : Nat) : Int)
    have e : binL .rem .i64 (w : Int) 2 = (w : Int) % 2 := Int.tmod_eq_emod_of_nonneg (a := (w : Int)) (b := 2) (Int.natCast_nonneg w)
    rw [if_neg (by omega), e, Int.toNat_natCast, <- qnQ, <- hD, <- hr, <- hk8, <- hw]; omega
def qdW (Ω : Om) : qd := fun args => match args with
 | [.roi .u8 bs] => ⟨∀ _ : Unit, bs.length < 1152921504606846976 /\ Byt bs, Nat, fun z => IsLen (nV bs) z /\ z <= 8 * bs.length, fun z => .int .i64 z⟩
 | _ => PR.none
theorem qjT : Ctr Tryz.prog T glob 97 (qdW Om.real) := by
 refine qo T_ok qi qj (fun Ω => [(98, qcy Ω)]) [] (fun Ω => []) [] (qb qfk qg) qh qe qf Tryz.func97 (by rfl) (by kernel_rfl) Tryz.call97 ?_ ?_
 ·intro args; unfold qdW; split
  ·exact qa5 (by refine ⟨?_, ?_⟩ <;> intros <;> trivial) (by repeat' constructor) (fun h => qjR (qdV (h ()).2))
  ·exact PR.good_none
 ·intro P Ω hΩ hE hI hm args pr hs hp Q hQ
  unfold qdW at hs
  split at hs <;> subst hs <;> try (exact hp.elim)
  rename_i bs
  obtain ⟨hl, hb⟩ := hp ()
  refine ⟨1000, ?_⟩
  cbv
  obtain ⟨L8, hL8⟩ : ∃ L8, L8 = 8 * bs.length := ⟨_, rfl⟩
  have e0 : Ω.bin .mul .i64 8 (Ω.ofN (Ω.len bs)) = (L8 : Int) := by
   subst hΩ
   show binL .mul .i64 8 (bs.length : Int) = L8
   rw [qaj (by omega) (by omega)]; omega
  refine qv hE hI hm (fun z : Nat => (mkT 19 [(0, .roi .u8 bs), (2, .lit .i64 0), (3, .int .i64 z)], [])) (fun z => z <= 8 * bs.length /\ nV bs < 2 ^ z) (fun z => z) 0 ⟨L8, [], ⟨Nat.le_of_eq hL8, by rw [hL8]; exact qdV hb⟩, Nat.zero_le _, ?_⟩ fun n hz => ⟨1000, ?_⟩
  ·cbv
   exact e0
  obtain ⟨hn, hv⟩ : n <= 8 * bs.length /\ nV bs < 2 ^ n := hz
  cbv
  constructor
  ·intro hc
   have hc' : 0 < n := by
    rw [hΩ] at hc
    have h : (n : Int) > 0 := of_decide_eq_true hc
    omega
   obtain ⟨m, hm1⟩ : ∃ m, n = m + 1 := ⟨n - 1, by omega⟩
   have es : binL .sub .i64 (n : Int) 1 = (m : Int) := by rw [qx (by omega) (by omega)]; omega
   have ht : ∀ B : Nat, (if binL .sub .i64 (n : Int) 1 < 0 then (0 : Int) else ((bitN B (binL .sub .i64 (n : Int) 1).toNat : Nat) : Int)) = ((bitN B m : Nat) : Int) := by
    intro B; rw [es, if_neg (by omega), Int.toNat_natCast]
   cbv
   constructor
   ·intro _ _
    subst hΩ
    refine ⟨by omega, ?_, hb⟩
    show -9223372036854775808 <= binL .sub .i64 (n : Int) 1 /\ binL .sub .i64 (n : Int) 1 < _
    have es : binL .sub .i64 (n : Int) 1 = (m : Int) := es
    rw [es]; omega
   intro _ _
   cbv
   constructor
   ·intro hc2
    have hz : bitN (nV bs) m = 0 := by
     subst hΩ
     have h := eq_of_beq hc2
     have h2 : ((bitN (nV bs) m : Nat) : Int) = 0 := (ht (nV bs)).symm.trans h
     exact Int.ofNat_inj.1 h2
    have hst := qnR (n := m) (by rw [<- hm1]; exact hv) hz
    cbv
    refine ⟨m, [], ⟨by omega, hst⟩, by omega, Nat.zero_le _, ?_⟩
    cbv
    subst hΩ
    exact es
   ·intro hc2
    have hz : bitN (nV bs) m ≠ 0 := by
     subst hΩ
     have h := ne_of_beq_false hc2
     intro h3
     apply h
     have h2 : ((bitN (nV bs) m : Nat) : Int) = 0 := by rw [h3]; rfl
     exact (ht (nV bs)).trans h2
    have hst := qnS hz
    cbv
    refine hQ n _ _ _ ⟨⟨hv, .inr (by rw [show n - 1 = m by omega]; exact hst)⟩, hn⟩ ?_
    exact ⟨rfl, rfl⟩
  ·intro hc
   have hc' : ¬ 0 < n := by
    rw [hΩ] at hc
    have h : ¬ (n : Int) > 0 := of_decide_eq_false hc
    omega
   cbv
   refine hQ n _ _ _ ⟨⟨hv, .inl (by omega)⟩, hn⟩ ?_
   exact ⟨rfl, rfl⟩
end Go.Sx.Tryz
end
section
set_option maxHeartbeats 4000000
namespace Go.Sx.Tryz
open Go.Proofs
set_option maxRecDepth 40000
def qdX (Ω : Om) : qd := fun args => match args with
 | [.roi .u8 xs, .roi .u8 ys] => ⟨∀ _ : Unit, nV ys <= nV xs /\ (xs.length < 140737488355328 /\ ys.length < 140737488355328) /\ Byt xs /\ Byt ys, List Int × Nat, fun z => nV z.1 = nV xs - nV ys /\ Byt z.1 /\ z.1.length <= xs.length /\ z.1.length <= z.2, fun z => .fr .u8 z.1 z.2⟩
 | _ => PR.none
noncomputable def qsm : List (FuncId × Func) := [(148, Tryz.f148)]
theorem qjU : Ctr Tryz.prog T glob 140 (qdX Om.real) := by
 refine qo T_ok qi qj (fun Ω => [(121, qcx Ω)]) qsm (fun Ω => []) [] (qb qfj qg) (qG Tryz.call148 Tryz.func148 (by kernel_rfl) qh) qe qf Tryz.func140 (by rfl) (by kernel_rfl) Tryz.call140 ?_ ?_
 ·intro args; unfold qdX; split
  ·exact qai ⟨trivial, trivial, trivial⟩ fun h => qcw (Nat.lt_of_le_of_lt (Nat.sub_le _ _) (qaO (h ()).2.2.1))
  ·exact PR.good_none
 ·intro P Ω hΩ hE hI hm args pr hs hp Q hQ
  unfold qdX at hs
  split at hs <;> subst hs <;> try (exact hp.elim)
  rename_i xs ys
  obtain ⟨hle, ⟨lx, ly⟩, bx, bys⟩ := hp ()
  refine ⟨1000, ?_⟩
  cbv
  refine qv hE hI hm (fun z : Nat × List Int × Nat × Nat × Nat => (mkT 35 [(0, .roi .u8 xs), (1, .roi .u8 ys), (4, .val (.slice none 0 0)), (5, .sl 32 1 (.l 0) (.s z.2.2.1) (.s z.2.2.2.1)), (6, .int .i64 z.2.2.2.2), (7, .int .i64 z.1)], [(32, .seq .u8 z.2.1)])) (fun z => z.1 <= xs.length /\ z.2.1.length = z.1 /\ z.2.2.1 = z.1 /\ z.2.2.1 <= z.2.2.2.1 /\ z.2.2.2.2 <= 1 /\ Byt z.2.1 /\ ((nV z.2.1 : Nat) : Int) = nV (xs.take z.1) - nV (ys.take z.1) + z.2.2.2.2 * 256 ^ z.1) (fun z => xs.length - z.1) 1 ⟨(0, [], 0, 0, 0), [none], ⟨Nat.zero_le _, rfl, rfl, Nat.le_refl _, by show 0 <= 1; decide, (fun a ha => by cases ha), rfl⟩, by decide, ?_⟩ fun z hz => ⟨1000, ?_⟩
  ·cbv
   exact ⟨rfl, rfl⟩
  obtain ⟨i, u, n, c, l⟩ := z
  obtain ⟨hi, hul, hn, hc, hl1, hub, hv⟩ : i <= xs.length /\ u.length = i /\ n = i /\ n <= c /\ l <= 1 /\ Byt u /\ ((nV u : Nat) : Int) = nV (xs.take i) - nV (ys.take i) + l * 256 ^ i := hz
  cbv
  constructor
  ·intro hc2
   cbv
   rw [hΩ] at hc2; simp (disch := omega) only [Om.real, qk, decide_eq_true_eq, decide_eq_false_iff_not] at hc2
   have gx := qaJ bx i
   have gy := qaJ bys i
   constructor
   ·exact fun _ _ => ⟨Int.natCast_nonneg i, by omega, bx⟩
   intro _ _
   cbv
   constructor
   ·exact fun _ _ => ⟨Int.natCast_nonneg i, by omega, bys⟩
   intro _ _
   cbv
   obtain ⟨d, hd⟩ : ∃ d, d = xs.getD i 0 - ys.getD i 0 - l := ⟨_, rfl⟩
   have ed : binL .sub .i64 (binL .sub .i64 (xs.getD i 0) (ys.getD i 0)) (l : Int) = d := by
    rw [qx (a := xs.getD i 0) (b := ys.getD i 0) (by omega) (by omega), qx (by omega) (by omega), hd]
   have hst := qse bx bys hl1 hub hul hv hd
   constructor
   ·intro hc3
    have hd0 : d < 0 := by
     subst hΩ
     have h := of_decide_eq_true hc3
     have h2 : binL .sub .i64 (binL .sub .i64 (xs.getD i 0) (ys.getD i 0)) (l : Int) < 0 := h
     rw [ed] at h2; exact h2
    obtain ⟨q1, q2⟩ := hst.1 hd0
    have ed2 : binL .add .i64 d 256 = d + 256 := qu (by omega) (by omega)
    obtain ⟨u2, hu2⟩ : ∃ u2, u2 = u ++ [d + 256] := ⟨_, rfl⟩
    rw [<- hu2] at q1 q2
    have hu2l : u2.length = i + 1 := by rw [hu2, List.length_append, hul]; rfl
    have hdb : 0 <= d + 256 /\ d + 256 < 256 := by omega
    cbv
    constructor
    ·exact fun _ => (show (n + 1) * 1 <= 140737488355328 by omega)
    constructor
    ·exact fun _ => ⟨(show 0 + n * 1 <= u.length by omega), (show 0 + 1 * 1 <= 1 by omega)⟩
    intro cap hcap
    have hcap : n + 1 <= cap := hcap
    cbv
    obtain ⟨n2, hn2⟩ : ∃ n2, n2 = n + 1 := ⟨_, rfl⟩
    refine ⟨(i + 1, u2, n2, cap, 1), [some 240], ⟨hc2, hu2l, (by show n2 = i + 1; omega), (by show n2 <= cap; omega), Nat.le_refl _, q1, q2⟩, by simp only; omega, by decide, ?_⟩
    cbv
    subst hΩ
    refine ⟨hn2.symm, rfl, ?_, ?_⟩
    ·show binL .add .i64 (i : Int) 1 = ((i + 1 : Nat) : Int)
     rw [qu (by omega) (by omega)]; omega
    ·show (u.drop 0).take n ++ [IntKind.u8.wrap (binL .add .i64 (binL .sub .i64 (binL .sub .i64 (xs.getD i 0) (ys.getD i 0)) (l : Int)) 256)] = u2
     have ed : binL .sub .i64 (binL .sub .i64 (xs.getD i 0) (ys.getD i 0)) (l : Int) = d := ed
     rw [ed, ed2, List.drop_zero, List.take_of_length_le (by omega), hu2, IntKind.wrap_u8, Int.emod_eq_of_lt hdb.1 hdb.2]
   ·intro hc3
    have hd0 : ¬ d < 0 := by
     subst hΩ
     have h := of_decide_eq_false hc3
     have h2 : ¬ binL .sub .i64 (binL .sub .i64 (xs.getD i 0) (ys.getD i 0)) (l : Int) < 0 := h
     rw [ed] at h2; exact h2
    obtain ⟨q1, q2⟩ := hst.2 hd0
    obtain ⟨u2, hu2⟩ : ∃ u2, u2 = u ++ [d] := ⟨_, rfl⟩
    rw [<- hu2] at q1 q2
    have hu2l : u2.length = i + 1 := by rw [hu2, List.length_append, hul]; rfl
    have hdb : 0 <= d /\ d < 256 := by omega
    cbv
    constructor
    ·exact fun _ => (show (n + 1) * 1 <= 140737488355328 by omega)
    constructor
    ·exact fun _ => ⟨(show 0 + n * 1 <= u.length by omega), (show 0 + 1 * 1 <= 1 by omega)⟩
    intro cap hcap
    have hcap : n + 1 <= cap := hcap
    cbv
    obtain ⟨n2, hn2⟩ : ∃ n2, n2 = n + 1 := ⟨_, rfl⟩
    refine ⟨(i + 1, u2, n2, cap, 0), [some 208], ⟨hc2, hu2l, (by show n2 = i + 1; omega), (by show n2 <= cap; omega), Nat.zero_le _, q1, q2⟩, by simp only; omega, by decide, ?_⟩
    cbv
    subst hΩ
    refine ⟨hn2.symm, rfl, ?_, ?_⟩
    ·show binL .add .i64 (i : Int) 1 = ((i + 1 : Nat) : Int)
     rw [qu (by omega) (by omega)]; omega
    ·show (u.drop 0).take n ++ [IntKind.u8.wrap (binL .sub .i64 (binL .sub .i64 (xs.getD i 0) (ys.getD i 0)) (l : Int))] = u2
     have ed : binL .sub .i64 (binL .sub .i64 (xs.getD i 0) (ys.getD i 0)) (l : Int) = d := ed
     rw [ed, List.drop_zero, List.take_of_length_le (by omega), hu2, IntKind.wrap_u8, Int.emod_eq_of_lt hdb.1 hdb.2]
  ·intro hc2
   cbv
   rw [hΩ] at hc2; simp (disch := omega) only [Om.real, qk, decide_eq_true_eq, decide_eq_false_iff_not] at hc2
   have hix : i = xs.length := by omega
   have hu := qsf bx bys hub (hul.trans hix) (by rw [<- hix]; exact hv) hle
   have hul : u.length = n := by omega
   refine qv hE hI hm (fun z : Nat => (mkT 21 [(0, .sl 32 1 (.l 0) (.s n) (.s c)), (2, .val (.slice none 0 0)), (3, .int .i64 z)], [(32, .seq .u8 u)])) (fun z => z <= n /\ nV (u.take z) = nV u) (fun z => z) 0 ⟨n, [], ⟨Nat.le_refl _, by rw [List.take_of_length_le (by omega)]⟩, Nat.zero_le _, ?_⟩ fun k hz => ⟨1000, ?_⟩
   ·cbv
    subst hΩ
    exact ⟨rfl, trivial⟩
   obtain ⟨hk, hkv⟩ : k <= n /\ nV (u.take k) = nV u := hz
   cbv
   constructor
   ·intro hc3
    have hk0 : 0 < k := by
     rw [hΩ] at hc3
     have h : (k : Int) > 0 := of_decide_eq_true hc3
     omega
    obtain ⟨m, hm1⟩ : ∃ m, k = m + 1 := ⟨k - 1, by omega⟩
    have es : binL .sub .i64 (k : Int) 1 = (m : Int) := by rw [qx (by omega) (by omega)]; omega
    cbv
    constructor
    ·intro _
     subst hΩ
     have es : binL .sub .i64 (k : Int) 1 = (m : Int) := es
     show 0 <= binL .sub .i64 (k : Int) 1 /\ binL .sub .i64 (k : Int) 1 < (n : Int)
     rw [es]; omega
    constructor
    ·intro _
     subst hΩ
     have es : binL .sub .i64 (k : Int) 1 = (m : Int) := es
     show (binL .sub .i64 (k : Int) 1).toNat + 1 <= u.length
     rw [es, Int.toNat_natCast]; omega
    constructor
    ·intro hc4
     have hz : u.getD m 0 = 0 := by
      subst hΩ
      have es : binL .sub .i64 (k : Int) 1 = (m : Int) := es
      have h : u.getD (binL .sub .i64 (k : Int) 1).toNat 0 = 0 := eq_of_beq hc4
      rw [es, Int.toNat_natCast] at h; exact h
     have hst := qdU hub hz (by rw [<- hm1]; exact hkv)
     cbv
     refine ⟨m, [], ⟨by omega, hst⟩, by omega, Nat.zero_le _, ?_⟩
     cbv
     subst hΩ
     have es : binL .sub .i64 (k : Int) 1 = (m : Int) := es
     exact ⟨es, trivial⟩
    ·intro hc4
     cbv
     constructor
     ·intro _
      refine ⟨trivial, (show (0 : Int) <= (k : Int) by omega), trivial, Nat.zero_le _, ?_, Nat.le_refl _⟩
      subst hΩ
      show (k : Int).toNat <= c
      omega
     refine hQ (u.take k, c) _ _ _ ?_ ?_
     ·refine ⟨hkv.trans hu, qaz hub k, ?_, ?_⟩
      ·show (u.take k).length <= xs.length; rw [List.length_take]; omega
      ·show (u.take k).length <= c; rw [List.length_take]; omega
     ·subst hΩ
      refine ⟨rfl, rfl, ?_, ?_⟩
      ·show 0 + k <= u.length; omega
      ·show u.take k = (u.drop 0).take k
       rw [List.drop_zero]
   ·intro hc3
    cbv
    constructor
    ·intro _
     refine ⟨trivial, (show (0 : Int) <= (k : Int) by omega), trivial, Nat.zero_le _, ?_, Nat.le_refl _⟩
     subst hΩ
     show (k : Int).toNat <= c
     omega
    refine hQ (u.take k, c) _ _ _ ?_ ?_
    ·refine ⟨hkv.trans hu, qaz hub k, ?_, ?_⟩
     ·show (u.take k).length <= xs.length; rw [List.length_take]; omega
     ·show (u.take k).length <= c; rw [List.length_take]; omega
    ·subst hΩ
     refine ⟨rfl, rfl, ?_, ?_⟩
     ·show 0 + k <= u.length; omega
     ·show u.take k = (u.drop 0).take k
      rw [List.drop_zero]
def qhc (Ω : Om) : qd := fun args => match args with
 | [.roi .u8 xs, .roi .u8 ys] => ⟨∀ _ : Unit, (xs.length < 140737488355000 /\ ys.length < 140737488355000) /\ Byt xs /\ Byt ys, List Int × Nat, fun z => nV z.1 = nV xs + nV ys /\ Byt z.1 /\ z.1.length <= max xs.length ys.length + 1 /\ z.1.length <= z.2, fun z => .fr .u8 z.1 z.2⟩
 | _ => PR.none
noncomputable def qsn : List (FuncId × Func) := [(148, Tryz.f148)]
theorem qso : Ctr Tryz.prog T glob 161 (qhc Om.real) := by
 refine qo T_ok qi qj (fun Ω => [(121, qcx Ω)]) qsn (fun Ω => []) [] (qb qfj qg) (qG Tryz.call148 Tryz.func148 (by kernel_rfl) qh) qe qf Tryz.func161 (by rfl) (by kernel_rfl) Tryz.call161 ?_ ?_
 ·intro args; unfold qhc; split
  ·exact qai ⟨trivial, trivial, trivial⟩ fun h => qcw (qsh (h ()).2.1 (h ()).2.2)
  ·exact PR.good_none
 ·intro P Ω hΩ hE hI hm args pr hs hp Q hQ
  unfold qhc at hs
  split at hs <;> subst hs <;> try (exact hp.elim)
  rename_i xs ys
  obtain ⟨⟨lx, ly⟩, bx, bys⟩ := hp ()
  obtain ⟨M, hM⟩ : ∃ M, M = max xs.length ys.length := ⟨_, rfl⟩
  refine ⟨1000, ?_⟩
  cbv
  refine qv hE hI hm (fun z : Nat × List Int × Nat × Nat × Nat => (mkT 40 [(0, .roi .u8 xs), (1, .roi .u8 ys), (4, .val (.slice none 0 0)), (5, .sl 32 1 (.l 0) (.s z.2.2.1) (.s z.2.2.2.1)), (6, .int .i64 z.2.2.2.2), (7, .int .i64 z.1)], [(32, .seq .u8 z.2.1)])) (fun z => z.1 <= M + 1 /\ z.2.1.length = z.1 /\ z.2.2.1 = z.1 /\ z.2.2.1 <= z.2.2.2.1 /\ z.2.2.2.2 <= 1 /\ (z.1 = M + 1 -> z.2.2.2.2 = 0) /\ Byt z.2.1 /\ ((nV z.2.1 : Nat) : Int) + z.2.2.2.2 * 256 ^ z.1 = nV (xs.take z.1) + nV (ys.take z.1)) (fun z => M + 1 - z.1) 1 ⟨(0, [], 0, 0, 0), [none], ⟨Nat.zero_le _, rfl, rfl, Nat.le_refl _, by show 0 <= 1; decide, (fun _ => rfl), (fun a ha => by cases ha), rfl⟩, by decide, ?_⟩ fun z hz => ⟨1000, ?_⟩
  ·cbv
   exact ⟨rfl, rfl⟩
  obtain ⟨i, u, n, c, l⟩ := z
  obtain ⟨hi, hul, hn, hc, hl1, hl0, hub, hv⟩ : i <= M + 1 /\ u.length = i /\ n = i /\ n <= c /\ l <= 1 /\ (i = M + 1 -> l = 0) /\ Byt u /\ ((nV u : Nat) : Int) + l * 256 ^ i = nV (xs.take i) + nV (ys.take i) := hz
  cbv
  constructor
  ·intro hc2
   have hiM : i < M := by
    rw [hΩ] at hc2
    have h : (i : Int) < max (xs.length : Int) (ys.length : Int) := of_decide_eq_true hc2
    omega
   have hi1 : i <= M := by omega
   cbv
   have gx := qaJ bx i
   have gy := qaJ bys i
   constructor
   ·exact fun _ _ => ⟨Int.natCast_nonneg i, by omega, bx⟩
   intro _ _
   cbv
   constructor
   ·exact fun _ _ => ⟨Int.natCast_nonneg i, by omega, bys⟩
   intro _ _
   cbv
   obtain ⟨d, hd⟩ : ∃ d : Nat, (d : Int) = l + xs.getD i 0 + ys.getD i 0 := ⟨(l + xs.getD i 0 + ys.getD i 0).toNat, by omega⟩
   have ed : binL .add .i64 (binL .add .i64 (l : Int) (xs.getD i 0)) (ys.getD i 0) = (d : Int) := by
    rw [qu (a := (l : Int)) (b := xs.getD i 0) (by omega) (by omega), qu (by omega) (by omega), hd]
   obtain ⟨q1, q2, q3⟩ := qnX bx bys hl1 hub hul hv hd
   have q4 : i = M -> d / 256 = 0 := by
    intro h
    have e1 : xs.getD i 0 = 0 := by simp [List.getD, show xs.length <= i by omega]
    have e2 : ys.getD i 0 = 0 := by simp [List.getD, show ys.length <= i by omega]
    rw [e1, e2] at hd; omega
   obtain ⟨u2, hu2⟩ : ∃ u2, u2 = u ++ [((d % 256 : Nat) : Int)] := ⟨_, rfl⟩
   obtain ⟨l2, hl2'⟩ : ∃ l2, l2 = d / 256 := ⟨_, rfl⟩
   rw [<- hu2] at q1 q2
   rw [<- hl2'] at q2 q3 q4
   have hu2l : u2.length = i + 1 := by rw [hu2, List.length_append, hul]; rfl
   constructor
   ·exact fun _ => (show (n + 1) * 1 <= 140737488355328 by omega)
   constructor
   ·exact fun _ => ⟨(show 0 + n * 1 <= u.length by omega), (show 0 + 1 * 1 <= 1 by omega)⟩
   intro cap hcap
   have hcap : n + 1 <= cap := hcap
   cbv
   obtain ⟨n2, hn2⟩ : ∃ n2, n2 = n + 1 := ⟨_, rfl⟩
   refine ⟨(i + 1, u2, n2, cap, l2), [some 248], ⟨(by show i + 1 <= M + 1; omega), hu2l, (by show n2 = i + 1; omega), (by show n2 <= cap; omega), q3, (fun h => q4 (by have h : i + 1 = M + 1 := h; omega)), q1, q2⟩, by simp only; omega, by decide, ?_⟩
   cbv
   subst hΩ
   refine ⟨hn2.symm, ?_, ?_, ?_⟩
   ·show binL .quo .i64 (binL .add .i64 (binL .add .i64 (l : Int) (xs.getD i 0)) (ys.getD i 0)) 256 = (l2 : Int)
    have ed : binL .add .i64 (binL .add .i64 (l : Int) (xs.getD i 0)) (ys.getD i 0) = (d : Int) := ed
    rw [ed, qbs (by rw [Int.tdiv_eq_ediv_of_nonneg (by omega)]; omega) (by rw [Int.tdiv_eq_ediv_of_nonneg (by omega)]; omega), Int.tdiv_eq_ediv_of_nonneg (by omega)]; omega
   ·show binL .add .i64 (i : Int) 1 = ((i + 1 : Nat) : Int)
    rw [qu (by omega) (by omega)]; omega
   ·show (u.drop 0).take n ++ [IntKind.u8.wrap (binL .rem .i64 (binL .add .i64 (binL .add .i64 (l : Int) (xs.getD i 0)) (ys.getD i 0)) 256)] = u2
    have ed : binL .add .i64 (binL .add .i64 (l : Int) (xs.getD i 0)) (ys.getD i 0) = (d : Int) := ed
    have er : binL .rem .i64 (d : Int) 256 = (d : Int) % 256 := Int.tmod_eq_emod_of_nonneg (a := (d : Int)) (b := 256) (Int.natCast_nonneg d)
    have hu2 : u2 = u ++ [((d % 256 : Nat) : Int)] := hu2
    rw [ed, er, List.drop_zero, List.take_of_length_le (by omega), hu2, IntKind.wrap_u8]
    congr 2
    omega
  ·intro hc2
   have hiM : ¬ i < M := by
    rw [hΩ] at hc2
    have h : ¬ (i : Int) < max (xs.length : Int) (ys.length : Int) := of_decide_eq_false hc2
    omega
   constructor
   ·intro hc3
    have hl2 : 0 < l := by
     rw [hΩ] at hc3
     have h : (l : Int) > 0 := of_decide_eq_true hc3
     omega
    have hi1 : i <= M := by
     rcases Nat.lt_or_ge M i with h | h
     ·have := hl0 (by omega); omega
     ·exact h
    cbv
    have gx := qaJ bx i
    have gy := qaJ bys i
    constructor
    ·exact fun _ _ => ⟨Int.natCast_nonneg i, by omega, bx⟩
    intro _ _
    cbv
    constructor
    ·exact fun _ _ => ⟨Int.natCast_nonneg i, by omega, bys⟩
    intro _ _
    cbv
    obtain ⟨d, hd⟩ : ∃ d : Nat, (d : Int) = l + xs.getD i 0 + ys.getD i 0 := ⟨(l + xs.getD i 0 + ys.getD i 0).toNat, by omega⟩
    have ed : binL .add .i64 (binL .add .i64 (l : Int) (xs.getD i 0)) (ys.getD i 0) = (d : Int) := by
     rw [qu (a := (l : Int)) (b := xs.getD i 0) (by omega) (by omega), qu (by omega) (by omega), hd]
    obtain ⟨q1, q2, q3⟩ := qnX bx bys hl1 hub hul hv hd
    have q4 : i = M -> d / 256 = 0 := by
     intro h
     have e1 : xs.getD i 0 = 0 := by simp [List.getD, show xs.length <= i by omega]
     have e2 : ys.getD i 0 = 0 := by simp [List.getD, show ys.length <= i by omega]
     rw [e1, e2] at hd; omega
    obtain ⟨u2, hu2⟩ : ∃ u2, u2 = u ++ [((d % 256 : Nat) : Int)] := ⟨_, rfl⟩
    obtain ⟨l2, hl2'⟩ : ∃ l2, l2 = d / 256 := ⟨_, rfl⟩
    rw [<- hu2] at q1 q2
    rw [<- hl2'] at q2 q3 q4
    have hu2l : u2.length = i + 1 := by rw [hu2, List.length_append, hul]; rfl
    constructor
    ·exact fun _ => (show (n + 1) * 1 <= 140737488355328 by omega)
    constructor
    ·exact fun _ => ⟨(show 0 + n * 1 <= u.length by omega), (show 0 + 1 * 1 <= 1 by omega)⟩
    intro cap hcap
    have hcap : n + 1 <= cap := hcap
    cbv
    obtain ⟨n2, hn2⟩ : ∃ n2, n2 = n + 1 := ⟨_, rfl⟩
    refine ⟨(i + 1, u2, n2, cap, l2), [some 248], ⟨(by show i + 1 <= M + 1; omega), hu2l, (by show n2 = i + 1; omega), (by show n2 <= cap; omega), q3, (fun h => q4 (by have h : i + 1 = M + 1 := h; omega)), q1, q2⟩, by simp only; omega, by decide, ?_⟩
    cbv
    subst hΩ
    refine ⟨hn2.symm, ?_, ?_, ?_⟩
    ·show binL .quo .i64 (binL .add .i64 (binL .add .i64 (l : Int) (xs.getD i 0)) (ys.getD i 0)) 256 = (l2 : Int)
     have ed : binL .add .i64 (binL .add .i64 (l : Int) (xs.getD i 0)) (ys.getD i 0) = (d : Int) := ed
     rw [ed, qbs (by rw [Int.tdiv_eq_ediv_of_nonneg (by omega)]; omega) (by rw [Int.tdiv_eq_ediv_of_nonneg (by omega)]; omega), Int.tdiv_eq_ediv_of_nonneg (by omega)]; omega
    ·show binL .add .i64 (i : Int) 1 = ((i + 1 : Nat) : Int)
     rw [qu (by omega) (by omega)]; omega
    ·show (u.drop 0).take n ++ [IntKind.u8.wrap (binL .rem .i64 (binL .add .i64 (binL .add .i64 (l : Int) (xs.getD i 0)) (ys.getD i 0)) 256)] = u2
     have ed : binL .add .i64 (binL .add .i64 (l : Int) (xs.getD i 0)) (ys.getD i 0) = (d : Int) := ed
     have er : binL .rem .i64 (d : Int) 256 = (d : Int) % 256 := Int.tmod_eq_emod_of_nonneg (a := (d : Int)) (b := 256) (Int.natCast_nonneg d)
     have hu2 : u2 = u ++ [((d % 256 : Nat) : Int)] := hu2
     rw [ed, er, List.drop_zero, List.take_of_length_le (by omega), hu2, IntKind.wrap_u8]
     congr 2
     omega
   ·intro hc3
    have hl2 : l = 0 := by
     rw [hΩ] at hc3
     have h : ¬ (l : Int) > 0 := of_decide_eq_false hc3
     omega
    have hu := qsg bx bys (u := u) (i := i) (by omega) (by rw [<- hl2]; exact hv)
    have hul : u.length = n := by omega
    cbv
    refine qv hE hI hm (fun z : Nat => (mkT 21 [(0, .sl 32 1 (.l 0) (.s n) (.s c)), (2, .val (.slice none 0 0)), (3, .int .i64 z)], [(32, .seq .u8 u)])) (fun z => z <= n /\ nV (u.take z) = nV u) (fun z => z) 0 ⟨n, [], ⟨Nat.le_refl _, by rw [List.take_of_length_le (by omega)]⟩, Nat.zero_le _, ?_⟩ fun k hz => ⟨1000, ?_⟩
    ·cbv
     subst hΩ
     exact ⟨rfl, trivial⟩
    obtain ⟨hk, hkv⟩ : k <= n /\ nV (u.take k) = nV u := hz
    cbv
    constructor
    ·intro hc3
     have hk0 : 0 < k := by
      rw [hΩ] at hc3
      have h : (k : Int) > 0 := of_decide_eq_true hc3
      omega
     obtain ⟨m, hm1⟩ : ∃ m, k = m + 1 := ⟨k - 1, by omega⟩
     have es : binL .sub .i64 (k : Int) 1 = (m : Int) := by rw [qx (by omega) (by omega)]; omega
     cbv
     constructor
     ·intro _
      subst hΩ
      have es : binL .sub .i64 (k : Int) 1 = (m : Int) := es
      show 0 <= binL .sub .i64 (k : Int) 1 /\ binL .sub .i64 (k : Int) 1 < (n : Int)
      rw [es]; omega
     constructor
     ·intro _
      subst hΩ
      have es : binL .sub .i64 (k : Int) 1 = (m : Int) := es
      show (binL .sub .i64 (k : Int) 1).toNat + 1 <= u.length
      rw [es, Int.toNat_natCast]; omega
     constructor
     ·intro hc4
      have hz : u.getD m 0 = 0 := by
       subst hΩ
       have es : binL .sub .i64 (k : Int) 1 = (m : Int) := es
       have h : u.getD (binL .sub .i64 (k : Int) 1).toNat 0 = 0 := eq_of_beq hc4
       rw [es, Int.toNat_natCast] at h; exact h
      have hst := qdU hub hz (by rw [<- hm1]; exact hkv)
      cbv
      refine ⟨m, [], ⟨by omega, hst⟩, by omega, Nat.zero_le _, ?_⟩
      cbv
      subst hΩ
      have es : binL .sub .i64 (k : Int) 1 = (m : Int) := es
      exact ⟨es, trivial⟩
     ·intro hc4
      cbv
      constructor
      ·intro _
       refine ⟨trivial, (show (0 : Int) <= (k : Int) by omega), trivial, Nat.zero_le _, ?_, Nat.le_refl _⟩
       subst hΩ
       show (k : Int).toNat <= c
       omega
      refine hQ (u.take k, c) _ _ _ ?_ ?_
      ·refine ⟨hkv.trans hu, qaz hub k, ?_, ?_⟩
       ·show (u.take k).length <= max xs.length ys.length + 1; rw [List.length_take]; omega
       ·show (u.take k).length <= c; rw [List.length_take]; omega
      ·subst hΩ
       refine ⟨rfl, rfl, ?_, ?_⟩
       ·show 0 + k <= u.length; omega
       ·show u.take k = (u.drop 0).take k
        rw [List.drop_zero]
    ·intro hc3
     cbv
     constructor
     ·intro _
      refine ⟨trivial, (show (0 : Int) <= (k : Int) by omega), trivial, Nat.zero_le _, ?_, Nat.le_refl _⟩
      subst hΩ
      show (k : Int).toNat <= c
      omega
     refine hQ (u.take k, c) _ _ _ ?_ ?_
     ·refine ⟨hkv.trans hu, qaz hub k, ?_, ?_⟩
      ·show (u.take k).length <= max xs.length ys.length + 1; rw [List.length_take]; omega
      ·show (u.take k).length <= c; rw [List.length_take]; omega
     ·subst hΩ
      refine ⟨rfl, rfl, ?_, ?_⟩
      ·show 0 + k <= u.length; omega
      ·show u.take k = (u.drop 0).take k
       rw [List.drop_zero]
end Go.Sx.Tryz
end
section
set_option maxHeartbeats 4000000
namespace Go.Sx.Tryz
open Go.Proofs
set_option maxRecDepth 40000
def qhd (Ω : Om) : qd := fun args => match args with
 | [.roi .u8 bs, .int .i64 y] => ⟨∀ _ : Unit, (-1000 <= y /\ y <= 0) /\ bs.length < 17592186044416 /\ Byt bs, List Int × Nat, fun z => nV z.1 = nV bs / 2 ^ (-y).toNat /\ Byt z.1 /\ z.1.length <= bs.length /\ z.1.length <= z.2, fun z => .fr .u8 z.1 z.2⟩
 | _ => PR.none
noncomputable def qsp : List (FuncId × Func) := [(148, Tryz.f148)]
theorem qsq : Ctr Tryz.prog T glob 160 (qhd Om.real) := by
 refine qo T_ok qi qj (fun Ω => [(97, qdW Ω), (98, qcy Ω)]) qsp (fun Ω => []) [] (qb qjT (qb qfk qg)) (qG Tryz.call148 Tryz.func148 (by kernel_rfl) qh) qe qf Tryz.func160 (by rfl) (by kernel_rfl) Tryz.call160 ?_ ?_
 ·intro args; unfold qhd; split
  ·exact qai ⟨trivial, trivial, trivial⟩ fun h => qcw (Nat.lt_of_le_of_lt (Nat.div_le_self _ _) (qaO (h ()).2.2))
  ·exact PR.good_none
 ·intro P Ω hΩ hE hI hm args pr hs hp Q hQ
  unfold qhd at hs
  split at hs <;> subst hs <;> try (exact hp.elim)
  rename_i bs y
  obtain ⟨⟨hy0, hy1⟩, hl, hb⟩ := hp ()
  obtain ⟨s, hs⟩ : ∃ s : Nat, s = (-y).toNat := ⟨_, rfl⟩
  obtain ⟨W, hW⟩ : ∃ W, W = nV bs / 2 ^ s := ⟨_, rfl⟩
  refine ⟨1000, ?_⟩
  conv => cbv
  constructor
  ·exact fun _ _ => ⟨by omega, hb⟩
  intro (z : Nat) hz
  obtain ⟨⟨hz1, _⟩, hz2⟩ : IsLen (nV bs) z /\ z <= 8 * bs.length := hz
  conv => cbv
  obtain ⟨N, hN⟩ : ∃ N : Int, N = z + y := ⟨_, rfl⟩
  have eN : Ω.bin .add .i64 (z : Int) y = N := by
   subst hΩ
   show binL .add .i64 (z : Int) y = N
   rw [qu (by omega) (by omega), hN]
  have hW2 : W < 2 ^ N.toNat := by
   rw [hW, show N.toNat = z - s by omega]; exact qsk hz1
  have hNl : N <= 8 * bs.length := by omega
  refine qv hE hI hm (fun z : Nat × List Int × Nat × Nat × Nat => (mkT 40 [(0, .roi .u8 bs), (1, .int .i64 y), (4, .val (.slice none 0 0)), (5, .sl 64 1 (.l 0) (.s z.2.2.1) (.s z.2.2.2.1)), (6, .int .i64 N), (7, .int .i64 z.2.2.2.2)], [(64, .seq .u8 z.2.1)])) (fun z => z.1 <= bs.length /\ z.2.1 = qK W z.1 /\ z.2.2.1 = z.1 /\ z.2.2.1 <= z.2.2.2.1 /\ z.2.2.2.2 = 8 * z.1) (fun z => N.toNat - 8 * z.1) 1 ⟨(0, [], 0, 0, 0), [none], ⟨Nat.zero_le _, rfl, rfl, Nat.le_refl _, rfl⟩, by decide, ?_⟩ fun z hz => ⟨1000, ?_⟩
  ·conv => cbv
   exact ⟨eN, rfl⟩
  obtain ⟨j, u, n, c, i⟩ := z
  obtain ⟨hj, hu0, hn, hc, hi⟩ : j <= bs.length /\ u = qK W j /\ n = j /\ n <= c /\ i = 8 * j := hz
  conv => cbv
  constructor
  ·intro hc2
   have hc2' : (i : Int) < N := by rw [hΩ] at hc2; exact of_decide_eq_true hc2
   conv => cbv
   refine qv hE hI hm (fun z : Nat × Int × Nat => (mkT 40 [(0, .roi .u8 bs), (1, .int .i64 y), (4, .val (.slice none 0 0)), (5, .sl 64 1 (.l 0) (.s n) (.s c)), (6, .int .i64 N), (7, .int .i64 i), (8, .int .i64 z.2.2), (9, .int .i64 z.2.1)], [(64, .seq .u8 u)])) (fun z => z.1 <= 8 /\ z.2.1 = z.1 - 1 /\ z.2.2 = W / 2 ^ (i + z.1) % 2 ^ (8 - z.1)) (fun z => z.1) 0 ⟨(8, 7, 0), [], ⟨Nat.le_refl _, rfl, by rw [show 8 - 8 = 0 from rfl, Nat.pow_zero, Nat.mod_one]⟩, Nat.zero_le _, ?_⟩ fun z hz => ⟨1000, ?_⟩
   ·conv => cbv
    exact ⟨rfl, trivial⟩
   obtain ⟨k, kk, x⟩ := z
   obtain ⟨hk, hkk, hx⟩ : k <= 8 /\ kk = (k : Int) - 1 /\ x = W / 2 ^ (i + k) % 2 ^ (8 - k) := hz
   conv => cbv
   constructor
   ·intro hc3
    have hkk : kk = (k : Int) - 1 := hkk
    have hc' : kk >= 0 := by rw [hΩ] at hc3; exact of_decide_eq_true hc3
    obtain ⟨m, rfl⟩ : ∃ m : Nat, kk = m := ⟨kk.toNat, by omega⟩
    have hk1 : k = m + 1 := by omega
    have ex1 : binL .sub .i64 (binL .add .i64 (i : Int) (m : Int)) y = ((i + m + s : Nat) : Int) := by
     rw [qu (by omega) (by omega), qx (by omega) (by omega)]; omega
    have hxb : x < 2 ^ (8 - k) := by rw [hx]; exact Nat.mod_lt _ (Nat.pow_pos (by decide))
    have hp8 : 2 ^ (8 - k) <= 2 ^ 8 := Nat.pow_le_pow_right (by decide) (by omega)
    have hbl := qbT W (i + m)
    obtain ⟨x2, hx2⟩ : ∃ x2, x2 = 2 * x + bitN W (i + m) := ⟨_, rfl⟩
    have hx3 : x2 = W / 2 ^ (i + m) % 2 ^ (8 - m) := by
     rw [show 8 - m = (8 - k) + 1 by omega, qsj, hx2, hx, hk1]
    have ht : ∀ B : Nat, (if binL .sub .i64 (binL .add .i64 (i : Int) (m : Int)) y < 0 then (0 : Int) else ((bitN B (binL .sub .i64 (binL .add .i64 (i : Int) (m : Int)) y).toNat : Nat) : Int)) = ((bitN B (i + m + s) : Nat) : Int) := by
     intro B; rw [ex1, if_neg (by omega), Int.toNat_natCast]
    conv => cbv
    constructor
    ·intro _ _
     subst hΩ
     refine ⟨by omega, ?_, hb⟩
     show -9223372036854775808 <= binL .sub .i64 (binL .add .i64 (i : Int) (m : Int)) y /\ binL .sub .i64 (binL .add .i64 (i : Int) (m : Int)) y < _
     rw [ex1]; omega
    intro _ _
    conv => cbv
    obtain ⟨k2, hk2⟩ : ∃ k2 : Int, k2 = (m : Int) - 1 := ⟨_, rfl⟩
    refine ⟨(m, k2, x2), [], ⟨by omega, hk2, hx3⟩, by simp only; omega, Nat.zero_le _, ?_⟩
    conv => cbv
    subst hΩ
    refine ⟨?_, ?_⟩
    ·show binL .add .i64 (binL .mul .i64 2 (x : Int)) (if binL .sub .i64 (binL .add .i64 (i : Int) (m : Int)) y < 0 then (0 : Int) else ((bitN (nV bs) (binL .sub .i64 (binL .add .i64 (i : Int) (m : Int)) y).toNat : Nat) : Int)) = (x2 : Int)
     rw [ht, qsi, <- hW, qaj (by omega) (by omega), qu (by omega) (by omega), hx2]; omega
    ·refine ⟨?_, trivial⟩
     show binL .sub .i64 (m : Int) 1 = k2
     rw [hk2]; exact qx (by omega) (by omega)
   ·intro hc3
    have hkk : kk = (k : Int) - 1 := hkk
    have hc' : ¬ kk >= 0 := by rw [hΩ] at hc3; exact of_decide_eq_false hc3
    have h0 : k = 0 := by omega
    have hx0 : x = W / 2 ^ i % 256 := by rw [hx, h0]; rfl
    have hxb : x < 256 := by rw [hx0]; exact Nat.mod_lt _ (by decide)
    have hx8 : qK W (j + 1) = u ++ [(x : Int)] := by
     rw [qjN, <- hu0, hx0, hi, show (256 : Nat) = 2 ^ 8 from rfl, <- Nat.pow_mul]
    have hul : u.length = n := by rw [hu0, qbg, hn]
    obtain ⟨u2, hu2⟩ : ∃ u2, u2 = qK W (j + 1) := ⟨_, rfl⟩
    obtain ⟨i2, hi2⟩ : ∃ i2, i2 = 8 * (j + 1) := ⟨_, rfl⟩
    conv => cbv
    constructor
    ·exact fun _ => (show (n + 1) * 1 <= 140737488355328 by omega)
    constructor
    ·exact fun _ => ⟨(show 0 + n * 1 <= u.length by omega), (show 0 + 1 * 1 <= 1 by omega)⟩
    intro cap hcap
    have hcap : n + 1 <= cap := hcap
    conv => cbv
    obtain ⟨n2, hn2⟩ : ∃ n2, n2 = n + 1 := ⟨_, rfl⟩
    refine ⟨(j + 1, u2, n2, cap, i2), [some 160], ⟨(by show j + 1 <= bs.length; omega), hu2, (by show n2 = j + 1; omega), (by show n2 <= cap; omega), hi2⟩, by simp only; omega, by decide, ?_⟩
    conv => cbv
    subst hΩ
    refine ⟨hn2.symm, ?_, ?_⟩
    ·show binL .add .i64 (i : Int) 8 = (i2 : Int)
     rw [qu (by omega) (by omega), hi2]; omega
    ·show (u.drop 0).take n ++ [IntKind.u8.wrap (x : Int)] = u2
     rw [List.drop_zero, List.take_of_length_le (by omega), hu2, hx8, IntKind.wrap_u8]
     congr 2
     omega
  ·intro hc2
   have hc2' : ¬ (i : Int) < N := by rw [hΩ] at hc2; exact of_decide_eq_false hc2
   conv => cbv
   have hub : Byt u := by rw [hu0]; exact qde _ _
   have hul : u.length = n := by rw [hu0, qbg, hn]
   have hu : nV u = nV bs / 2 ^ (-y).toNat := by
    rw [hu0, qfi, <- hs, <- hW, Nat.mod_eq_of_lt]
    refine Nat.lt_of_lt_of_le hW2 ?_
    rw [show (256 : Nat) = 2 ^ 8 from rfl, <- Nat.pow_mul]
    exact Nat.pow_le_pow_right (by decide) (by omega)
   refine qv hE hI hm (fun z : Nat => (mkT 21 [(0, .sl 64 1 (.l 0) (.s n) (.s c)), (2, .val (.slice none 0 0)), (3, .int .i64 z)], [(64, .seq .u8 u)])) (fun z => z <= n /\ nV (u.take z) = nV u) (fun z => z) 0 ⟨n, [], ⟨Nat.le_refl _, by rw [List.take_of_length_le (by omega)]⟩, Nat.zero_le _, ?_⟩ fun k hz => ⟨1000, ?_⟩
   ·conv => cbv
    subst hΩ
    exact ⟨rfl, trivial⟩
   obtain ⟨hk, hkv⟩ : k <= n /\ nV (u.take k) = nV u := hz
   conv => cbv
   constructor
   ·intro hc3
    have hk0 : 0 < k := by
     rw [hΩ] at hc3
     have h : (k : Int) > 0 := of_decide_eq_true hc3
     omega
    obtain ⟨m, hm1⟩ : ∃ m, k = m + 1 := ⟨k - 1, by omega⟩
    have es : binL .sub .i64 (k : Int) 1 = (m : Int) := by rw [qx (by omega) (by omega)]; omega
    conv => cbv
    constructor
    ·intro _
     subst hΩ
     have es : binL .sub .i64 (k : Int) 1 = (m : Int) := es
     show 0 <= binL .sub .i64 (k : Int) 1 /\ binL .sub .i64 (k : Int) 1 < (n : Int)
     rw [es]; omega
    constructor
    ·intro _
     subst hΩ
     have es : binL .sub .i64 (k : Int) 1 = (m : Int) := es
     show (binL .sub .i64 (k : Int) 1).toNat + 1 <= u.length
     rw [es, Int.toNat_natCast]; omega
    constructor
    ·intro hc4
     have hz : u.getD m 0 = 0 := by
      subst hΩ
      have es : binL .sub .i64 (k : Int) 1 = (m : Int) := es
      have h : u.getD (binL .sub .i64 (k : Int) 1).toNat 0 = 0 := eq_of_beq hc4
      rw [es, Int.toNat_natCast] at h; exact h
     have hst := qdU hub hz (by rw [<- hm1]; exact hkv)
     conv => cbv
     refine ⟨m, [], ⟨by omega, hst⟩, by omega, Nat.zero_le _, ?_⟩
     conv => cbv
     subst hΩ
     have es : binL .sub .i64 (k : Int) 1 = (m : Int) := es
     exact ⟨es, trivial⟩
    ·intro hc4
     cbv
     constructor
     ·intro _
      refine ⟨trivial, (show (0 : Int) <= (k : Int) by omega), trivial, Nat.zero_le _, ?_, Nat.le_refl _⟩
      subst hΩ
      show (k : Int).toNat <= c
      omega
     refine hQ (u.take k, c) _ _ _ ?_ ?_
     ·refine ⟨hkv.trans hu, qaz hub k, ?_, ?_⟩
      ·show (u.take k).length <= bs.length; rw [List.length_take]; omega
      ·show (u.take k).length <= c; rw [List.length_take]; omega
     ·subst hΩ
      refine ⟨rfl, rfl, ?_, ?_⟩
      ·show 0 + k <= u.length; omega
      ·show u.take k = (u.drop 0).take k
       rw [List.drop_zero]
   ·intro hc3
    cbv
    constructor
    ·intro _
     refine ⟨trivial, (show (0 : Int) <= (k : Int) by omega), trivial, Nat.zero_le _, ?_, Nat.le_refl _⟩
     subst hΩ
     show (k : Int).toNat <= c
     omega
    refine hQ (u.take k, c) _ _ _ ?_ ?_
    ·refine ⟨hkv.trans hu, qaz hub k, ?_, ?_⟩
     ·show (u.take k).length <= bs.length; rw [List.length_take]; omega
     ·show (u.take k).length <= c; rw [List.length_take]; omega
    ·subst hΩ
     refine ⟨rfl, rfl, ?_, ?_⟩
     ·show 0 + k <= u.length; omega
     ·show u.take k = (u.drop 0).take k
      rw [List.drop_zero]
end Go.Sx.Tryz
end
