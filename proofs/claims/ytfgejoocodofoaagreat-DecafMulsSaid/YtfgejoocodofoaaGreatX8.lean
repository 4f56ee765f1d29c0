/-
  Part of the proof of a statement: the means.
-/
import Derived.Test.YtfgejoocodofoaaGreatX3
import Derived.Test.YtfgejoocodofoaaGreatX5
import Derived.Test.YtfgejoocodofoaaGreatX7
import Derived.KernelRfl
import Derived.Laws.MathBits
set_option linter.unusedSectionVars false
set_option linter.unusedVariables false
set_option linter.unusedSimpArgs false
set_option linter.deprecated false
section
set_option maxHeartbeats 4000000
namespace Go.Sx
def mkT (n : Nat) (l : List (Nat × SVal)) : List SVal := l.foldl (fun ts p => setT ts p.1 p.2) (List.replicate n .junk)
theorem qr {p : Prop} {r : SVal} {args : List SVal} (h : IdsLt noId r) (h2 : ∀ (E : Env) (b : Nat), (place E b r).2 = []) (hc : IdsLtL noId args) : PR.Good ⟨p, Unit, fun _ => True, fun _ => r⟩ args :=
 ⟨fun _ => h, (fun E x b q hq => by rw [h2 E b] at hq; cases hq), fun _ => hc, fun _ => ⟨(), trivial⟩⟩
theorem qa5 {pr : PR} {args : List SVal} (h : (∀ x, IdsLt noId (pr.res x)) /\ ∀ E : Env, ∀ x b, (place E b (pr.res x)).2 = []) (hc : IdsLtL noId args) (hx : pr.pre -> ∃ x, pr.post x) : PR.Good pr args :=
 ⟨h.1, (fun E x b p hp => by rw [h.2 E x b] at hp; cases hp), fun _ => hc, hx⟩
theorem qai {args : List SVal} {p : Prop} {k : IntKind} {post : List Int × Nat -> Prop} (hc : IdsLtL noId args) (h : p -> ∃ x, post x) : PR.Good ⟨p, List Int × Nat, post, fun z => .fr k z.1 z.2⟩ args :=
 ⟨fun _ => trivial, fun E x b q hq => by simp [place] at hq; subst hq; exact ⟨Nat.le_refl _, by simp⟩, fun _ => hc, h⟩
theorem qav (l : List Int) : ∃ x : List Int × Nat, x.1 = l /\ x.1.length <= x.2 := ⟨(l, l.length), rfl, Nat.le_refl _⟩
theorem qg {P : Program} {T : TypeId -> Option TI} {glob : Nat -> SVal} : ∀ p ∈ ([] : List (FuncId × qd)), Ctr P T glob p.1 p.2 := fun p hp => by cases hp
theorem qb {P : Program} {T : TypeId -> Option TI} {glob : Nat -> SVal} {g : FuncId} {s : qd} {l : List (FuncId × qd)} (h : Ctr P T glob g s) (hl : ∀ p ∈ l, Ctr P T glob p.1 p.2) : ∀ p ∈ (g, s) :: l, Ctr P T glob p.1 p.2 := fun p hp => by
 rcases List.mem_cons.1 hp with rfl | hp
 ·exact h
 ·exact hl p hp
theorem qh {P : Program} : ∀ p ∈ ([] : List (FuncId × Func)), qar P p.1 /\ P.funcs[p.1]? = some p.2 /\ qE (qah p.2) = true := fun p hp => by cases hp
theorem qG {P : Program} {g : FuncId} {s : Func} {l : List (FuncId × Func)} (h : qar P g) (h1 : P.funcs[g]? = some s) (h2 : qE (qah s) = true) (hl : ∀ p ∈ l, qar P p.1 /\ P.funcs[p.1]? = some p.2 /\ qE (qah p.2) = true) :
  ∀ p ∈ (g, s) :: l, qar P p.1 /\ P.funcs[p.1]? = some p.2 /\ qE (qah p.2) = true := fun p hp => by
 rcases List.mem_cons.1 hp with rfl | hp
 ·exact ⟨h, h1, h2⟩
 ·exact hl p hp
namespace Tryz
open Go.Proofs
def glob : Nat -> SVal := fun _ => .junk
theorem qi : ∀ g, IdsLt noId (glob g) := fun g => trivial
theorem qj : Tryz.prog.follows .mixedOrders = true := by rfl
def qeG : XK := .add
def qjn : XK := .sub
theorem qgy : XOk Tryz.prog 153 qeG := x_of Tryz.func153 (by kernel_rfl) (by kernel_rfl) (by kernel_rfl) (by kernel_rfl)
theorem qmK : XOk Tryz.prog 166 qjn := x_of Tryz.func166 (by kernel_rfl) (by kernel_rfl) (by kernel_rfl) (by kernel_rfl)
def qeH (Ω : Om) : qd := fun args => match args with
 | [.int .u64 x, .int .u64 y] => ⟨∀ _ : Unit, 0 <= x /\ x < 18446744073709551616 /\ 0 <= y /\ y < 18446744073709551616, Unit, fun _ => True, fun _ => .tup [.int .u64 (Ω.hide _ fun _ => (qci x y)), .int .u64 (Ω.hide _ fun _ => (qbo x y))]⟩
 | _ => PR.none
theorem qmL : Ctr Tryz.prog T glob 157 (qeH Om.real) := by
 refine qo T_ok qi qj (fun Ω => []) [] (fun Ω => []) [] qg qh qe qf Tryz.func157 (by rfl) (by kernel_rfl) Tryz.call157 ?_ ?_
 ·intro args; unfold qeH; split
  ·exact qr (by repeat' constructor) (fun _ _ => rfl) (by repeat' constructor)
  ·exact PR.good_none
 ·intro P Ω hΩ hE hI hm args pr hs hp Q hQ
  unfold qeH at hs
  split at hs <;> subst hs <;> try (exact hp.elim)
  rename_i x y
  obtain ⟨h1, h2, h3, h4⟩ := hp ()
  refine ⟨1000, ?_⟩
  cbv
  refine hQ () _ _ _ trivial ?_
  subst hΩ
  refine ⟨⟨⟨rfl, ?_⟩, ⟨rfl, ?_⟩, trivial⟩, rfl, rfl⟩
  ·have := mul64_arith x y h1 h2 h3 h4
   simp only [Om.real, ua, um, qqv, qqx]
   unfold qci
   exact this
  ·unfold qbo; exact um x y
end Tryz
end Go.Sx
end
section
set_option maxHeartbeats 4000000
namespace Go.Sx.Tryz
open Go.Proofs
def qdE (Ω : Om) : qd := fun args => match args with
 | [] => ⟨True, Unit, fun _ => True, fun _ => .row .u64 8 [72057594037927935, 72057594037927935, 72057594037927935, 72057594037927935, 72057594037927934, 72057594037927935, 72057594037927935, 72057594037927935]⟩
 | _ => PR.none
theorem qjo : Ctr Tryz.prog T glob 119 (qdE Om.real) := by
 refine qo T_ok qi qj (fun Ω => []) [] (fun Ω => []) [] qg qh qe qf Tryz.func119 (by rfl) (by kernel_rfl) Tryz.call119 ?_ ?_
 ·intro args; unfold qdE; split
  ·exact qr (by repeat' constructor) (fun _ _ => rfl) (by repeat' constructor)
  ·exact PR.good_none
 ·intro P Ω hΩ hE hI hm args pr hs hp Q hQ
  unfold qdE at hs
  split at hs <;> subst hs <;> try (exact hp.elim)
  refine ⟨1000, ?_⟩
  cbv
  repeat (refine q9 hE hI hm (n := 1000) ?_; cbv)
  refine hQ () _ _ _ trivial ?_
  subst hΩ
  refine ⟨rfl, rfl, ?_⟩
  rfl
def qcl (Ω : Om) : qd := fun args => match args with
 | [.row .u64 8 a] => ⟨∀ _ : Unit, a.length = 8, Unit, fun _ => True, fun _ => .row .u64 8 (Ω.hide _ fun _ => qac a)⟩
 | _ => PR.none
theorem qeI : Ctr Tryz.prog T glob 114 (qcl Om.real) := by
 refine qo T_ok qi qj (fun Ω => []) [] (fun Ω => []) [] qg qh qe qf Tryz.func114 (by rfl) (by kernel_rfl) Tryz.call114 ?_ ?_
 ·intro args; unfold qcl; split
  ·exact qr (by repeat' constructor) (fun _ _ => rfl) (by repeat' constructor)
  ·exact PR.good_none
 ·intro P Ω hΩ hE hI hm args pr hs hp Q hQ
  unfold qcl at hs
  split at hs <;> subst hs <;> try (exact hp.elim)
  rename_i a
  refine ⟨1000, ?_⟩
  cbv
  refine qv hE hI hm (fun x : Nat × Int × List Int => (mkT 44 [(1, .ptr 0 (.l 0)), (2, .ptr 8 (.l 0)), (3, .int .u64 x.2.1), (5, .int .i64 x.1)], [(8, .agg [.row .u64 8 [0, 0, 0, 0, 0, 0, 0, 0]]), (0, .row .u64 8 x.2.2)])) (fun x => x.1 <= 8 /\ x.2 = qje a x.1) (fun x => 8 - x.1) 0 ⟨(0, 0, a), [], ⟨Nat.zero_le _, rfl⟩, Nat.le_refl _, by cbv; exact ⟨rfl, trivial⟩⟩ fun x hx => ⟨1000, ?_⟩
  obtain ⟨i, o, u⟩ := x
  obtain ⟨hi, hu⟩ : i <= 8 /\ (o, u) = qje a i := hx
  cbv
  constructor
  ·intro hc
   cbv
   rw [hΩ] at hc; simp (disch := omega) only [Om.real, qk, decide_eq_true_eq, decide_eq_false_iff_not] at hc
   obtain ⟨s', hs'⟩ : ∃ s', s' = qbb (o, u) i := ⟨_, rfl⟩
   repeat (refine ⟨by ((try intro _); (try subst hΩ); simp (disch := omega) only [Om.real, qk, SN.v]; omega), ?_⟩)
   refine ⟨(i + 1, s'), [], ⟨hc, ?_⟩, by simp only; omega, Nat.zero_le _, ?_⟩
   ·rw [hs', hu]; rfl
   cbv
   subst hΩ
   simp (disch := omega) only [Om.real, qk]
   rw [hs']
   exact ⟨rfl, trivial, rfl⟩
  ·intro hc
   cbv
   rw [hΩ] at hc; simp (disch := omega) only [Om.real, qk, decide_eq_true_eq, decide_eq_false_iff_not] at hc
   have h8 : i = 8 := by omega
   subst h8
   refine hQ () _ _ _ trivial ?_
   subst hΩ
   have e : qac a = qgu (o, u) := by unfold qac; rw [show qgt a = (o, u) from hu.symm]
   refine ⟨rfl, rfl, ?_⟩
   rw [e]; rfl
def qgz (Ω : Om) : qd := fun args => match args with
 | [.row .u64 2 v, .row .u64 2 w] => ⟨∀ _ : Unit, WN v /\ WN w, Unit, fun _ => True, fun _ => .row .u64 2 (Ω.hide _ fun _ => qO v w)⟩
 | [.row .u64 2 v, .agg [.lit .u64 0, .lit .u64 0]] => ⟨∀ _ : Unit, WN v, Unit, fun _ => True, fun _ => .row .u64 2 (Ω.hide _ fun _ => qO v [0, 0])⟩
 | _ => PR.none
theorem qqF : Ctr Tryz.prog T glob 125 (qgz Om.real) := by
 refine qo T_ok qi qj (fun Ω => []) [] (fun Ω => []) [(153, qeG)] qg qh qe (qdA qgy qf) Tryz.func125 (by rfl) (by kernel_rfl) Tryz.call125 ?_ ?_
 ·intro args; unfold qgz; split
  ·exact qr (by repeat' constructor) (fun _ _ => rfl) (by repeat' constructor)
  ·exact qr (by repeat' constructor) (fun _ _ => rfl) (by repeat' constructor)
  ·exact PR.good_none
 ·intro P Ω hΩ hE hI hm args pr hs hp Q hQ
  unfold qgz at hs
  split at hs <;> subst hs <;> try (exact hp.elim)
  ·rename_i v w
   obtain ⟨⟨a, b, rfl, a1, a2, a3, a4⟩, ⟨c, d, rfl, c1, c2, c3, c4⟩⟩ := hp ()
   refine ⟨1000, ?_⟩
   cbv
   subst hΩ
   refine ⟨fun _ => ⟨a3, c3, by decide, by decide⟩, fun _ => ⟨a1, c1, ?_, ?_⟩, ?_⟩
   ·show 0 <= (b + d + 0) / 18446744073709551616; omega
   ·show (b + d + 0) / 18446744073709551616 <= 1; omega
   refine hQ () _ _ _ trivial (qeE ?_)
   unfold qO wOf wv
   simp only [Om.real, List.getD, List.getElem?_cons_succ, List.getElem?_cons_zero, Option.getD_some, List.cons.injEq, and_true]
   constructor <;> omega
  ·rename_i v
   obtain ⟨a, b, rfl, a1, a2, a3, a4⟩ := hp ()
   refine ⟨1000, ?_⟩
   cbv
   subst hΩ
   refine ⟨fun _ => ⟨a3, by decide, by decide, by decide⟩, fun _ => ⟨a1, by decide, ?_, ?_⟩, ?_⟩
   ·show 0 <= (b + 0 + 0) / 18446744073709551616; omega
   ·show (b + 0 + 0) / 18446744073709551616 <= 1; omega
   refine hQ () _ _ _ trivial (qeE ?_)
   unfold qO wOf wv
   simp only [Om.real, List.getD, List.getElem?_cons_succ, List.getElem?_cons_zero, Option.getD_some, List.cons.injEq, and_true]
   constructor <;> omega
def qgA (Ω : Om) : qd := fun args => match args with
 | [.row .u64 2 w, .int .u64 x, .int .u64 y] => ⟨∀ _ : Unit, WN w /\ (0 <= x /\ x < 18446744073709551616) /\ 0 <= y /\ y < 18446744073709551616, Unit, fun _ => True, fun _ => .row .u64 2 (Ω.hide _ fun _ => qbp w x y)⟩
 | [.agg [.lit .u64 0, .lit .u64 0], .int .u64 x, .int .u64 y] => ⟨∀ _ : Unit, (0 <= x /\ x < 18446744073709551616) /\ 0 <= y /\ y < 18446744073709551616, Unit, fun _ => True, fun _ => .row .u64 2 (Ω.hide _ fun _ => qbp [0, 0] x y)⟩
 | _ => PR.none
noncomputable def qqG : List (FuncId × Func) := [(125, Tryz.f125)]
theorem qqH : Ctr Tryz.prog T glob 124 (qgA Om.real) := by
 refine qo T_ok qi qj (fun Ω => [(157, qeH Ω)]) qqG (fun Ω => []) [(153, qeG)] (qb qmL qg) (qG Tryz.call125 Tryz.func125 (by kernel_rfl) qh) qe (qdA qgy qf) Tryz.func124 (by rfl) (by kernel_rfl) Tryz.call124 ?_ ?_
 ·intro args; unfold qgA; split
  ·exact qr (by repeat' constructor) (fun _ _ => rfl) (by repeat' constructor)
  ·exact qr (by repeat' constructor) (fun _ _ => rfl) (by repeat' constructor)
  ·exact PR.good_none
 ·intro P Ω hΩ hE hI hm args pr hs hp Q hQ
  unfold qgA at hs
  split at hs <;> subst hs <;> try (exact hp.elim)
  ·rename_i w x y
   obtain ⟨⟨a, b, rfl, a1, a2, a3, a4⟩, ⟨x1, x2⟩, y1, y2⟩ := hp ()
   have b1 : 0 <= x * y := Int.mul_nonneg x1 y1
   have b2 : x * y <= 18446744073709551615 * 18446744073709551615 := Int.mul_le_mul (by omega) (by omega) y1 (by decide)
   refine ⟨1000, ?_⟩
   cbv
   constructor
   ·exact fun _ _ => ⟨x1, x2, y1, y2⟩
   intro _ _
   cbv
   subst hΩ
   have e1 : qci x y = x * y / 18446744073709551616 := by unfold qci; rfl
   have e2 : qbo x y = x * y % 18446744073709551616 := by unfold qbo; rfl
   rw [e1, e2]
   generalize hm' : x * y = m at *
   refine ⟨fun _ => ⟨a3, (show 0 <= m % 18446744073709551616 by omega), by decide, by decide⟩, fun _ => ⟨a1, (show 0 <= m / 18446744073709551616 by omega), ?_, ?_⟩, ?_⟩
   ·show 0 <= (b + m % 18446744073709551616 + 0) / 18446744073709551616; omega
   ·show (b + m % 18446744073709551616 + 0) / 18446744073709551616 <= 1; omega
   refine hQ () _ _ _ trivial (qeE ?_)
   show wOf _ = _
   unfold wOf wv
   rw [hm']
   simp only [Om.real, List.getD, List.getElem?_cons_succ, List.getElem?_cons_zero, Option.getD_some, List.cons.injEq, and_true]
   constructor <;> omega
  ·rename_i x y
   obtain ⟨⟨x1, x2⟩, y1, y2⟩ := hp ()
   have b1 : 0 <= x * y := Int.mul_nonneg x1 y1
   have b2 : x * y <= 18446744073709551615 * 18446744073709551615 := Int.mul_le_mul (by omega) (by omega) y1 (by decide)
   refine ⟨1000, ?_⟩
   cbv
   constructor
   ·exact fun _ _ => ⟨x1, x2, y1, y2⟩
   intro _ _
   cbv
   subst hΩ
   have e1 : qci x y = x * y / 18446744073709551616 := by unfold qci; rfl
   have e2 : qbo x y = x * y % 18446744073709551616 := by unfold qbo; rfl
   rw [e1, e2]
   generalize hm' : x * y = m at *
   refine ⟨fun _ => ⟨by decide, (show 0 <= m % 18446744073709551616 by omega), by decide, by decide⟩, fun _ => ⟨by decide, (show 0 <= m / 18446744073709551616 by omega), ?_, ?_⟩, ?_⟩
   ·show 0 <= (0 + m % 18446744073709551616 + 0) / 18446744073709551616; omega
   ·show (0 + m % 18446744073709551616 + 0) / 18446744073709551616 <= 1; omega
   refine hQ () _ _ _ trivial (qeE ?_)
   show wOf _ = _
   unfold wOf wv
   rw [hm']
   simp only [Om.real, List.getD, List.getElem?_cons_succ, List.getElem?_cons_zero, Option.getD_some, List.cons.injEq, and_true]
   constructor <;> omega
def qgB (Ω : Om) : qd := fun args => match args with
 | [.row .u64 2 w] => ⟨∀ _ : Unit, WN w, Unit, fun _ => True, fun _ => .row .u64 2 (Ω.hide _ fun _ => qaU w)⟩
 | _ => PR.none
theorem qqI : Ctr Tryz.prog T glob 126 (qgB Om.real) := by
 refine qo T_ok qi qj (fun Ω => []) [] (fun Ω => []) [] qg qh qe qf Tryz.func126 (by rfl) (by kernel_rfl) Tryz.call126 ?_ ?_
 ·intro args; unfold qgB; split
  ·exact qr (by repeat' constructor) (fun _ _ => rfl) (by repeat' constructor)
  ·exact PR.good_none
 ·intro P Ω hΩ hE hI hm args pr hs hp Q hQ
  unfold qgB at hs
  split at hs <;> subst hs <;> try (exact hp.elim)
  rename_i w
  obtain ⟨a, b, rfl, a1, a2, a3, a4⟩ := hp ()
  refine ⟨1000, ?_⟩
  cbv
  subst hΩ
  refine hQ () _ _ _ trivial (qeE ?_)
  show wOf _ = _
  unfold wOf wv
  have e1 : binL .shr .u64 a 56 = a / 72057594037927936 := qeC a
  have e2 : binL .shr .u64 b 56 = b / 72057594037927936 := qeC b
  have e3 : binL .shl .u64 a 8 = a * 256 % 18446744073709551616 := IntKind.wrap_u64 _
  have e4 : binL .or .u64 (a * 256 % 18446744073709551616) (b / 72057594037927936) = a * 256 % 18446744073709551616 + b / 72057594037927936 := uor8 _ _ (by omega) (by omega) (by omega)
  simp only [Om.real, List.getD, List.getElem?_cons_succ, List.getElem?_cons_zero, Option.getD_some, List.cons.injEq, and_true, e1, e2, e3, e4]
  constructor <;> omega
end Go.Sx.Tryz
end
section
set_option maxHeartbeats 4000000
namespace Go.Sx.Tryz
open Go.Proofs
def qcm (Ω : Om) : qd := fun args => match args with
 | [.ab (.fe x), .ab (.fe y)] => ⟨True, Unit, fun _ => True, fun _ => .ab (.fe (Ω.hide _ fun _ => x + y))⟩
 | _ => PR.none
noncomputable def qqJ : List (FuncId × Func) := [(112, Tryz.f112), (113, Tryz.f113)]
theorem qeJ : Ctr Tryz.prog T glob 56 (qcm Om.real) := by
 refine qal T_ok qi qj (fun Ω => [(114, qcl Ω)]) qqJ (fun Ω => []) [] (qb qeI qg) (qG Tryz.call112 Tryz.func112 (by kernel_rfl) (qG Tryz.call113 Tryz.func113 (by kernel_rfl) qh)) qe qf Tryz.func56 (by rfl) (by kernel_rfl) Tryz.call56 ?_ ?_
 ·intro args; unfold qcm; split
  ·exact qr (by repeat' constructor) (fun _ _ => rfl) (by repeat' constructor)
  ·exact PR.good_none
 ·intro P Ω hΩ hE hI hm args pr hs hp cs hcs Q hQ
  unfold qcm at hs
  split at hs <;> subst hs <;> try (exact hp.elim)
  rename_i x y
  obtain ⟨_, _, rfl, ⟨xs, rfl, hx⟩, _, _, rfl, ⟨ys, rfl, hy⟩, rfl⟩ := hcs
  refine ⟨1000, ?_⟩
  cbv
  repeat (refine q9 hE hI hm (n := 1000) ?_; cbv)
  constructor
  ·intro _ _; subst hΩ; rfl
  intro _ _
  cbv
  refine hQ () _ _ _ trivial ⟨rfl, ?_⟩
  subst hΩ
  exact qqz hx hy
def qbN (Ω : Om) : qd := fun args => match args with
 | [.ab (.fe x), .ab (.fe y)] => ⟨True, Unit, fun _ => True, fun _ => .ab (.fe (Ω.hide _ fun _ => x - y))⟩
 | [.agg [.row .u64 8 [0, 0, 0, 0, 0, 0, 0, 0]], .ab (.fe y)] => ⟨True, Unit, fun _ => True, fun _ => .ab (.fe (Ω.hide _ fun _ => -y))⟩
 | _ => PR.none
noncomputable def qqK : List (FuncId × Func) := [(112, Tryz.f112), (120, Tryz.f120)]
theorem qdF : Ctr Tryz.prog T glob 62 (qbN Om.real) := by
 refine qal T_ok qi qj (fun Ω => [(114, qcl Ω), (119, qdE Ω)]) qqK (fun Ω => []) [] (qb qeI (qb qjo qg)) (qG Tryz.call112 Tryz.func112 (by kernel_rfl) (qG Tryz.call120 Tryz.func120 (by kernel_rfl) qh)) qe qf Tryz.func62 (by rfl) (by kernel_rfl) Tryz.call62 ?_ ?_
 ·intro args; unfold qbN; split
  ·exact qr (by repeat' constructor) (fun _ _ => rfl) (by repeat' constructor)
  ·exact qr (by repeat' constructor) (fun _ _ => rfl) (by repeat' constructor)
  ·exact PR.good_none
 ·intro P Ω hΩ hE hI hm args pr hs hp cs hcs Q hQ
  unfold qbN at hs
  split at hs <;> subst hs <;> try (exact hp.elim)
  ·rename_i x y
   obtain ⟨_, _, rfl, ⟨xs, rfl, hx⟩, _, _, rfl, ⟨ys, rfl, hy⟩, rfl⟩ := hcs
   refine ⟨1000, ?_⟩
   cbv
   constructor
   ·exact fun _ => trivial
   intro _ _
   cbv
   repeat (refine q9 hE hI hm (n := 1000) ?_; cbv)
   constructor
   ·intro _ _; subst hΩ; rfl
   intro _ _
   cbv
   refine hQ () _ _ _ trivial ⟨rfl, ?_⟩
   subst hΩ
   exact qmE hx hy
  ·rename_i y
   obtain ⟨_, _, rfl, rfl, _, _, rfl, ⟨ys, rfl, hy⟩, rfl⟩ := hcs
   refine ⟨1000, ?_⟩
   cbv
   constructor
   ·exact fun _ => trivial
   intro _ _
   cbv
   repeat (refine q9 hE hI hm (n := 1000) ?_; cbv)
   constructor
   ·intro _ _; subst hΩ; rfl
   intro _ _
   cbv
   refine hQ () _ _ _ trivial ⟨rfl, ?_⟩
   subst hΩ
   simp only [Om.real, List.set]
   exact qji hy
def qc2 (Ω : Om) : qd := fun args => match args with
 | [.int .i64 b, .ab (.fe x), .ab (.fe y)] => ⟨True, Unit, fun _ => True, fun _ => .ab (.fe (Ω.hide _ fun _ => if b % 2 = 0 then x else y))⟩
 | [.int .i64 b, .row .u64 8 xs, .row .u64 8 ys] => ⟨∀ _ : Unit, U64 xs /\ U64 ys, Unit, fun _ => True, fun _ => .row .u64 8 (Ω.hide _ fun _ => if b % 2 = 0 then xs else ys)⟩
 | _ => PR.none
noncomputable def qqL : List (FuncId × Func) := [(112, Tryz.f112), (165, Tryz.f165)]
theorem qgC : Ctr Tryz.prog T glob 118 (qc2 Om.real) := by
 refine qal T_ok qi qj (fun Ω => []) qqL (fun Ω => []) [] qg (qG Tryz.call112 Tryz.func112 (by kernel_rfl) (qG Tryz.call165 Tryz.func165 (by kernel_rfl) qh)) qe qf Tryz.func118 (by rfl) (by kernel_rfl) Tryz.call118 ?_ ?_
 ·intro args; unfold qc2; split
  ·exact qr (by repeat' constructor) (fun _ _ => rfl) (by repeat' constructor)
  ·exact qr (by repeat' constructor) (fun _ _ => rfl) (by repeat' constructor)
  ·exact PR.good_none
 ·intro P Ω hΩ hE hI hm args pr hs hp cs hcs Q hQ
  unfold qc2 at hs
  split at hs <;> subst hs <;> try (exact hp.elim)
  ·rename_i b x y
   obtain ⟨_, _, rfl, rfl, _, _, rfl, ⟨xs, rfl, hx⟩, _, _, rfl, ⟨ys, rfl, hy⟩, rfl⟩ := hcs
   refine ⟨1000, ?_⟩
   cbv
   repeat (refine q9 hE hI hm (n := 1000) ?_; cbv)
   refine hQ () _ _ _ trivial ⟨rfl, ?_⟩
   subst hΩ
   simp only [Om.real, List.set]
   exact qqD b hx hy
  ·rename_i b xs ys
   obtain ⟨hx, hy⟩ := hp ()
   obtain ⟨_, _, rfl, rfl, _, _, rfl, rfl, _, _, rfl, rfl, rfl⟩ := hcs
   refine ⟨1000, ?_⟩
   cbv
   repeat (refine q9 hE hI hm (n := 1000) ?_; cbv)
   refine hQ () _ _ _ trivial ⟨rfl, rfl, ?_⟩
   subst hΩ
   simp only [Om.real, List.set]
   exact qqC b hx hy
def qeK (Ω : Om) : qd := fun args => match args with
 | [.roi .u8 bs] => ⟨∀ _ : Unit, (∀ a ∈ bs, 0 <= a /\ a < 256), Bool, fun z => z = (bs.length == 56), fun z => match z with | true => .tup [.ab (.fe (Ω.hide _ fun _ => fI (qw bs))), .lit .i64 0] | false => .tup [.row .u64 8 [0, 0, 0, 0, 0, 0, 0, 0], .lit .i64 11]⟩
 | _ => PR.none
noncomputable def qqM : List (FuncId × Func) := [(112, Tryz.f112), (162, Tryz.f162)]
theorem qmM : Ctr Tryz.prog T glob 108 (qeK Om.real) := by
 refine qal T_ok qi qj (fun Ω => []) qqM (fun Ω => []) [] qg (qG Tryz.call112 Tryz.func112 (by kernel_rfl) (qG Tryz.call162 Tryz.func162 (by kernel_rfl) qh)) qe qf Tryz.func108 (by rfl) (by kernel_rfl) Tryz.call108 ?_ ?_
 ·intro args; unfold qeK; split
  ·exact qa5 ⟨fun x => by cases x <;> repeat' (first | exact trivial | constructor), fun E x b => by cases x <;> rfl⟩ ⟨trivial, trivial⟩ (fun _ => ⟨_, rfl⟩)
  ·exact PR.good_none
 ·intro P Ω hΩ hE hI hm args pr hs hp cs hcs Q hQ
  unfold qeK at hs
  split at hs <;> subst hs <;> try (exact hp.elim)
  rename_i bs
  have hb := hp ()
  obtain ⟨_, _, rfl, rfl, rfl⟩ := hcs
  refine ⟨1000, ?_⟩
  cbv
  constructor
  ·intro hc
   cbv
   rw [hΩ] at hc; simp (disch := omega) only [Om.real, qk, decide_eq_true_eq, decide_eq_false_iff_not] at hc
   refine hQ false _ _ _ ?_ ?_
   ·show false = (bs.length == 56)
    cases h : bs.length == 56 with
    | false => rfl
    | true => exact absurd (eq_of_beq h) (by omega)
   ·exact ⟨⟨⟨rfl, rfl, rfl⟩, ⟨rfl, rfl⟩, trivial⟩, rfl, rfl⟩
  ·intro hc
   cbv
   rw [hΩ] at hc; simp (disch := omega) only [Om.real, qk, decide_eq_true_eq, decide_eq_false_iff_not] at hc
   have hl : bs.length = 56 := by
    apply Classical.byContradiction
    intro hne
    exact hne (by omega)
   have hlt : ∀ k, k < 56 -> k < Ω.len bs := fun k hk => by subst hΩ; show k < bs.length; omega
   have hlt2 : ∀ k, k <= 56 -> k <= bs.length := fun k hk => by omega
   repeat (first | (refine q9 hE hI hm (n := 1000) ?_; cbv) | (constructor; exact fun _ => hlt _ (by decide); constructor; exact fun _ => hlt2 _ (by decide)))
   refine hQ true _ _ _ ?_ ?_
   ·show true = (bs.length == 56)
    rw [hl]; rfl
   ·subst hΩ
    refine ⟨⟨⟨rfl, ?_⟩, ⟨rfl, rfl⟩, trivial⟩, rfl, rfl⟩
    simp only [Om.real, List.set]
    exact qqE hl hb
end Go.Sx.Tryz
end
section
set_option maxHeartbeats 4000000
namespace Go.Sx.Tryz
open Go.Proofs
def qgD (Ω : Om) : qd := fun args => match args with
 | [.row .u64 8 a] => ⟨∀ _ : Unit, a.length = 8, List Int × Nat, fun z => z.1 = rawL a /\ z.1.length <= z.2, fun z => .fr .u8 z.1 z.2⟩
 | _ => PR.none
theorem qqX : Ctr Tryz.prog T glob 127 (qgD Om.real) := by
 refine qo T_ok qi qj (fun Ω => []) [] (fun Ω => []) [] qg qh qe qf Tryz.func127 (by rfl) (by kernel_rfl) Tryz.call127 ?_ ?_
 ·intro args; unfold qgD; split
  ·exact qai ⟨trivial, trivial⟩ fun _ => qav _
  ·exact PR.good_none
 ·intro P Ω hΩ hE hI hm args pr hs hp Q hQ
  unfold qgD at hs
  split at hs <;> subst hs <;> try (exact hp.elim)
  rename_i a
  have ha := hp ()
  refine ⟨1000, ?_⟩
  cbv
  refine qv hE hI hm (fun x : Nat × List Int × Nat × Nat => (mkT 26 [(2, .val (.slice none 0 0)), (3, .sl 48 1 (.l 0) (.s x.2.2.1) (.s x.2.2.2)), (8, .row .u64 8 a), (9, .int .i64 x.1)], [(48, .seq .u8 x.2.1)])) (fun x => x.1 <= 8 /\ x.2.1 = rawN a (7 * x.1) /\ x.2.2.1 = 7 * x.1 /\ x.2.2.1 <= x.2.2.2) (fun x => 8 - x.1) 1 ⟨(0, [], 0, 0), [none], ⟨Nat.zero_le _, rfl, rfl, Nat.le_refl _⟩, by decide, ?_⟩ fun x hx => ⟨1000, ?_⟩
  ·cbv
  obtain ⟨i, u, n, c⟩ := x
  obtain ⟨hi, hu, hn, hc⟩ : i <= 8 /\ u = rawN a (7 * i) /\ n = 7 * i /\ n <= c := hx
  cbv
  constructor
  ·intro hd
   cbv
   rw [hΩ] at hd; simp (disch := omega) only [Om.real, qk, decide_eq_true_eq, decide_eq_false_iff_not] at hd
   repeat (refine ⟨by ((try intro _); (try subst hΩ); simp (disch := omega) only [Om.real, qk, SN.v]; omega), ?_⟩)
   refine qv hE hI hm (fun x : Nat × List Int × Nat × Nat => (mkT 26 [(2, .val (.slice none 0 0)), (3, .sl 88 1 (.l 0) (.s x.2.2.1) (.s x.2.2.2)), (5, .int .u64 (Ω.at' a (Ω.toN i))), (8, .row .u64 8 a), (9, .int .i64 i), (12, .int .i64 x.1)], [(88, .seq .u8 x.2.1)])) (fun x => x.1 <= 7 /\ x.2.1 = rawN a (7 * i + x.1) /\ x.2.2.1 = 7 * i + x.1 /\ x.2.2.1 <= x.2.2.2) (fun x => 7 - x.1) 1 ⟨(0, u, n, c), [some 48], ⟨Nat.zero_le _, hu, hn, hc⟩, by decide, ?_⟩ fun y hy => ⟨1000, ?_⟩
   ·cbv
    exact ⟨rfl, trivial⟩
   obtain ⟨k, v, m, c2⟩ := y
   obtain ⟨hk, hv, hm', hc2⟩ : k <= 7 /\ v = rawN a (7 * i + k) /\ m = 7 * i + k /\ m <= c2 := hy
   have hvl : v.length = m := by rw [hv, qgw, hm']
   cbv
   constructor
   ·intro he
    cbv
    rw [hΩ] at he; simp (disch := omega) only [Om.real, qk, decide_eq_true_eq, decide_eq_false_iff_not] at he
    constructor
    ·intro _; subst hΩ; show 0 <= binL .mul .i64 8 (k : Int); simp (disch := omega) only [Om.real, qk]; omega
    constructor
    ·exact fun _ => (show (m + 1) * 1 <= 140737488355328 by omega)
    constructor
    ·exact fun _ => ⟨(show 0 + m * 1 <= v.length by omega), (show 0 + 1 * 1 <= 1 by omega)⟩
    intro cap hcap
    have hcap : m + 1 <= cap := hcap
    cbv
    obtain ⟨v', hv'⟩ : ∃ v', v' = rawN a (7 * i + k + 1) := ⟨_, rfl⟩
    obtain ⟨m2, hm2⟩ : ∃ m2, m2 = m + 1 := ⟨_, rfl⟩
    refine ⟨(k + 1, v', m2, cap), [some 176], ⟨he, hv', ?_, ?_⟩, by simp only; omega, by decide, ?_⟩
    ·show m2 = 7 * i + (k + 1); omega
    ·show m2 <= cap; omega
    cbv
    subst hΩ
    simp (disch := omega) only [Om.real, qk]
    refine ⟨hm2.symm, trivial, ?_⟩
    rw [List.drop_zero, List.take_of_length_le (by omega), hv', hv]
    show _ = rawN a (7 * i + k) ++ [qeF a (7 * i + k)]
    congr 2
    unfold qeF
    rw [show (7 * i + k) / 7 = i by omega, show (7 * i + k) % 7 = k by omega, <- ushr _ (8 * k) (by omega)]
    exact IntKind.wrap_u8 _
   ·intro he
    cbv
    rw [hΩ] at he; simp (disch := omega) only [Om.real, qk, decide_eq_true_eq, decide_eq_false_iff_not] at he
    have hk7 : k = 7 := by omega
    subst hk7
    refine ⟨(i + 1, v, m, c2), [some 88], ⟨hd, hv, hm', hc2⟩, by simp only; omega, by decide, ?_⟩
    cbv
    subst hΩ
    simp (disch := omega) only [Om.real, qk]
    exact ⟨trivial, trivial⟩
  ·intro hd
   cbv
   rw [hΩ] at hd; simp (disch := omega) only [Om.real, qk, decide_eq_true_eq, decide_eq_false_iff_not] at hd
   have h8 : i = 8 := by omega
   subst h8
   refine hQ (u, c) _ _ _ ?_ ?_
   ·unfold rawL
    exact ⟨hu, by show u.length <= c; rw [hu, qgw]; omega⟩
   ·have hul : u.length = n := by rw [hu, qgw, hn]
    refine ⟨rfl, rfl, by show 0 + n <= u.length; omega, ?_⟩
    subst hΩ
    show u = (u.drop 0).take n
    rw [List.drop_zero, List.take_of_length_le (by omega)]
end Go.Sx.Tryz
end
section
set_option maxHeartbeats 4000000
namespace Go.Sx.Tryz
open Go.Proofs
def qeL (Ω : Om) : qd := fun args => match args with
 | [.ab (.fe x)] => ⟨True, Unit, fun _ => True, fun _ => .row .u64 8 (Ω.hide _ fun _ => qaf x)⟩
 | _ => PR.none
theorem qmU : Ctr Tryz.prog T glob 128 (qeL Om.real) := by
 refine qal T_ok qi qj (fun Ω => [(114, qcl Ω), (119, qdE Ω), (118, qc2 Ω)]) [] (fun Ω => []) [(166, qjn)] (qb qeI (qb qjo (qb qgC qg))) qh qe (qdA qmK qf) Tryz.func128 (by rfl) (by kernel_rfl) Tryz.call128 ?_ ?_
 ·intro args; unfold qeL; split
  ·exact qr (by repeat' constructor) (fun _ _ => rfl) (by repeat' constructor)
  ·exact PR.good_none
 ·intro P Ω hΩ hE hI hm args pr hs hp cs hcs Q hQ
  unfold qeL at hs
  split at hs <;> subst hs <;> try (exact hp.elim)
  rename_i x
  obtain ⟨_, _, rfl, ⟨a, rfl, ha⟩, rfl⟩ := hcs
  refine ⟨1000, ?_⟩
  cbv
  constructor
  ·exact fun _ _ => ha.1
  intro _ _
  cbv
  constructor
  ·intro _ _; subst hΩ; exact (qjl a).trans ha.1
  intro _ _
  cbv
  constructor
  ·exact fun _ => trivial
  intro _ _
  cbv
  obtain ⟨A, hA⟩ : ∃ A, A = qac (qac a) := ⟨_, rfl⟩
  have hA8 : A.length = 8 := by rw [hA, qjl, qjl]; exact ha.1
  have hAr : ∀ i, i < 8 -> 0 <= A.getD i 0 /\ A.getD i 0 < 72057594037927936 := by rw [hA]; exact qqN ha
  have hAU : U64 A := by rw [hA]; exact qqO ha
  refine qv hE hI hm (fun x : Nat × Int × List Int => (mkT 41 [(1, .ptr 0 (.l 0)), (2, .ptr 8 (.l 0)), (3, .ptr 56 (.l 0)), (4, .int .u64 x.2.1), (5, .ptr 88 (.l 0)), (13, .int .i64 x.1)], [(88, .row .u64 8 x.2.2), (56, .row .u64 8 [72057594037927935, 72057594037927935, 72057594037927935, 72057594037927935, 72057594037927934, 72057594037927935, 72057594037927935, 72057594037927935]), (8, .agg [.row .u64 8 [0, 0, 0, 0, 0, 0, 0, 0]]), (0, .row .u64 8 A)])) (fun x => x.1 <= 8 /\ x.2 = qbc A x.1) (fun x => 8 - x.1) 0 ⟨(0, 0, A), [], ⟨Nat.zero_le _, rfl⟩, Nat.le_refl _, ?_⟩ fun x hx => ⟨1000, ?_⟩
  ·cbv
   subst hΩ
   exact ⟨rfl, hA.symm, hA.symm⟩
  obtain ⟨i, o, u⟩ := x
  obtain ⟨hi, hu⟩ : i <= 8 /\ (o, u) = qbc A i := hx
  cbv
  constructor
  ·intro hc
   cbv
   rw [hΩ] at hc; simp (disch := omega) only [Om.real, qk, decide_eq_true_eq, decide_eq_false_iff_not] at hc
   repeat (refine ⟨by ((try intro _); (try subst hΩ); simp (disch := omega) only [Om.real, qk, SN.v]; omega), ?_⟩)
   constructor
   ·intro _
    subst hΩ
    have h1 := hAr i hc
    refine ⟨h1.1, ?_, by decide, by decide, ?_, ?_⟩
    ·show 0 <= binL .add .u64 _ _; rw [ua]; omega
    ·show A.getD i 0 < _; omega
    ·show binL .add .u64 _ _ < _; rw [ua]; omega
   repeat (refine ⟨by ((try intro _); (try subst hΩ); simp (disch := omega) only [Om.real, qk, SN.v]; omega), ?_⟩)
   obtain ⟨s', hs'⟩ : ∃ s', s' = qbc A (i + 1) := ⟨_, rfl⟩
   refine ⟨(i + 1, s'), [], ⟨hc, hs'⟩, by simp only; omega, Nat.zero_le _, ?_⟩
   cbv
   subst hΩ
   simp (disch := omega) only [Om.real, qk]
   rw [hs']
   simp only [qbc, <- hu]
   exact ⟨rfl, trivial, rfl, trivial⟩
  ·intro hc
   cbv
   rw [hΩ] at hc; simp (disch := omega) only [Om.real, qk, decide_eq_true_eq, decide_eq_false_iff_not] at hc
   have h8 : i = 8 := by omega
   subst h8
   constructor
   ·exact fun _ _ => ⟨hAU, by have := qmQ hAU 8; rw [<- hu] at this; exact this⟩
   intro _ _
   cbv
   refine hQ () _ _ _ trivial ⟨rfl, rfl, ?_⟩
   subst hΩ
   show (if IntKind.i64.wrap (binL .sub .u64 1 o) % 2 = 0 then A else u) = qaf x
   rw [<- qqP ha, <- hA]
   unfold qjk
   rw [<- hu]
def qdH (Ω : Om) : qd := fun args => match args with
 | [.ab (.fe x)] => ⟨True, List Int × Nat, fun z => z.1 = qA x /\ z.1.length <= z.2, fun z => .fr .u8 z.1 z.2⟩
 | _ => PR.none
theorem qjr : Ctr Tryz.prog T glob 72 (qdH Om.real) := by
 refine qo T_ok qi qj (fun Ω => [(128, qeL Ω), (127, qgD Ω)]) [] (fun Ω => []) [] (qb qmU (qb qqX qg)) qh qe qf Tryz.func72 (by rfl) (by kernel_rfl) Tryz.call72 ?_ ?_
 ·intro args; unfold qdH; split
  ·exact qai ⟨trivial, trivial⟩ fun _ => qav _
  ·exact PR.good_none
 ·intro P Ω hΩ hE hI hm args pr hs hp Q hQ
  unfold qdH at hs
  split at hs <;> subst hs <;> try (exact hp.elim)
  rename_i x
  refine ⟨1000, ?_⟩
  cbv
  constructor
  ·exact fun _ => trivial
  intro _ _
  cbv
  constructor
  ·intro _ _; subst hΩ; rfl
  intro z hz
  have hz : z.1 = rawL (qaf x) /\ z.1.length <= z.2 := by subst hΩ; exact hz
  cbv
  refine hQ z _ _ _ ⟨hz.1.trans (qqW x), hz.2⟩ ?_
  subst hΩ
  exact ⟨rfl, rfl, by show 0 + z.1.length <= z.1.length; omega, List.take_length.symm⟩
def qc3 (Ω : Om) : qd := fun args => match args with
 | [.ab (.fe x)] => ⟨True, Unit, fun _ => True, fun _ => .ab (.fe (Ω.hide _ fun _ => -x))⟩
 | [.row .u64 8 a] => ⟨∀ _ : Unit, (∃ x, okFe x a), Fp, fun x => okFe x a, fun x => .ab (.fe (Ω.hide _ fun _ => -x))⟩
 | _ => PR.none
noncomputable def qqY : List (FuncId × Func) := [(62, Tryz.f62), (112, Tryz.f112), (120, Tryz.f120)]
theorem qgE : Ctr Tryz.prog T glob 111 (qc3 Om.real) := by
 refine qal T_ok qi qj (fun Ω => [(114, qcl Ω), (119, qdE Ω)]) qqY (fun Ω => []) [] (qb qeI (qb qjo qg)) (qG Tryz.call62 Tryz.func62 (by kernel_rfl) (qG Tryz.call112 Tryz.func112 (by kernel_rfl) (qG Tryz.call120 Tryz.func120 (by kernel_rfl) qh))) qe qf Tryz.func111 (by rfl) (by kernel_rfl) Tryz.call111 ?_ ?_
 ·intro args; unfold qc3; split
  ·exact qr (by repeat' constructor) (fun _ _ => rfl) (by repeat' constructor)
  ·exact ⟨fun _ => trivial, fun E x b q hq => by simp [place] at hq, fun _ => ⟨trivial, trivial⟩, fun h => h ()⟩
  ·exact PR.good_none
 ·intro P Ω hΩ hE hI hm args pr hs hp cs hcs Q hQ
  unfold qc3 at hs
  split at hs <;> subst hs <;> try (exact hp.elim)
  ·rename_i x
   obtain ⟨_, _, rfl, ⟨ys, rfl, hy⟩, rfl⟩ := hcs
   refine ⟨1000, ?_⟩
   cbv
   constructor
   ·exact fun _ => trivial
   intro _ _
   cbv
   repeat (refine q9 hE hI hm (n := 1000) ?_; cbv)
   constructor
   ·intro _ _; subst hΩ; rfl
   intro _ _
   cbv
   refine hQ () _ _ _ trivial ⟨rfl, ?_⟩
   subst hΩ
   simp only [Om.real, List.set]
   exact qji hy
  ·rename_i ys
   obtain ⟨x, hy⟩ := hp ()
   obtain ⟨_, _, rfl, rfl, rfl⟩ := hcs
   refine ⟨1000, ?_⟩
   cbv
   constructor
   ·exact fun _ => trivial
   intro _ _
   cbv
   repeat (refine q9 hE hI hm (n := 1000) ?_; cbv)
   constructor
   ·intro _ _; subst hΩ; rfl
   intro _ _
   cbv
   refine hQ x _ _ _ hy ⟨rfl, ?_⟩
   subst hΩ
   simp only [Om.real, List.set]
   exact qji hy
def qbd (Ω : Om) : qd := fun args => match args with
 | [.int .i64 n] => ⟨∀ _ : Unit, -9223372036854775808 <= n /\ n < 9223372036854775808, Unit, fun _ => True, fun _ => .ab (.fe (Ω.hide _ fun _ => fI n))⟩
 | _ => PR.none
theorem qbO : Ctr Tryz.prog T glob 54 (qbd Om.real) := by
 refine qo T_ok qi qj (fun Ω => [(111, qc3 Ω)]) [] (fun Ω => []) [] (qb qgE qg) qh qe qf Tryz.func54 (by rfl) (by kernel_rfl) Tryz.call54 ?_ ?_
 ·intro args; unfold qbd; split
  ·exact qr (by repeat' constructor) (fun _ _ => rfl) (by repeat' constructor)
  ·exact PR.good_none
 ·intro P Ω hΩ hE hI hm args pr hs hp Q hQ
  unfold qbd at hs
  split at hs <;> subst hs <;> try (exact hp.elim)
  rename_i n
  obtain ⟨h0, h1⟩ := hp ()
  refine ⟨1000, ?_⟩
  cbv
  constructor
  ·intro hc
   cbv
   have hn : n < 0 := by subst hΩ; exact of_decide_eq_true hc
   have hfe : okFe (fI (-n)) (Ω.set (Ω.set [0, 0, 0, 0, 0, 0, 0, 0] 0 (Ω.bin .and .u64 (Ω.cv .u64 (Ω.un .neg .i64 n)) 72057594037927935)) 1 (Ω.bin .shr .u64 (Ω.cv .u64 (Ω.un .neg .i64 n)) 56)) := by
    subst hΩ
    exact qqR (by omega) hn
   constructor
   ·exact fun _ _ => ⟨_, hfe⟩
   intro x hx
   have hx : okFe x _ := hx
   have hxe : -x = fI n := by
    rw [<- hx.2.2, hfe.2.2, qjc]; grind -lia -linarith -order -ac (splits := 0)
   cbv
   refine hQ () _ _ _ trivial ?_
   subst hΩ
   show Pay.fe (-x) = Pay.fe (fI n)
   rw [hxe]
  ·intro hc
   cbv
   have hn : 0 <= n := by
    subst hΩ
    have := of_decide_eq_false (show decide (n < 0) = false from hc)
    omega
   refine hQ () _ _ _ trivial ⟨rfl, ?_⟩
   subst hΩ
   exact qqQ hn h1
def qeM (Ω : Om) : qd := fun args => match args with
 | [.ab (.fe x)] => ⟨True, Unit, fun _ => True, fun _ => .bs (Ω.hide _ fun _ => decide (x = 0))⟩
 | _ => PR.none
theorem qmV : Ctr Tryz.prog T glob 89 (qeM Om.real) := by
 refine qo T_ok qi qj (fun Ω => [(128, qeL Ω)]) [] (fun Ω => []) [] (qb qmU qg) qh qe qf Tryz.func89 (by rfl) (by kernel_rfl) Tryz.call89 ?_ ?_
 ·intro args; unfold qeM; split
  ·exact qr (by repeat' constructor) (fun _ _ => rfl) (by repeat' constructor)
  ·exact PR.good_none
 ·intro P Ω hΩ hE hI hm args pr hs hp Q hQ
  unfold qeM at hs
  split at hs <;> subst hs <;> try (exact hp.elim)
  rename_i x
  refine ⟨1000, ?_⟩
  cbv
  constructor
  ·exact fun _ => trivial
  intro _ _
  cbv
  repeat (refine q9 hE hI hm (n := 1000) ?_; cbv)
  refine hQ () _ _ _ trivial ?_
  subst hΩ
  exact qqT x
def qc4 (Ω : Om) : qd := fun args => match args with
 | [.ab (.fe x), .ab (.fe y)] => ⟨True, Unit, fun _ => True, fun _ => .bs (Ω.hide _ fun _ => decide (x = y))⟩
 | _ => PR.none
theorem qgF : Ctr Tryz.prog T glob 74 (qc4 Om.real) := by
 refine qo T_ok qi qj (fun Ω => [(62, qbN Ω), (89, qeM Ω)]) [] (fun Ω => []) [] (qb qdF (qb qmV qg)) qh qe qf Tryz.func74 (by rfl) (by kernel_rfl) Tryz.call74 ?_ ?_
 ·intro args; unfold qc4; split
  ·exact qr (by repeat' constructor) (fun _ _ => rfl) (by repeat' constructor)
  ·exact PR.good_none
 ·intro P Ω hΩ hE hI hm args pr hs hp Q hQ
  unfold qc4 at hs
  split at hs <;> subst hs <;> try (exact hp.elim)
  rename_i x y
  refine ⟨1000, ?_⟩
  cbv
  constructor
  ·exact fun _ => trivial
  intro _ _
  cbv
  constructor
  ·exact fun _ => trivial
  intro _ _
  cbv
  refine hQ () _ _ _ trivial ?_
  subst hΩ
  show decide (x - y = 0) = decide (x = y)
  congr 1
  exact propext ⟨fun h => by grind -lia -linarith -order -ac (splits := 0), fun h => by subst h; grind -lia -linarith -order -ac (splits := 0)⟩
end Go.Sx.Tryz
end
section
set_option maxHeartbeats 4000000
namespace Go.Sx.Tryz
open Go.Proofs
set_option pp.deepTerms true
set_option pp.maxSteps 1000000
def qaI (Ω : Om) : qd := fun args => match args with
 | [.ab (.fe x), .ab (.fe y)] => ⟨True, Unit, fun _ => True, fun _ => .ab (.fe (Ω.hide _ fun _ => x * y))⟩
 | _ => PR.none
theorem qa6 : Ctr Tryz.prog T glob 71 (qaI Om.real) := by
 refine qal T_ok qi qj (fun Ω => [(124, qgA Ω), (125, qgz Ω), (126, qgB Ω), (114, qcl Ω)]) [] (fun Ω => []) [] (qb qqH (qb qqF (qb qqI (qb qeI qg)))) qh qe qf Tryz.func71 (by rfl) (by kernel_rfl) Tryz.call71 ?_ ?_
 ·intro args; unfold qaI; split
  ·exact qr (by repeat' constructor) (fun _ _ => rfl) (by repeat' constructor)
  ·exact PR.good_none
 ·intro P Ω hΩ hE hI hm args pr hs hp cs hcs Q hQ
  unfold qaI at hs
  split at hs <;> subst hs <;> try (exact hp.elim)
  rename_i x y
  obtain ⟨_, _, rfl, ⟨xs, rfl, hx⟩, _, _, rfl, ⟨ys, rfl, hy⟩, rfl⟩ := hcs
  refine ⟨1000, ?_⟩
  cbv
  have hx' : okFe x xs := hx
  have hy' : okFe y ys := hy
  have hxr := qmY hx
  have hyr := qmY hy
  refine qv hE hI hm (fun x : Nat × List Int => (mkT 122 [(2, .ptr 0 (.l 0)), (3, .ptr 8 (.l 0)), (4, .ptr 16 (.l 0)), (5, .ptr 24 (.l 0)), (18, .row .u64 8 xs), (19, .int .i64 x.1)], [(24, .row .u64 30 x.2), (16, .agg [.row .u64 8 [0, 0, 0, 0, 0, 0, 0, 0]]), (8, .row .u64 8 ys), (0, .row .u64 8 xs)])) (fun x => x.1 <= 8 /\ Cells x.2 (8 * x.1) /\ tval x.2 15 = psum xs x.1 * psum ys 8) (fun x => 8 - x.1) 0 ⟨(0, [0, 0, 0, 0, 0, 0, 0, 0, 0, 0, 0, 0, 0, 0, 0, 0, 0, 0, 0, 0, 0, 0, 0, 0, 0, 0, 0, 0, 0, 0]), [], ⟨Nat.zero_le _, qq1, by rw [qq2]; exact (Int.zero_mul _).symm⟩, Nat.le_refl _, by cbv; exact ⟨rfl, trivial⟩⟩ fun x hx => ⟨1000, ?_⟩
  obtain ⟨i, all⟩ := x
  obtain ⟨hi, hcs, hv⟩ : i <= 8 /\ Cells all (8 * i) /\ tval all 15 = psum xs i * psum ys 8 := hx
  cbv
  constructor
  ·intro hc
   cbv
   rw [hΩ] at hc; simp (disch := omega) only [Om.real, qk, decide_eq_true_eq, decide_eq_false_iff_not] at hc
   repeat (refine ⟨by ((try intro _); (try subst hΩ); simp (disch := omega) only [Om.real, qk, SN.v]; omega), ?_⟩)
   refine qv hE hI hm (fun x : Nat × List Int => (mkT 122 [(2, .ptr 0 (.l 0)), (3, .ptr 8 (.l 0)), (4, .ptr 16 (.l 0)), (5, .ptr 24 (.l 0)), (6, .int .i64 i), (7, .int .u64 (Ω.at' xs (Ω.toN i))), (18, .row .u64 8 xs), (19, .int .i64 i), (24, .row .u64 8 ys), (25, .int .i64 x.1)], [(24, .row .u64 30 x.2), (16, .agg [.row .u64 8 [0, 0, 0, 0, 0, 0, 0, 0]]), (8, .row .u64 8 ys), (0, .row .u64 8 xs)])) (fun x => x.1 <= 8 /\ Cells x.2 (8 * i + x.1) /\ tval x.2 15 = tval all 15 + xs.getD i 0 * 72057594037927936 ^ i * psum ys x.1) (fun x => 8 - x.1) 0 ⟨(0, all), [], ⟨Nat.zero_le _, (by simpa using hcs), by simp [psum]⟩, Nat.le_refl _, by cbv; exact ⟨rfl, trivial⟩⟩ fun z hz => ⟨1000, ?_⟩
   obtain ⟨k, al2⟩ := z
   obtain ⟨hk, hcs2, hv2⟩ : k <= 8 /\ Cells al2 (8 * i + k) /\ tval al2 15 = tval all 15 + xs.getD i 0 * 72057594037927936 ^ i * psum ys k := hz
   cbv
   constructor
   ·intro hd
    cbv
    rw [hΩ] at hd; simp (disch := omega) only [Om.real, qk, decide_eq_true_eq, decide_eq_false_iff_not] at hd
    repeat (refine ⟨by ((try intro _); (try subst hΩ); simp (disch := omega) only [Om.real, qk, SN.v]; omega), ?_⟩)
    have hij : i + k < 15 := by omega
    simp only [nc] at hcs2
    obtain ⟨m1, m2⟩ := qq4 hcs2 (by omega) hij (hxr i hc) (hyr k hd)
    have hcl : Ω.sub al2 (Ω.nmul (Ω.toN (Ω.bin .add .i64 (Int.ofNat i) (Int.ofNat k))) 2) 2 = cell al2 (i + k) := by
     subst hΩ
     show (al2.drop ((binL .add .i64 (i : Int) (k : Int)).toNat * 2)).take 2 = _
     rw [qex i k (by omega)]; rfl
    constructor
    ·intro _ _
     refine ⟨(show WN (Ω.sub al2 (Ω.nmul (Ω.toN (Ω.bin .add .i64 (Int.ofNat i) (Int.ofNat k))) 2) 2) by rw [hcl]; exact (hcs2.2 _ hij).1), ?_⟩
     subst hΩ
     have q1 := hxr i hc
     have q2 := hyr k hd
     refine ⟨⟨q1.1, ?_⟩, q2.1, ?_⟩
     ·show xs.getD i 0 < _; omega
     ·show ys.getD k 0 < _; omega
    intro _ _
    cbv
    repeat (refine ⟨by ((try intro _); (try subst hΩ); simp (disch := omega) only [Om.real, qk, SN.v]; omega), ?_⟩)
    obtain ⟨al3, hal3⟩ : ∃ al3, al3 = putc al2 (i + k) (qbp (cell al2 (i + k)) (xs.getD i 0) (ys.getD k 0)) := ⟨_, rfl⟩
    rw [<- hal3] at m1 m2
    simp only [nc] at m1
    refine ⟨(k + 1, al3), [], ⟨hd, ?_, ?_⟩, by simp only; omega, Nat.zero_le _, ?_⟩
    ·show Cells al3 (8 * (i : Int) + ((k + 1 : Nat) : Int))
     exact qeO m1 (by omega)
    ·show tval al3 15 = tval all 15 + xs.getD i 0 * 72057594037927936 ^ i * (psum ys k + ys.getD k 0 * 72057594037927936 ^ k)
     rw [m2, hv2, Int.pow_add]
     grind
    cbv
    subst hΩ
    simp (disch := omega) only [Om.real, qk]
    refine ⟨trivial, ?_, trivial⟩
    rw [hal3]; rfl
   ·intro hd
    cbv
    rw [hΩ] at hd; simp (disch := omega) only [Om.real, qk, decide_eq_true_eq, decide_eq_false_iff_not] at hd
    have hk8 : k = 8 := by omega
    simp only [nc] at hcs2
    refine ⟨(i + 1, al2), [], ⟨hc, ?_, ?_⟩, by simp only; omega, Nat.zero_le _, ?_⟩
    ·show Cells al2 (8 * ((i + 1 : Nat) : Int))
     exact qeO hcs2 (by omega)
    ·show tval al2 15 = (psum xs i + xs.getD i 0 * 72057594037927936 ^ i) * psum ys 8
     rw [hv2, hv, Int.add_mul, hk8]
    cbv
    subst hΩ
    simp (disch := omega) only [Om.real, qk]
    exact ⟨trivial, trivial⟩
  ·intro hc
   cbv
   rw [hΩ] at hc; simp (disch := omega) only [Om.real, qk, decide_eq_true_eq, decide_eq_false_iff_not] at hc
   have h8 : i = 8 := by omega
   subst h8
   simp only [nc] at hcs
   have hvx : fI (tval all 15) = x * y := by rw [hv, qeD, qmX hx', qmX hy']
   refine qv hE hI hm (fun x : Nat × List Int => (mkT 122 [(2, .ptr 0 (.l 0)), (3, .ptr 8 (.l 0)), (4, .ptr 16 (.l 0)), (5, .ptr 24 (.l 0)), (10, .int .i64 x.1)], [(24, .row .u64 30 x.2), (16, .agg [.row .u64 8 [0, 0, 0, 0, 0, 0, 0, 0]])])) (fun z => 7 <= z.1 /\ z.1 <= 14 /\ Cells z.2 (bnd z.1) /\ fI (tval z.2 (z.1 + 1)) = x * y) (fun x => x.1 - 7) 0 ⟨(14, all), [], ⟨(show 7 <= 14 by decide), (show 14 <= 14 by decide), qeO hcs (show (8 * 8 : Int) <= bnd 14 by decide), hvx⟩, Nat.le_refl _, by cbv; exact ⟨rfl, trivial⟩⟩ fun z hz => ⟨1000, ?_⟩
   obtain ⟨i, al2⟩ := z
   obtain ⟨hi7, hi14, hcs2, hv2⟩ : 7 <= i /\ i <= 14 /\ Cells al2 (bnd i) /\ fI (tval al2 (i + 1)) = x * y := hz
   clear hcs hv hvx
   cbv
   constructor
   ·intro hd
    cbv
    rw [hΩ] at hd; simp (disch := omega) only [Om.real, qk, decide_eq_true_eq, decide_eq_false_iff_not] at hd
    repeat (refine ⟨by ((try intro _); (try subst hΩ); simp (disch := omega) only [Om.real, qk, SN.v]; omega), ?_⟩)
    have hi8 : 8 <= i := by omega
    obtain ⟨p1, p2, p3⟩ := qq6 i (by omega) hi8
    obtain ⟨f1, f2⟩ := qq5 hcs2 p1 p2 hi8 (by omega)
    obtain ⟨a1, a2⟩ := hcs2.2 (i - 8) (by omega)
    obtain ⟨c1, c2⟩ := hcs2.2 i (by omega)
    have hc3 := qgH hcs2 (show i - 8 < 15 by omega) (qc1 (cell al2 (i - 8)) (cell al2 i)) (show bnd i <= 2 * bnd i by omega) (qjs a1 c1 a2 c2 p1).2
    constructor
    ·intro _ _
     subst hΩ
     simp (disch := omega) only [Om.real, qk]
     exact ⟨a1, c1⟩
    intro _ _
    cbv
    repeat (refine ⟨by ((try intro _); (try subst hΩ); simp (disch := omega) only [Om.real, qk, SN.v]; omega), ?_⟩)
    constructor
    ·intro _ _
     subst hΩ
     simp (disch := omega) only [Om.real, qk]
     exact ⟨(hc3.2 (i - 4) (by omega)).1, (hc3.2 i (by omega)).1⟩
    intro _ _
    cbv
    repeat (refine ⟨by ((try intro _); (try subst hΩ); simp (disch := omega) only [Om.real, qk, SN.v]; omega), ?_⟩)
    obtain ⟨al3, hal3⟩ : ∃ al3, al3 = putc (putc al2 (i - 8) (qO (cell al2 (i - 8)) (cell al2 i))) (i - 4) (qO (cell (putc al2 (i - 8) (qO (cell al2 (i - 8)) (cell al2 i))) (i - 4)) (cell (putc al2 (i - 8) (qO (cell al2 (i - 8)) (cell al2 i))) i)) := ⟨_, rfl⟩
    rw [<- hal3] at f1 f2
    obtain ⟨i1, hi1⟩ : ∃ i1, i1 = i - 1 := ⟨_, rfl⟩
    refine ⟨(i1, al3), [], ⟨?_, ?_, ?_, ?_⟩, by simp only; omega, Nat.zero_le _, ?_⟩
    ·show 7 <= i1; omega
    ·show i1 <= 14; omega
    ·show Cells al3 (bnd i1); rw [hi1, p3]; exact f1
    ·show fI (tval al3 (i1 + 1)) = x * y
     rw [show i1 + 1 = i by omega, f2, hv2]
    cbv
    subst hΩ
    simp (disch := omega) only [Om.real, qk]
    refine ⟨by omega, ?_, trivial⟩
    rw [hal3]; rfl
   ·intro hd
    cbv
    rw [hΩ] at hd; simp (disch := omega) only [Om.real, qk, decide_eq_true_eq, decide_eq_false_iff_not] at hd
    have hk7 : i = 7 := by omega
    subst hk7
    have hc8 : Cells al2 8192 := qeO hcs2 (show bnd 7 <= 8192 by decide)
    clear hcs2
    refine qv hE hI hm (fun x : Nat × List Int × List Int => (mkT 122 [(4, .ptr 16 (.l 0)), (5, .ptr 24 (.l 0)), (11, .ptr 88 (.l 0)), (12, .ptr 96 (.l 0)), (13, .int .i64 x.1)], [(96, .row .u64 2 x.2.2), (88, .row .u64 8 x.2.1), (24, .row .u64 30 al2), (16, .agg [.row .u64 8 [0, 0, 0, 0, 0, 0, 0, 0]])])) (fun z => z.1 <= 7 /\ z.2.1.length = 8 /\ WN z.2.2 /\ wv z.2.2 <= 4722366482869645213696 /\ (∀ j, j < z.1 -> 0 <= z.2.1.getD j 0 /\ z.2.1.getD j 0 < 72057594037927936) /\ psum z.2.1 z.1 + wv z.2.2 * 72057594037927936 ^ z.1 = tval al2 z.1) (fun x => 7 - x.1) 0 ⟨(0, [0, 0, 0, 0, 0, 0, 0, 0], [0, 0]), [], ⟨Nat.zero_le _, rfl, qmI, (show wv [0, 0] <= _ by rw [qmJ]; decide), fun j hj => absurd hj (Nat.not_lt_zero _), (show 0 + wv [0, 0] * 72057594037927936 ^ 0 = 0 by rw [qmJ]; decide)⟩, Nat.le_refl _, ?_⟩ fun z hz => ⟨1000, ?_⟩
    ·cbv
     exact ⟨rfl, qq8, qq7 rfl, trivial⟩
    obtain ⟨i, u, o⟩ := z
    obtain ⟨hi, hul, how, hob, hub, huv⟩ : i <= 7 /\ u.length = 8 /\ WN o /\ wv o <= 4722366482869645213696 /\ (∀ j, j < i -> 0 <= u.getD j 0 /\ u.getD j 0 < 72057594037927936) /\ psum u i + wv o * 72057594037927936 ^ i = tval al2 i := hz
    obtain ⟨c1, c2⟩ := hc8.2 i (by omega)
    obtain ⟨k1, k2, k3⟩ := qq9 c1 how c2 hob
    cbv
    repeat (refine ⟨by ((try intro _); (try subst hΩ); simp (disch := omega) only [Om.real, qk, SN.v]; omega), ?_⟩)
    constructor
    ·intro _ _
     subst hΩ
     simp (disch := omega) only [Om.real, qk]
     exact ⟨c1, how⟩
    intro _ _
    cbv
    constructor
    ·intro _ _
     subst hΩ
     exact qc1 _ _
    intro _ _
    cbv
    repeat (refine ⟨by ((try intro _); (try subst hΩ); simp (disch := omega) only [Om.real, qk, SN.v]; omega), ?_⟩)
    obtain ⟨u2, hu2⟩ : ∃ u2, u2 = u.set i (binL .and .u64 ((qO (cell al2 i) o).getD 1 0) 72057594037927935) := ⟨_, rfl⟩
    obtain ⟨o2, ho2⟩ : ∃ o2, o2 = qaU (qO (cell al2 i) o) := ⟨_, rfl⟩
    have g1 : u2.length = 8 := by rw [hu2, List.length_set]; exact hul
    have g2 : WN o2 := by rw [ho2]; exact qmH _
    have g3 : wv o2 <= 4722366482869645213696 := by rw [ho2]; exact k3
    have g4 : ∀ j, j < i + 1 -> 0 <= u2.getD j 0 /\ u2.getD j 0 < 72057594037927936 := fun j hj => by
     rw [hu2]
     by_cases e : j = i
     ·subst e; rw [qm1 (by omega)]; exact k2
     ·rw [qra (fun q => e q.symm)]; exact hub j (by omega)
    have g5 : psum u2 (i + 1) + wv o2 * 72057594037927936 ^ (i + 1) = tval al2 (i + 1) := by
     rw [hu2, ho2]
     simp only [psum, tval]
     rw [qm0 i (Nat.le_refl _), qm1 (by omega), <- huv, Int.pow_succ]
     generalize wv (qaU (qO (cell al2 i) o)) = q at k1 ⊢
     generalize binL .and .u64 ((qO (cell al2 i) o).getD 1 0) 72057594037927935 = r at k1 ⊢
     have k4 : wv (cell al2 i) = r + 72057594037927936 * q - wv o := by omega
     rw [k4]
     grind
    constructor
    ·intro hd
     cbv
     rw [hΩ] at hd; simp (disch := omega) only [Om.real, qk, decide_eq_true_eq, decide_eq_false_iff_not] at hd
     have hi7 : i = 7 := by omega
     constructor
     ·intro _ _
      subst hΩ
      exact qmH _
     intro _ _
     cbv
     constructor
     ·intro _ _
      subst hΩ
      simp only [Om.real, List.length_set]
      exact hul
     intro _ _
     cbv
     refine hQ () _ _ _ trivial ⟨rfl, ?_⟩
     subst hΩ
     have fin := qrb (z := x * y) g1 (fun j hj => g4 j (by omega)) g2 g3 (by rw [hi7] at g5; rw [<- hv2]; exact congrArg fI g5)
     rw [hu2, ho2] at fin
     exact fin
    ·intro hd
     cbv
     rw [hΩ] at hd; simp (disch := omega) only [Om.real, qk, decide_eq_true_eq, decide_eq_false_iff_not] at hd
     refine ⟨(i + 1, u2, o2), [], ⟨?_, g1, g2, g3, g4, g5⟩, by simp only; omega, Nat.zero_le _, ?_⟩
     ·show i + 1 <= 7; omega
     cbv
     subst hΩ
     simp (disch := omega) only [Om.real, qk]
     refine ⟨trivial, ?_, ?_, trivial⟩
     ·rw [ho2]; rfl
     ·rw [hu2]; rfl
end Go.Sx.Tryz
end
section
set_option maxHeartbeats 4000000
namespace Go.Sx.Tryz
open Go.Proofs
def qbq (Ω : Om) : qd := fun args => match args with
 | [.ab (.fe x)] => ⟨True, Unit, fun _ => True, fun _ => .ab (.fe (Ω.hide _ fun _ => x * x))⟩
 | _ => PR.none
theorem qcq : Ctr Tryz.prog T glob 55 (qbq Om.real) := by
 refine qo T_ok qi qj (fun Ω => [(71, qaI Ω)]) [] (fun Ω => []) [] (qb qa6 qg) qh qe qf Tryz.func55 (by rfl) (by kernel_rfl) Tryz.call55 ?_ ?_
 ·intro args; unfold qbq; split
  ·exact qr (by repeat' constructor) (fun _ _ => rfl) (by repeat' constructor)
  ·exact PR.good_none
 ·intro P Ω hΩ hE hI hm args pr hs hp Q hQ
  unfold qbq at hs
  split at hs <;> subst hs <;> try (exact hp.elim)
  rename_i x
  refine ⟨1000, ?_⟩
  cbv
  repeat (constructor; (first | exact fun _ => trivial | exact fun _ _ => (by decide)); intro _ _; cbv)
  exact hQ () _ _ _ trivial rfl
def qbP (Ω : Om) : qd := fun args => match args with
 | [.ab (.fe x), .int .i64 n] => ⟨∀ _ : Unit, -9223372036854775808 <= n /\ n < 9223372036854775808, Unit, fun _ => True, fun _ => .ab (.fe (Ω.hide _ fun _ => x * fI n))⟩
 | _ => PR.none
theorem qdJ : Ctr Tryz.prog T glob 57 (qbP Om.real) := by
 refine qo T_ok qi qj (fun Ω => [(71, qaI Ω), (54, qbd Ω)]) [] (fun Ω => []) [] (qb qa6 (qb qbO qg)) qh qe qf Tryz.func57 (by rfl) (by kernel_rfl) Tryz.call57 ?_ ?_
 ·intro args; unfold qbP; split
  ·exact qr (by repeat' constructor) (fun _ _ => rfl) (by repeat' constructor)
  ·exact PR.good_none
 ·intro P Ω hΩ hE hI hm args pr hs hp Q hQ
  unfold qbP at hs
  split at hs <;> subst hs <;> try (exact hp.elim)
  rename_i x n
  have hn := hp ()
  refine ⟨1000, ?_⟩
  cbv
  constructor
  ·exact fun _ _ => hn
  intro _ _
  cbv
  repeat (constructor; (first | exact fun _ => trivial | exact fun _ _ => (by decide)); intro _ _; cbv)
  refine hQ () _ _ _ trivial ?_
  subst hΩ
  rfl
def qeP (Ω : Om) : qd := fun args => match args with
 | [.ab (.fe x), .int .i64 n] => ⟨∀ _ : Unit, 0 <= n /\ n < 9223372036854775808, Unit, fun _ => True, fun _ => .ab (.fe (Ω.hide _ fun _ => pw x (2 ^ n.toNat)))⟩
 | _ => PR.none
theorem qm2 : Ctr Tryz.prog T glob 164 (qeP Om.real) := by
 refine qo T_ok qi qj (fun Ω => [(55, qbq Ω)]) [] (fun Ω => []) [] (qb qcq qg) qh qe qf Tryz.func164 (by rfl) (by kernel_rfl) Tryz.call164 ?_ ?_
 ·intro args; unfold qeP; split
  ·exact qr (by repeat' constructor) (fun _ _ => rfl) (by repeat' constructor)
  ·exact PR.good_none
 ·intro P Ω hΩ hE hI hm args pr hs hp Q hQ
  unfold qeP at hs
  split at hs <;> subst hs <;> try (exact hp.elim)
  rename_i x n
  obtain ⟨n0, n1⟩ := hp ()
  obtain ⟨m, rfl⟩ := Int.eq_ofNat_of_zero_le n0
  have n2 : m < 9223372036854775808 := by omega
  refine ⟨1000, ?_⟩
  cbv
  refine qv hE hI hm (fun z : Nat × Fp => (mkT 12 [(2, .ptr 0 (.l 0)), (4, .ptr 8 (.l 0)), (5, .int .i64 m), (6, .int .i64 z.1)], [(8, .agg [.row .u64 8 [0, 0, 0, 0, 0, 0, 0, 0]]), (0, .ab (.fe z.2))])) (fun z => z.1 <= m /\ z.2 = pw x (2 ^ z.1)) (fun z => m - z.1) 0 ⟨(0, x), [], ⟨Nat.zero_le _, (qcW x).symm⟩, Nat.le_refl _, by cbv; exact ⟨rfl, trivial⟩⟩ fun z hz => ⟨1000, ?_⟩
  obtain ⟨i, y⟩ := z
  obtain ⟨hi, hy⟩ : i <= m /\ y = pw x (2 ^ i) := hz
  cbv
  constructor
  ·intro hc
   cbv
   rw [hΩ] at hc; simp (disch := omega) only [Om.real, qk, decide_eq_true_eq, decide_eq_false_iff_not] at hc
   repeat (constructor; (first | exact fun _ => trivial | exact fun _ _ => (by decide)); intro _ _; cbv)
   obtain ⟨y2, hy2⟩ : ∃ y2, y2 = y * y := ⟨_, rfl⟩
   refine ⟨(i + 1, y2), [], ⟨hc, ?_⟩, by simp only; omega, Nat.zero_le _, ?_⟩
   ·show y2 = pw x (2 ^ (i + 1))
    rw [hy2, hy, Nat.pow_succ, qch]; simp only [pw]; grind -lia -linarith -order -ac (splits := 0)
   cbv
   subst hΩ
   simp (disch := omega) only [Om.real, qk]
   exact ⟨trivial, by rw [hy2]⟩
  ·intro hc
   cbv
   rw [hΩ] at hc; simp (disch := omega) only [Om.real, qk, decide_eq_true_eq, decide_eq_false_iff_not] at hc
   have e : i = m := by omega
   refine hQ () _ _ _ trivial ?_
   subst hΩ
   show Pay.fe y = Pay.fe (pw x (2 ^ ((m : Int)).toNat))
   rw [hy, e, Int.toNat_natCast]
def qgI (Ω : Om) : qd := fun args => match args with
 | [.ab (.fe x), .int .i64 n, .ab (.fe y)] => ⟨∀ _ : Unit, 0 <= n /\ n < 9223372036854775808, Unit, fun _ => True, fun _ => .ab (.fe (Ω.hide _ fun _ => jn x n y))⟩
 | _ => PR.none
theorem qrh : Ctr Tryz.prog T glob 163 (qgI Om.real) := by
 refine qo T_ok qi qj (fun Ω => [(164, qeP Ω), (71, qaI Ω)]) [] (fun Ω => []) [] (qb qm2 (qb qa6 qg)) qh qe qf Tryz.func163 (by rfl) (by kernel_rfl) Tryz.call163 ?_ ?_
 ·intro args; unfold qgI; split
  ·exact qr (by repeat' constructor) (fun _ _ => rfl) (by repeat' constructor)
  ·exact PR.good_none
 ·intro P Ω hΩ hE hI hm args pr hs hp Q hQ
  unfold qgI at hs
  split at hs <;> subst hs <;> try (exact hp.elim)
  rename_i x n y
  have hn := hp ()
  refine ⟨1000, ?_⟩
  cbv
  constructor
  ·exact fun _ _ => hn
  intro _ _
  cbv
  repeat (constructor; (first | exact fun _ => trivial | exact fun _ _ => (by decide)); intro _ _; cbv)
  refine hQ () _ _ _ trivial ?_
  subst hΩ
  rfl
def qdK (Ω : Om) : qd := fun args => match args with
 | [.ab (.fe x)] => ⟨True, Unit, fun _ => True, fun _ => .ab (.fe (Ω.hide _ fun _ => qq x))⟩
 | _ => PR.none
theorem qjt : Ctr Tryz.prog T glob 115 (qdK Om.real) := by
 refine qo T_ok qi qj (fun Ω => [(163, qgI Ω)]) [] (fun Ω => []) [] (qb qrh qg) qh qe qf Tryz.func115 (by rfl) (by kernel_rfl) Tryz.call115 ?_ ?_
 ·intro args; unfold qdK; split
  ·exact qr (by repeat' constructor) (fun _ _ => rfl) (by repeat' constructor)
  ·exact PR.good_none
 ·intro P Ω hΩ hE hI hm args pr hs hp Q hQ
  unfold qdK at hs
  split at hs <;> subst hs <;> try (exact hp.elim)
  rename_i x
  refine ⟨1000, ?_⟩
  cbv
  repeat (constructor; (first | exact fun _ => trivial | exact fun _ _ => (by decide)); intro _ _; cbv)
  refine hQ () _ _ _ trivial ?_
  subst hΩ
  exact congrArg Pay.fe (qrc x _ _ _ _ _ _ _ rfl rfl rfl rfl rfl rfl rfl)
def qeQ (Ω : Om) : qd := fun args => match args with
 | [.ab (.fe x)] => ⟨True, Unit, fun _ => True, fun _ => .int .i64 (Ω.hide _ fun _ => odd1 x)⟩
 | _ => PR.none
theorem qm3 : Ctr Tryz.prog T glob 110 (qeQ Om.real) := by
 refine qo T_ok qi qj (fun Ω => [(72, qdH Ω)]) [] (fun Ω => []) [] (qb qjr qg) qh qe qf Tryz.func110 (by rfl) (by kernel_rfl) Tryz.call110 ?_ ?_
 ·intro args; unfold qeQ; split
  ·exact qr (by repeat' constructor) (fun _ _ => rfl) (by repeat' constructor)
  ·exact PR.good_none
 ·intro P Ω hΩ hE hI hm args pr hs hp Q hQ
  unfold qeQ at hs
  split at hs <;> subst hs <;> try (exact hp.elim)
  rename_i x
  refine ⟨1000, ?_⟩
  cbv
  constructor
  ·exact fun _ => trivial
  intro z hz
  have hz : z.1 = qA x /\ z.1.length <= z.2 := by subst hΩ; exact hz
  have hl : z.1.length = 56 := by rw [hz.1, qaV]
  cbv
  constructor
  ·intro _; subst hΩ; show 0 < z.1.length; omega
  constructor
  ·exact fun _ => (show 0 + 1 <= z.1.length by omega)
  refine hQ () _ _ _ trivial ⟨rfl, ?_⟩
  subst hΩ
  show IntKind.i64.wrap (binL .and .u8 (z.1.getD 0 0) 1) = odd1 x
  rw [hz.1, qrd, qre _ (Nat.mod_lt _ (by decide)), IntKind.wrap_i64]
  unfold odd1
  omega
def qgJ (Ω : Om) : qd := fun args => match args with
 | [.ab (.fe x)] => ⟨True, Unit, fun _ => True, fun _ => .bs (Ω.hide _ fun _ => decide (x.val % 2 = 1))⟩
 | _ => PR.none
theorem qri : Ctr Tryz.prog T glob 53 (qgJ Om.real) := by
 refine qo T_ok qi qj (fun Ω => [(110, qeQ Ω)]) [] (fun Ω => []) [] (qb qm3 qg) qh qe qf Tryz.func53 (by rfl) (by kernel_rfl) Tryz.call53 ?_ ?_
 ·intro args; unfold qgJ; split
  ·exact qr (by repeat' constructor) (fun _ _ => rfl) (by repeat' constructor)
  ·exact PR.good_none
 ·intro P Ω hΩ hE hI hm args pr hs hp Q hQ
  unfold qgJ at hs
  split at hs <;> subst hs <;> try (exact hp.elim)
  rename_i x
  refine ⟨1000, ?_⟩
  cbv
  repeat (constructor; (first | exact fun _ => trivial | exact fun _ _ => (by decide)); intro _ _; cbv)
  refine hQ () _ _ _ trivial ?_
  subst hΩ
  show (odd1 x == (1 : Int)) = decide (x.val % 2 = 1)
  rw [Bool.beq_eq_decide_eq]
  congr 1
  unfold odd1
  exact propext (by omega)
def qc5 (Ω : Om) : qd := fun args => match args with
 | [.ab (.fe x)] => ⟨True, Unit, fun _ => True, fun _ => .ab (.fe (Ω.hide _ fun _ => fabs x))⟩
 | _ => PR.none
theorem qgK : Ctr Tryz.prog T glob 61 (qc5 Om.real) := by
 refine qo T_ok qi qj (fun Ω => [(110, qeQ Ω), (111, qc3 Ω), (118, qc2 Ω)]) [] (fun Ω => []) [] (qb qm3 (qb qgE (qb qgC qg))) qh qe qf Tryz.func61 (by rfl) (by kernel_rfl) Tryz.call61 ?_ ?_
 ·intro args; unfold qc5; split
  ·exact qr (by repeat' constructor) (fun _ _ => rfl) (by repeat' constructor)
  ·exact PR.good_none
 ·intro P Ω hΩ hE hI hm args pr hs hp Q hQ
  unfold qc5 at hs
  split at hs <;> subst hs <;> try (exact hp.elim)
  rename_i x
  refine ⟨1000, ?_⟩
  cbv
  repeat (constructor; (first | exact fun _ => trivial | exact fun _ _ => (by decide)); intro _ _; cbv)
  refine hQ () _ _ _ trivial ?_
  subst hΩ
  exact congrArg Pay.fe (qrf x)
def qeR (Ω : Om) : qd := fun args => match args with
 | [.ab (.fe x)] => ⟨True, Unit, fun _ => True, fun _ => .ab (.fe (Ω.hide _ fun _ => finv x))⟩
 | _ => PR.none
theorem qm4 : Ctr Tryz.prog T glob 117 (qeR Om.real) := by
 refine qo T_ok qi qj (fun Ω => [(115, qdK Ω), (164, qeP Ω), (71, qaI Ω)]) [] (fun Ω => []) [] (qb qjt (qb qm2 (qb qa6 qg))) qh qe qf Tryz.func117 (by rfl) (by kernel_rfl) Tryz.call117 ?_ ?_
 ·intro args; unfold qeR; split
  ·exact qr (by repeat' constructor) (fun _ _ => rfl) (by repeat' constructor)
  ·exact PR.good_none
 ·intro P Ω hΩ hE hI hm args pr hs hp Q hQ
  unfold qeR at hs
  split at hs <;> subst hs <;> try (exact hp.elim)
  rename_i x
  refine ⟨1000, ?_⟩
  cbv
  repeat (constructor; (first | exact fun _ => trivial | exact fun _ _ => (by decide)); intro _ _; cbv)
  refine hQ () _ _ _ trivial ?_
  subst hΩ
  exact congrArg Pay.fe (qrg x)
def qdL (Ω : Om) : qd := fun args => match args with
 | [.ab (.fe u), .ab (.fe v)] => ⟨True, Unit, fun _ => True, fun _ => .tup [.ab (.fe (Ω.hide _ fun _ => fabs (u * qq (u * v)))), .bs (Ω.hide _ fun _ => decide (v * (u * qq (u * v) * (u * qq (u * v))) = u))]⟩
 | _ => PR.none
theorem qju : Ctr Tryz.prog T glob 58 (qdL Om.real) := by
 refine qo T_ok qi qj (fun Ω => [(115, qdK Ω), (61, qc5 Ω), (71, qaI Ω), (55, qbq Ω), (74, qc4 Ω)]) [] (fun Ω => []) [] (qb qjt (qb qgK (qb qa6 (qb qcq (qb qgF qg))))) qh qe qf Tryz.func58 (by rfl) (by kernel_rfl) Tryz.call58 ?_ ?_
 ·intro args; unfold qdL; split
  ·exact qr (by repeat' constructor) (fun _ _ => rfl) (by repeat' constructor)
  ·exact PR.good_none
 ·intro P Ω hΩ hE hI hm args pr hs hp Q hQ
  unfold qdL at hs
  split at hs <;> subst hs <;> try (exact hp.elim)
  rename_i u v
  refine ⟨1000, ?_⟩
  cbv
  repeat (constructor; (first | exact fun _ => trivial | exact fun _ _ => (by decide)); intro _ _; cbv)
  refine hQ () _ _ _ trivial ?_
  subst hΩ
  exact ⟨⟨rfl, rfl, trivial⟩, rfl, rfl⟩
def qgL (Ω : Om) : qd := fun args => match args with
 | [.ab (.fe a)] => ⟨True, Bool, fun z => z = decide (a * qq a * (a * qq a) = a), fun z => match z with | true => .tup [.ab (.fe (Ω.hide _ fun _ => fabs (a * qq a))), .lit .i64 0] | false => .tup [.row .u64 8 [0, 0, 0, 0, 0, 0, 0, 0], .lit .i64 17]⟩
 | _ => PR.none
theorem qrj : Ctr Tryz.prog T glob 116 (qgL Om.real) := by
 refine qo T_ok qi qj (fun Ω => [(115, qdK Ω), (61, qc5 Ω), (71, qaI Ω), (55, qbq Ω), (74, qc4 Ω)]) [] (fun Ω => []) [] (qb qjt (qb qgK (qb qa6 (qb qcq (qb qgF qg))))) qh qe qf Tryz.func116 (by rfl) (by kernel_rfl) Tryz.call116 ?_ ?_
 ·intro args; unfold qgL; split
  ·exact qa5 ⟨fun x => by cases x <;> repeat' (first | exact trivial | constructor), fun E x b => by cases x <;> rfl⟩ ⟨trivial, trivial⟩ (fun _ => ⟨_, rfl⟩)
  ·exact PR.good_none
 ·intro P Ω hΩ hE hI hm args pr hs hp Q hQ
  unfold qgL at hs
  split at hs <;> subst hs <;> try (exact hp.elim)
  rename_i a
  refine ⟨1000, ?_⟩
  cbv
  repeat (constructor; (first | exact fun _ => trivial | exact fun _ _ => (by decide)); intro _ _; cbv)
  constructor
  ·intro hc
   cbv
   refine hQ false _ _ _ ?_ ?_
   ·subst hΩ
    have h : (!decide (a * qq a * (a * qq a) = a)) = true := hc
    show false = decide (a * qq a * (a * qq a) = a)
    rw [Bool.not_eq_true'] at h; exact h.symm
   ·exact ⟨⟨⟨rfl, rfl, rfl⟩, ⟨rfl, rfl⟩, trivial⟩, rfl, rfl⟩
  ·intro hc
   cbv
   repeat (constructor; (first | exact fun _ => trivial | exact fun _ _ => (by decide)); intro _ _; cbv)
   refine hQ true _ _ _ ?_ ?_
   ·subst hΩ
    have h : (!decide (a * qq a * (a * qq a) = a)) = false := hc
    show true = decide (a * qq a * (a * qq a) = a)
    rw [Bool.not_eq_false'] at h; exact h.symm
   ·subst hΩ
    exact ⟨⟨rfl, ⟨rfl, rfl⟩, trivial⟩, rfl, rfl⟩
end Go.Sx.Tryz
end
section
set_option maxHeartbeats 4000000
namespace Go.Sx.Tryz
open Go.Proofs
def qcs (Ω : Om) : qd := fun args => match args with
 | [] => ⟨True, Unit, fun _ => True, fun _ => .ab (.pt (Ω.hide _ fun _ => pid))⟩
 | _ => PR.none
theorem qeT : Ctr Tryz.prog T glob 82 (qcs Om.real) := by
 refine qo T_ok qi qj (fun Ω => [(54, qbd Ω)]) [] (fun Ω => []) [] (qb qbO qg) qh qe qf Tryz.func82 (by rfl) (by kernel_rfl) Tryz.call82 ?_ ?_
 ·intro args; unfold qcs; split
  ·exact qr (by repeat' constructor) (fun _ _ => rfl) (by repeat' constructor)
  ·exact PR.good_none
 ·intro P Ω hΩ hE hI hm args pr hs hp Q hQ
  unfold qcs at hs
  split at hs <;> subst hs <;> try (exact hp.elim)
  refine ⟨1000, ?_⟩
  cbv
  repeat (constructor; (first | exact fun _ => trivial | exact fun _ _ => (by decide)); intro _ _; cbv)
  refine hQ () _ _ _ trivial ?_
  subst hΩ
  exact qce qdM qbM (by decide +kernel) (by decide +kernel)
def qgQ (Ω : Om) : qd := fun args => match args with
 | [.ab (.fe a), .rop (.ab (.fe o)) (.l 0)] => ⟨True, Unit, fun _ => True, fun _ => .ab (.fe (Ω.hide _ fun _ => a * o))⟩
 | _ => PR.none
theorem qrv : Ctr Tryz.prog T glob 123 (qgQ Om.real) := by
 refine qo T_ok qi qj (fun Ω => [(71, qaI Ω)]) [] (fun Ω => []) [] (qb qa6 qg) qh qe qf Tryz.func123 (by rfl) (by kernel_rfl) Tryz.call123 ?_ ?_
 ·intro args; unfold qgQ; split
  ·exact qr (by repeat' constructor) (fun _ _ => rfl) (by repeat' constructor)
  ·exact PR.good_none
 ·intro P Ω hΩ hE hI hm args pr hs hp Q hQ
  unfold qgQ at hs
  split at hs <;> subst hs <;> try (exact hp.elim)
  rename_i a o
  refine ⟨1000, ?_⟩
  cbv
  repeat (constructor; (first | exact fun _ => trivial | exact fun _ _ => (by decide)); intro _ _; cbv)
  exact hQ () _ _ _ trivial rfl
def qeU (Ω : Om) : qd := fun args => match args with
 | [.ab (.pt P)] => ⟨True, Unit, fun _ => True, fun _ => .tup [.ab (.fe (Ω.hide _ fun _ => P.x)), .ab (.fe (Ω.hide _ fun _ => P.y))]⟩
 | _ => PR.none
theorem qm8 : Ctr Tryz.prog T glob 70 (qeU Om.real) := by
 refine qal T_ok qi qj (fun Ω => [(117, qeR Ω), (123, qgQ Ω)]) [] (fun Ω => []) [] (qb qm4 (qb qrv qg)) qh qe qf Tryz.func70 (by rfl) (by kernel_rfl) Tryz.call70 ?_ ?_
 ·intro args; unfold qeU; split
  ·exact qr (by repeat' constructor) (fun _ _ => rfl) (by repeat' constructor)
  ·exact PR.good_none
 ·intro P Ω hΩ hE hI hm args pr hs hp cs hcs Q hQ
  unfold qeU at hs
  split at hs <;> subst hs <;> try (exact hp.elim)
  rename_i P
  obtain ⟨_, _, rfl, ⟨X, Y, Z, rfl, hP, hz, hx, hy⟩, rfl⟩ := hcs
  refine ⟨1000, ?_⟩
  cbv
  repeat (constructor; (first | exact fun _ => trivial | exact fun _ _ => (by decide)); intro _ _; cbv)
  refine hQ () _ _ _ trivial ?_
  subst hΩ
  exact ⟨⟨congrArg Pay.fe (qgP hz hx), congrArg Pay.fe (qgP hz hy), trivial⟩, rfl, rfl⟩
def qc6 (Ω : Om) : qd := fun args => match args with
 | [.ab (.pt P), .ab (.pt Q)] => ⟨True, Unit, fun _ => True, fun _ => .ab (.pt (Ω.hide _ fun _ => padd P Q))⟩
 | _ => PR.none
theorem qgR : Ctr Tryz.prog T glob 76 (qc6 Om.real) := by
 refine qal T_ok qi qj (fun Ω => [(71, qaI Ω), (55, qbq Ω), (57, qbP Ω), (62, qbN Ω), (56, qcm Ω)]) [] (fun Ω => []) [] (qb qa6 (qb qcq (qb qdJ (qb qdF (qb qeJ qg))))) qh qe qf Tryz.func76 (by rfl) (by kernel_rfl) Tryz.call76 ?_ ?_
 ·intro args; unfold qc6; split
  ·exact qr (by repeat' constructor) (fun _ _ => rfl) (by repeat' constructor)
  ·exact PR.good_none
 ·intro P Ω hΩ hE hI hm args pr hs hp cs hcs Q hQ
  unfold qc6 at hs
  split at hs <;> subst hs <;> try (exact hp.elim)
  rename_i P R
  obtain ⟨_, _, rfl, ⟨X1, Y1, Z1, rfl, hP, z1, x1, y1⟩, _, _, rfl, ⟨X2, Y2, Z2, rfl, hR, z2, x2, y2⟩, rfl⟩ := hcs
  refine ⟨1000, ?_⟩
  cbv
  repeat (constructor; (first | exact fun _ => trivial | exact fun _ _ => (by decide)); intro _ _; cbv)
  refine hQ () _ _ _ trivial ?_
  subst hΩ
  have h := qrt hP hR z1 x1 y1 z2 x2 y2
  rw [<- fI_d] at h
  exact qce (qaw hP hR) h.1 h.2.1 h.2.2
def qc7 (Ω : Om) : qd := fun args => match args with
 | [.ab (.pt P)] => ⟨True, Unit, fun _ => True, fun _ => .ab (.pt (Ω.hide _ fun _ => padd P P))⟩
 | _ => PR.none
theorem qgS : Ctr Tryz.prog T glob 103 (qc7 Om.real) := by
 refine qal T_ok qi qj (fun Ω => [(71, qaI Ω), (55, qbq Ω), (57, qbP Ω), (62, qbN Ω), (56, qcm Ω)]) [] (fun Ω => []) [] (qb qa6 (qb qcq (qb qdJ (qb qdF (qb qeJ qg))))) qh qe qf Tryz.func103 (by rfl) (by kernel_rfl) Tryz.call103 ?_ ?_
 ·intro args; unfold qc7; split
  ·exact qr (by repeat' constructor) (fun _ _ => rfl) (by repeat' constructor)
  ·exact PR.good_none
 ·intro P Ω hΩ hE hI hm args pr hs hp cs hcs Q hQ
  unfold qc7 at hs
  split at hs <;> subst hs <;> try (exact hp.elim)
  rename_i P
  obtain ⟨_, _, rfl, ⟨X, Y, Z, rfl, hP, hz, hx, hy⟩, rfl⟩ := hcs
  refine ⟨1000, ?_⟩
  cbv
  repeat (constructor; (first | exact fun _ => trivial | exact fun _ _ => (by decide)); intro _ _; cbv)
  refine hQ () _ _ _ trivial ?_
  subst hΩ
  have h := qru hP hz hx hy
  rw [<- fI_2] at h
  exact qce (qaw hP hP) h.1 h.2.1 h.2.2
def qeV (Ω : Om) : qd := fun args => match args with
 | [.ab (.pt P)] => ⟨True, Unit, fun _ => True, fun _ => .ab (.pt (Ω.hide _ fun _ => pneg P))⟩
 | _ => PR.none
theorem qm9 : Ctr Tryz.prog T glob 79 (qeV Om.real) := by
 refine qal T_ok qi qj (fun Ω => [(111, qc3 Ω)]) [] (fun Ω => []) [] (qb qgE qg) qh qe qf Tryz.func79 (by rfl) (by kernel_rfl) Tryz.call79 ?_ ?_
 ·intro args; unfold qeV; split
  ·exact qr (by repeat' constructor) (fun _ _ => rfl) (by repeat' constructor)
  ·exact PR.good_none
 ·intro P Ω hΩ hE hI hm args pr hs hp cs hcs Q hQ
  unfold qeV at hs
  split at hs <;> subst hs <;> try (exact hp.elim)
  rename_i P
  obtain ⟨_, _, rfl, ⟨X, Y, Z, rfl, hP, hz, hx, hy⟩, rfl⟩ := hcs
  refine ⟨1000, ?_⟩
  cbv
  repeat (constructor; (first | exact fun _ => trivial | exact fun _ _ => (by decide)); intro _ _; cbv)
  refine hQ () _ _ _ trivial ?_
  subst hΩ
  exact qce (qbA hP) hz (by show -X = -P.x * Z; rw [hx]; grind -lia -linarith -order -ac (splits := 0)) hy
def qgT (Ω : Om) : qd := fun args => match args with
 | [.agg [.int .i64 b], .ab (.fe x), .ab (.fe y)] => ⟨True, Unit, fun _ => True, fun _ => .ab (.fe (Ω.hide _ fun _ => if b % 2 = 0 then x else y))⟩
 | _ => PR.none
theorem qrw : Ctr Tryz.prog T glob 129 (qgT Om.real) := by
 refine qo T_ok qi qj (fun Ω => [(118, qc2 Ω)]) [] (fun Ω => []) [] (qb qgC qg) qh qe qf Tryz.func129 (by rfl) (by kernel_rfl) Tryz.call129 ?_ ?_
 ·intro args; unfold qgT; split
  ·exact qr (by repeat' constructor) (fun _ _ => rfl) (by repeat' constructor)
  ·exact PR.good_none
 ·intro P Ω hΩ hE hI hm args pr hs hp Q hQ
  unfold qgT at hs
  split at hs <;> subst hs <;> try (exact hp.elim)
  rename_i b x y
  refine ⟨1000, ?_⟩
  cbv
  repeat (constructor; (first | exact fun _ => trivial | exact fun _ _ => (by decide)); intro _ _; cbv)
  exact hQ () _ _ _ trivial rfl
def qeW (Ω : Om) : qd := fun args => match args with
 | [.int .i64 b, .ab (.pt P), .ab (.pt Q)] => ⟨True, Unit, fun _ => True, fun _ => .ab (.pt (Ω.hide _ fun _ => if b % 2 = 0 then P else Q))⟩
 | _ => PR.none
theorem qna : Ctr Tryz.prog T glob 75 (qeW Om.real) := by
 refine qal T_ok qi qj (fun Ω => [(129, qgT Ω)]) [] (fun Ω => []) [] (qb qrw qg) qh qe qf Tryz.func75 (by rfl) (by kernel_rfl) Tryz.call75 ?_ ?_
 ·intro args; unfold qeW; split
  ·exact qr (by repeat' constructor) (fun _ _ => rfl) (by repeat' constructor)
  ·exact PR.good_none
 ·intro P Ω hΩ hE hI hm args pr hs hp cs hcs Q hQ
  unfold qeW at hs
  split at hs <;> subst hs <;> try (exact hp.elim)
  rename_i b P R
  obtain ⟨_, _, rfl, rfl, _, _, rfl, ⟨X1, Y1, Z1, rfl, hP, z1, x1, y1⟩, _, _, rfl, ⟨X2, Y2, Z2, rfl, hR, z2, x2, y2⟩, rfl⟩ := hcs
  refine ⟨1000, ?_⟩
  cbv
  repeat (constructor; (first | exact fun _ => trivial | exact fun _ _ => (by decide)); intro _ _; cbv)
  refine hQ () _ _ _ trivial ?_
  subst hΩ
  by_cases hb : b % 2 = 0
  ·simp only [Om.real, if_pos hb]
   exact qce hP z1 x1 y1
  ·simp only [Om.real, if_neg hb]
   exact qce hR z2 x2 y2
def qeX (Ω : Om) : qd := fun args => match args with
 | [.ab (.fe x), .ab (.fe y)] => ⟨True, Bool, fun z => z = decide (AP.on ⟨x, y⟩), fun z => match z with | true => .tup [.ab (.pt (Ω.hide _ fun _ => ⟨x, y⟩)), .lit .i64 0] | false => .tup [.agg [.agg [.row .u64 8 [0, 0, 0, 0, 0, 0, 0, 0]], .agg [.row .u64 8 [0, 0, 0, 0, 0, 0, 0, 0]], .agg [.row .u64 8 [0, 0, 0, 0, 0, 0, 0, 0]]], .lit .i64 13]⟩
 | _ => PR.none
theorem qnb : Ctr Tryz.prog T glob 63 (qeX Om.real) := by
 refine qo T_ok qi qj (fun Ω => [(55, qbq Ω), (56, qcm Ω), (54, qbd Ω), (71, qaI Ω), (57, qbP Ω), (74, qc4 Ω)]) [] (fun Ω => []) [] (qb qcq (qb qeJ (qb qbO (qb qa6 (qb qdJ (qb qgF qg)))))) qh qe qf Tryz.func63 (by rfl) (by kernel_rfl) Tryz.call63 ?_ ?_
 ·intro args; unfold qeX; split
  ·exact qa5 ⟨fun x => by cases x <;> repeat' (first | exact trivial | constructor), fun E x b => by cases x <;> rfl⟩ (by repeat' (first | exact trivial | constructor)) (fun _ => ⟨_, rfl⟩)
  ·exact PR.good_none
 ·intro P Ω hΩ hE hI hm args pr hs hp Q hQ
  unfold qeX at hs
  split at hs <;> subst hs <;> try (exact hp.elim)
  rename_i x y
  refine ⟨1000, ?_⟩
  cbv
  repeat (constructor; (first | exact fun _ => trivial | exact fun _ _ => (by decide)); intro _ _; cbv)
  constructor
  ·intro hc
   cbv
   refine hQ false _ _ _ ?_ ?_
   ·subst hΩ
    have h : (!decide (x * x + y * y = fI 1 + x * x * (y * y) * fI (-39081))) = true := hc
    show false = decide (AP.on ⟨x, y⟩)
    rw [Bool.not_eq_true'] at h
    rw [<- h]; congr 1; exact propext (qm7 x y)
   ·exact ⟨⟨⟨⟨⟨rfl, rfl, rfl⟩, trivial⟩, ⟨⟨rfl, rfl, rfl⟩, trivial⟩, ⟨⟨rfl, rfl, rfl⟩, trivial⟩, trivial⟩, ⟨rfl, rfl⟩, trivial⟩, rfl, rfl⟩
  ·intro hc
   cbv
   repeat (constructor; (first | exact fun _ => trivial | exact fun _ _ => (by decide)); intro _ _; cbv)
   have hon : AP.on ⟨x, y⟩ := by
    subst hΩ
    have h : (!decide (x * x + y * y = fI 1 + x * x * (y * y) * fI (-39081))) = false := hc
    rw [Bool.not_eq_false', decide_eq_true_eq] at h
    exact (qm7 x y).1 h
   refine hQ true _ _ _ ?_ ?_
   ·exact (decide_eq_true hon).symm
   ·subst hΩ
    refine ⟨⟨qce hon qcr ?_ ?_, ⟨rfl, rfl⟩, trivial⟩, rfl, rfl⟩
    ·show x = x * fI 1
     rw [qaD]; grind -lia -linarith -order -ac (splits := 0)
    ·show y = y * fI 1
     rw [qaD]; grind -lia -linarith -order -ac (splits := 0)
end Go.Sx.Tryz
end
section
set_option maxHeartbeats 4000000
namespace Go.Sx.Tryz
open Go.Proofs
def qgU (Ω : Om) : qd := fun args => match args with
 | [.roi .u8 xs, .roi .u8 ys] => ⟨∀ _ : Unit, xs.length < 9223372036854775808 /\ ys.length < 9223372036854775808, Unit, fun _ => True, fun _ => .bs (Ω.hide _ fun _ => xs == ys)⟩
 | _ => PR.none
theorem qry : Ctr Tryz.prog T glob 109 (qgU Om.real) := by
 refine qo T_ok qi qj (fun Ω => []) [] (fun Ω => []) [] qg qh qe qf Tryz.func109 (by rfl) (by kernel_rfl) Tryz.call109 ?_ ?_
 ·intro args; unfold qgU; split
  ·exact qr (by repeat' constructor) (fun _ _ => rfl) (by repeat' constructor)
  ·exact PR.good_none
 ·intro P Ω hΩ hE hI hm args pr hs hp Q hQ
  unfold qgU at hs
  split at hs <;> subst hs <;> try (exact hp.elim)
  rename_i xs ys
  obtain ⟨lx, ly⟩ := hp ()
  refine ⟨1000, ?_⟩
  cbv
  constructor
  ·intro hb
   cbv
   rw [hΩ] at hb; simp (disch := omega) only [Om.real, qk, decide_eq_true_eq, decide_eq_false_iff_not] at hb
   refine hQ () _ _ _ trivial ?_
   subst hΩ
   show false = (xs == ys)
   cases h3 : xs == ys with
   | false => rfl
   | true => exact absurd (congrArg List.length (eq_of_beq h3)) hb
  ·intro hb
   cbv
   rw [hΩ] at hb; simp (disch := omega) only [Om.real, qk, decide_eq_true_eq, decide_eq_false_iff_not] at hb
   have hlen : xs.length = ys.length := by omega
   refine qv hE hI hm (fun i : Nat => (mkT 26 [(0, .roi .u8 xs), (1, .roi .u8 ys), (12, .int .i64 (Ω.ofN (Ω.len xs))), (13, .int .i64 i)], [])) (fun i => i <= xs.length /\ xs.take i = ys.take i) (fun i => xs.length - i) 0 ⟨0, [], ⟨Nat.zero_le _, rfl⟩, Nat.le_refl _, by cbv⟩ fun i hi => ⟨1000, ?_⟩
   cbv
   constructor
   ·intro hc
    cbv
    rw [hΩ] at hc; simp (disch := omega) only [Om.real, qk, decide_eq_true_eq, decide_eq_false_iff_not] at hc
    repeat (refine ⟨by ((try intro _); (try subst hΩ); simp (disch := omega) only [Om.real, qk, SN.v]; omega), ?_⟩)
    constructor
    ·intro hne
     cbv
     refine hQ () _ _ _ trivial ?_
     subst hΩ
     have h1 : (xs.getD i 0 != ys.getD i 0) = true := hne
     show false = (xs == ys)
     cases h3 : xs == ys with
     | false => rfl
     | true => rw [eq_of_beq h3] at h1; simp at h1
    ·intro hne
     cbv
     refine ⟨i + 1, [], ⟨hc, ?_⟩, by omega, Nat.zero_le _, ?_⟩
     ·subst hΩ
      have h1 : (xs.getD i 0 != ys.getD i 0) = false := hne
      rw [bne_eq_false_iff_eq] at h1
      rw [List.take_succ_eq_append_getElem hc, List.take_succ_eq_append_getElem (by omega), hi.2]
      have e1 : xs.getD i 0 = xs[i] := by simp [List.getD, hc]
      have e2 : ys.getD i 0 = ys[i]'(by omega) := by simp [List.getD, show i < ys.length by omega]
      rw [<- e1, <- e2, h1]
     ·cbv
      subst hΩ
      simp (disch := omega) only [Om.real, qk]
   ·intro hc
    cbv
    rw [hΩ] at hc; simp (disch := omega) only [Om.real, qk, decide_eq_true_eq, decide_eq_false_iff_not] at hc
    refine hQ () _ _ _ trivial ?_
    have : i = xs.length := by have := hi.1; omega
    subst this
    have h2 := hi.2
    rw [List.take_length, hlen, List.take_length] at h2
    subst hΩ
    show true = (xs == ys)
    rw [h2]
    simp
def qeZ (Ω : Om) : qd := fun args => match args with
 | [.roa (.fe xs)] => ⟨∀ _ : Unit, xs.length < 9223372036854775808, Unit, fun _ => True, fun _ => .ab (.fe (Ω.hide _ fun _ => qP xs))⟩
 | _ => PR.none
theorem qnf : Ctr Tryz.prog T glob 59 (qeZ Om.real) := by
 refine qo T_ok qi qj (fun Ω => [(71, qaI Ω), (54, qbd Ω)]) [] (fun Ω => []) [] (qb qa6 (qb qbO qg)) qh qe qf Tryz.func59 (by rfl) (by kernel_rfl) Tryz.call59 ?_ ?_
 ·intro args; unfold qeZ; split
  ·exact qr (by repeat' constructor) (fun _ _ => rfl) (by repeat' constructor)
  ·exact PR.good_none
 ·intro P Ω hΩ hE hI hm args pr hs hp Q hQ
  unfold qeZ at hs
  split at hs <;> subst hs <;> try (exact hp.elim)
  rename_i xs
  have hx := hp ()
  refine ⟨1000, ?_⟩
  cbv
  repeat (constructor; (first | exact fun _ => trivial | exact fun _ _ => (by decide)); intro _ _; cbv)
  obtain ⟨L, hL⟩ : ∃ L, L = xs.length := ⟨_, rfl⟩
  obtain ⟨one, hone⟩ : ∃ one, one = fI 1 := ⟨_, rfl⟩
  have hlo : Ω.hide Nat (fun _ => xs.length) = L := by subst hΩ; exact hL.symm
  rw [<- hL] at hx
  refine qv hE hI hm (fun z : Nat × Fp => (mkT 18 [(2, .ptr 0 (.l 0)), (3, .ptr 16 (.l 0)), (7, .roa (.fe xs)), (8, .int .i64 L), (9, .int .i64 z.1)], [(16, .ab (.fe z.2)), (0, .agg [.row .u64 8 [0, 0, 0, 0, 0, 0, 0, 0]])])) (fun z => z.1 <= L /\ z.2 = qP (xs.take z.1)) (fun z => L - z.1) 0 ⟨(0, one), [], ⟨Nat.zero_le _, hone⟩, Nat.le_refl _, ?_⟩ fun z hz => ⟨1000, ?_⟩
  ·cbv
   subst hΩ
   exact ⟨congrArg Int.ofNat hL.symm, rfl, congrArg Pay.fe hone.symm, trivial⟩
  obtain ⟨i, y⟩ := z
  obtain ⟨hi, hy⟩ : i <= L /\ y = qP (xs.take i) := hz
  cbv
  constructor
  ·intro hc
   cbv
   rw [hΩ] at hc; simp (disch := omega) only [Om.real, qk, decide_eq_true_eq, decide_eq_false_iff_not] at hc
   constructor
   ·intro _
    refine ⟨Int.natCast_nonneg _, ?_⟩
    show (i : Int) < ((Ω.hide Nat (fun _ => xs.length) : Nat) : Int)
    rw [hlo]; omega
   constructor
   ·intro _
    subst hΩ
    show i < xs.length; omega
   repeat (constructor; (first | exact fun _ => trivial | exact fun _ _ => (by decide)); intro _ _; cbv)
   obtain ⟨y2, hy2⟩ : ∃ y2, y2 = y * xs.getD i 0 := ⟨_, rfl⟩
   refine ⟨(i + 1, y2), [], ⟨hc, ?_⟩, by simp only; omega, Nat.zero_le _, ?_⟩
   ·show y2 = qP (xs.take (i + 1))
    rw [hy2, hy]
    exact qrx xs i (by omega)
   cbv
   subst hΩ
   simp (disch := omega) only [Om.real, qk]
   exact ⟨trivial, ⟨by rw [hy2], trivial⟩⟩
  ·intro hc
   cbv
   rw [hΩ] at hc; simp (disch := omega) only [Om.real, qk, decide_eq_true_eq, decide_eq_false_iff_not] at hc
   have e : i = xs.length := by omega
   refine hQ () _ _ _ trivial ?_
   subst hΩ
   show Pay.fe y = Pay.fe (qP xs)
   rw [hy, e, List.take_length]
def qe0 (Ω : Om) : qd := fun args => match args with
 | [.roi .u8 bs] => ⟨∀ _ : Unit, (∀ a ∈ bs, 0 <= a /\ a < 256) /\ bs.length < 9223372036854775808, Bool, fun z => z = (decide (bs.length = 56 /\ qw bs < 726838724295606890549323807888004534353641360687318060281490199180612328166730772686396383698676545930088884461843637361053498018365439)), fun z => match z with | true => .tup [.ab (.fe (Ω.hide _ fun _ => fI (qw bs))), .lit .i64 0] | false => .tup [.row .u64 8 [0, 0, 0, 0, 0, 0, 0, 0], .int .i64 (Ω.hide _ fun _ => if bs.length = 56 then 12 else 11)]⟩
 | _ => PR.none
theorem qng : Ctr Tryz.prog T glob 52 (qe0 Om.real) := by
 refine qo T_ok qi qj (fun Ω => [(108, qeK Ω), (72, qdH Ω), (109, qgU Ω)]) [] (fun Ω => []) [] (qb qmM (qb qjr (qb qry qg))) qh qe qf Tryz.func52 (by rfl) (by kernel_rfl) Tryz.call52 ?_ ?_
 ·intro args; unfold qe0; split
  ·exact qa5 ⟨fun x => by cases x <;> repeat' (first | exact trivial | constructor), fun E x b => by cases x <;> rfl⟩ (by repeat' (first | exact trivial | constructor)) (fun _ => ⟨_, rfl⟩)
  ·exact PR.good_none
 ·intro P Ω hΩ hE hI hm args pr hs hp Q hQ
  unfold qe0 at hs
  split at hs <;> subst hs <;> try (exact hp.elim)
  rename_i bs
  obtain ⟨hb, hl⟩ := hp ()
  refine ⟨1000, ?_⟩
  cbv
  constructor
  ·exact fun _ _ => hb
  intro z hz
  have hz : z = (bs.length == 56) := hz
  cases z with
  | false =>
    have hl56 : ¬ bs.length = 56 := fun h => by rw [h] at hz; exact Bool.noConfusion hz
    cbv
    refine hQ false _ _ _ ?_ ?_
    · show false = decide _
      exact (decide_eq_false (fun h => hl56 h.1)).symm
    · subst hΩ
      refine ⟨⟨⟨rfl, rfl, rfl⟩, ⟨rfl, ?_⟩, trivial⟩, rfl, rfl⟩
      exact (if_neg hl56).symm
  | true =>
    have hl56 : bs.length = 56 := eq_of_beq hz.symm
    cbv
    constructor
    · exact fun _ => trivial
    intro w hw
    have hw : w.1 = qA (fI (qw bs)) /\ w.1.length <= w.2 := by subst hΩ; exact hw
    have hwl : w.1.length = 56 := by rw [hw.1, qaV]
    cbv
    constructor
    · exact fun _ => ⟨(by subst hΩ; show 0 + w.1.length <= w.1.length; omega), trivial, trivial⟩
    constructor
    · intro _ _
      subst hΩ
      exact ⟨by show ((w.1.drop 0).take w.1.length).length < _; rw [List.drop_zero, List.take_length]; omega, hl⟩
    intro _ _
    cbv
    constructor
    · intro hc
      cbv
      have hne : ¬ qw bs < 726838724295606890549323807888004534353641360687318060281490199180612328166730772686396383698676545930088884461843637361053498018365439 := by
        subst hΩ
        have h : (!((w.1.drop 0).take w.1.length == bs)) = true := hc
        rw [List.drop_zero, List.take_length, hw.1, Bool.not_eq_true'] at h
        intro hlt
        rw [(qne hl56 hb).2 hlt] at h
        simp at h
      refine hQ false _ _ _ ?_ ?_
      · show false = decide _
        exact (decide_eq_false (fun h => hne h.2)).symm
      · subst hΩ
        refine ⟨⟨⟨rfl, rfl, rfl⟩, ⟨rfl, ?_⟩, trivial⟩, rfl, rfl⟩
        exact (if_pos hl56).symm
    · intro hc
      cbv
      have hlt : qw bs < 726838724295606890549323807888004534353641360687318060281490199180612328166730772686396383698676545930088884461843637361053498018365439 := by
        subst hΩ
        have h : (!((w.1.drop 0).take w.1.length == bs)) = false := hc
        rw [List.drop_zero, List.take_length, hw.1, Bool.not_eq_false'] at h
        exact (qne hl56 hb).1 (eq_of_beq h)
      refine hQ true _ _ _ ?_ ?_
      · show true = decide _
        exact (decide_eq_true ⟨hl56, hlt⟩).symm
      · subst hΩ
        exact ⟨⟨rfl, ⟨rfl, rfl⟩, trivial⟩, rfl, rfl⟩
end Go.Sx.Tryz
end
section
set_option maxHeartbeats 4000000
namespace Go.Sx.Tryz
open Go.Proofs
set_option maxRecDepth 40000
def qe1 (Ω : Om) : qd := fun args => match args with
 | [] => ⟨True, Unit, fun _ => True, fun _ => .tup [.ab (.fe (Ω.hide _ fun _ => qax)), .ab (.fe (Ω.hide _ fun _ => qay))]⟩
 | _ => PR.none
theorem qnh : Ctr Tryz.prog T glob 60 (qe1 Om.real) := by
 refine qo T_ok qi qj (fun Ω => [(54, qbd Ω), (116, qgL Ω), (117, qeR Ω)]) [] (fun Ω => []) [] (qb qbO (qb qrj (qb qm4 qg))) qh qe qf Tryz.func60 (by rfl) (by kernel_rfl) Tryz.call60 ?_ ?_
 ·intro args; unfold qe1; split
  ·exact qr (by repeat' constructor) (fun _ _ => rfl) (by repeat' constructor)
  ·exact PR.good_none
 ·intro P Ω hΩ hE hI hm args pr hs hp Q hQ
  unfold qe1 at hs
  split at hs <;> subst hs <;> try (exact hp.elim)
  refine ⟨1000, ?_⟩
  cbv
  constructor
  ·exact fun _ _ => (by decide)
  intro _ _
  cbv
  constructor
  ·exact fun _ => trivial
  intro z hz
  have hz1 : z = true := by
   subst hΩ
   rw [show z = _ from hz]
   exact decide_eq_true (qdN pw_d)
  subst hz1
  cbv
  constructor
  ·exact fun _ _ => (by decide)
  intro _ _
  cbv
  constructor
  ·exact fun _ => trivial
  intro _ _
  cbv
  constructor
  ·exact fun _ => trivial
  intro z hz
  have hz1 : z = true := by
   subst hΩ
   rw [show z = _ from hz]
   exact decide_eq_true (qdN pw_e)
  subst hz1
  cbv
  refine hQ () _ _ _ trivial ?_
  subst hΩ
  exact ⟨⟨rfl, rfl, trivial⟩, rfl, rfl⟩
def qdP (Ω : Om) : qd := fun args => match args with
 | [] => ⟨True, Unit, fun _ => True, fun _ => .ab (.pt (Ω.hide _ fun _ => pid))⟩
 | _ => PR.none
theorem qjv : Ctr Tryz.prog T glob 30 (qdP Om.real) := by
 refine qo T_ok qi qj (fun Ω => [(82, qcs Ω)]) [] (fun Ω => []) [] (qb qeT qg) qh qe qf Tryz.func30 (by rfl) (by kernel_rfl) Tryz.call30 ?_ ?_
 ·intro args; unfold qdP; split
  ·exact qr (by repeat' constructor) (fun _ _ => rfl) (by repeat' constructor)
  ·exact PR.good_none
 ·intro P Ω hΩ hE hI hm args pr hs hp Q hQ
  unfold qdP at hs
  split at hs <;> subst hs <;> try (exact hp.elim)
  refine ⟨1000, ?_⟩
  cbv
  repeat (constructor; (first | exact fun _ => trivial | exact fun _ _ => (by decide)); intro _ _; cbv)
  refine hQ () _ _ _ trivial ?_
  subst hΩ
  rfl
def qgV (Ω : Om) : qd := fun args => match args with
 | [.ab (.pt P), .ab (.pt Q)] => ⟨True, Unit, fun _ => True, fun _ => .ab (.pt (Ω.hide _ fun _ => padd P Q))⟩
 | _ => PR.none
theorem qrz : Ctr Tryz.prog T glob 21 (qgV Om.real) := by
 refine qo T_ok qi qj (fun Ω => [(76, qc6 Ω)]) [] (fun Ω => []) [] (qb qgR qg) qh qe qf Tryz.func21 (by rfl) (by kernel_rfl) Tryz.call21 ?_ ?_
 ·intro args; unfold qgV; split
  ·exact qr (by repeat' constructor) (fun _ _ => rfl) (by repeat' constructor)
  ·exact PR.good_none
 ·intro P Ω hΩ hE hI hm args pr hs hp Q hQ
  unfold qgV at hs
  split at hs <;> subst hs <;> try (exact hp.elim)
  refine ⟨1000, ?_⟩
  cbv
  repeat (constructor; (first | exact fun _ => trivial | exact fun _ _ => (by decide)); intro _ _; cbv)
  refine hQ () _ _ _ trivial ?_
  subst hΩ
  rfl
def quG (Ω : Om) : qd := fun args => match args with
 | [.ab (.pt P)] => ⟨True, Unit, fun _ => True, fun _ => .ab (.pt (Ω.hide _ fun _ => pneg P))⟩
 | _ => PR.none
def qe2 (Ω : Om) : qd := fun args => match args with
 | [.ab (.pt P)] => ⟨True, Unit, fun _ => True, fun _ => .ab (.pt (Ω.hide _ fun _ => padd P P))⟩
 | _ => PR.none
theorem qni : Ctr Tryz.prog T glob 39 (qe2 Om.real) := by
 refine qo T_ok qi qj (fun Ω => [(103, qc7 Ω)]) [] (fun Ω => []) [] (qb qgS qg) qh qe qf Tryz.func39 (by rfl) (by kernel_rfl) Tryz.call39 ?_ ?_
 ·intro args; unfold qe2; split
  ·exact qr (by repeat' constructor) (fun _ _ => rfl) (by repeat' constructor)
  ·exact PR.good_none
 ·intro P Ω hΩ hE hI hm args pr hs hp Q hQ
  unfold qe2 at hs
  split at hs <;> subst hs <;> try (exact hp.elim)
  refine ⟨1000, ?_⟩
  cbv
  repeat (constructor; (first | exact fun _ => trivial | exact fun _ _ => (by decide)); intro _ _; cbv)
  refine hQ () _ _ _ trivial ?_
  subst hΩ
  rfl
def qgW (Ω : Om) : qd := fun args => match args with
 | [.ab (.pt P), .ab (.pt Q)] => ⟨True, Unit, fun _ => True, fun _ => .bs (Ω.hide _ fun _ => decide (P.x * Q.y = P.y * Q.x))⟩
 | _ => PR.none
theorem qrA : Ctr Tryz.prog T glob 19 (qgW Om.real) := by
 refine qo T_ok qi qj (fun Ω => [(70, qeU Ω), (71, qaI Ω), (74, qc4 Ω)]) [] (fun Ω => []) [] (qb qm8 (qb qa6 (qb qgF qg))) qh qe qf Tryz.func19 (by rfl) (by kernel_rfl) Tryz.call19 ?_ ?_
 ·intro args; unfold qgW; split
  ·exact qr (by repeat' constructor) (fun _ _ => rfl) (by repeat' constructor)
  ·exact PR.good_none
 ·intro P Ω hΩ hE hI hm args pr hs hp Q hQ
  unfold qgW at hs
  split at hs <;> subst hs <;> try (exact hp.elim)
  refine ⟨1000, ?_⟩
  cbv
  repeat (constructor; (first | exact fun _ => trivial | exact fun _ _ => (by decide)); intro _ _; cbv)
  refine hQ () _ _ _ trivial ?_
  subst hΩ
  rfl
def qe3 (Ω : Om) : qd := fun args => match args with
 | [.ab (.pt P)] => ⟨True, List Int × Nat, fun z => z.1 = qA (encF P) /\ z.1.length <= z.2, fun z => .fr .u8 z.1 z.2⟩
 | _ => PR.none
theorem qnj : Ctr Tryz.prog T glob 16 (qe3 Om.real) := by
 refine qo T_ok qi qj (fun Ω => [(70, qeU Ω), (71, qaI Ω), (56, qcm Ω), (62, qbN Ω), (54, qbd Ω), (59, qeZ Ω), (57, qbP Ω), (58, qdL Ω), (60, qe1 Ω), (61, qc5 Ω), (72, qdH Ω)]) [] (fun Ω => []) [] (qb qm8 (qb qa6 (qb qeJ (qb qdF (qb qbO (qb qnf (qb qdJ (qb qju (qb qnh (qb qgK (qb qjr qg))))))))))) qh qe qf Tryz.func16 (by rfl) (by kernel_rfl) Tryz.call16 ?_ ?_
 ·intro args; unfold qe3; split
  ·exact qai ⟨trivial, trivial⟩ fun _ => qav _
  ·exact PR.good_none
 ·intro P Ω hΩ hE hI hm args pr hs hp Q hQ
  unfold qe3 at hs
  split at hs <;> subst hs <;> try (exact hp.elim)
  rename_i P
  refine ⟨1000, ?_⟩
  cbv
  repeat (first | (constructor; (first | exact fun _ => trivial | exact fun _ _ => (by decide)); intro _ _; cbv) | (refine ⟨fun _ => ⟨trivial, trivial⟩, fun _ _ => (Nat.le_of_ble_eq_true rfl), ?_⟩; intro _ _; cbv))
  rename_i w hw
  have hw : w.1 = qA (encF P) /\ w.1.length <= w.2 := by subst hΩ; exact hw
  refine hQ w _ _ _ hw ?_
  subst hΩ
  exact ⟨rfl, rfl, by show 0 + w.1.length <= w.1.length; omega, List.take_length.symm⟩
end Go.Sx.Tryz
end
section
set_option maxHeartbeats 4000000
namespace Go.Sx.Tryz
open Go.Proofs
set_option maxRecDepth 40000
def qgX (Ω : Om) : qd := fun args => match args with
 | [.roi .u8 bs] => ⟨∀ _ : Unit, (∀ a ∈ bs, 0 <= a /\ a < 256) /\ bs.length < 9223372036854775808, Bool, fun z => z = qaW bs, fun z => match z with | true => .tup [.ab (.pt (Ω.hide _ fun _ => qaq bs)), .lit .i64 0] | false => .tup [.ab (.pt (Ω.hide _ fun _ => pid)), .int .i64 (Ω.hide _ fun _ => if bs.length = 56 then 12 else 11)]⟩
 | _ => PR.none
theorem qrB : Ctr Tryz.prog T glob 12 (qgX Om.real) := by
 refine qo T_ok qi qj (fun Ω => [(30, qdP Ω), (52, qe0 Ω), (53, qgJ Ω), (54, qbd Ω), (55, qbq Ω), (56, qcm Ω), (57, qbP Ω), (59, qeZ Ω), (58, qdL Ω), (60, qe1 Ω), (61, qc5 Ω), (62, qbN Ω), (63, qeX Ω)]) [] (fun Ω => []) [] (qb qjv (qb qng (qb qri (qb qbO (qb qcq (qb qeJ (qb qdJ (qb qnf (qb qju (qb qnh (qb qgK (qb qdF (qb qnb qg))))))))))))) qh qe qf Tryz.func12 (by rfl) (by kernel_rfl) Tryz.call12 ?_ ?_
 ·intro args; unfold qgX; split
  ·exact qa5 ⟨fun x => by cases x <;> repeat' (first | exact trivial | constructor), fun E x b => by cases x <;> rfl⟩ (by repeat' (first | exact trivial | constructor)) (fun _ => ⟨_, rfl⟩)
  ·exact PR.good_none
 ·intro P Ω hΩ hE hI hm args pr hs hp Q hQ
  unfold qgX at hs
  split at hs <;> subst hs <;> try (exact hp.elim)
  rename_i bs
  obtain ⟨hb, hl⟩ := hp ()
  refine ⟨1000, ?_⟩
  cbv
  constructor
  ·intro hc
   cbv
   repeat (constructor; (first | exact fun _ => trivial | exact fun _ _ => (by decide)); intro _ _; cbv)
   have hl56 : ¬ bs.length = 56 := by rw [hΩ] at hc; simp (disch := omega) only [Om.real, qk, decide_eq_true_eq, decide_eq_false_iff_not] at hc; omega
   refine hQ false _ _ _ (by unfold qaW; rw [beq_eq_false_iff_ne.2 hl56]; rfl) ?_
   subst hΩ
   refine ⟨⟨rfl, ⟨rfl, ?_⟩, trivial⟩, rfl, rfl⟩
   exact (if_neg hl56).symm
  ·intro hc
   cbv
   have hl56 : bs.length = 56 := by rw [hΩ] at hc; simp (disch := omega) only [Om.real, qk, decide_eq_true_eq, decide_eq_false_iff_not] at hc; omega
   constructor
   ·exact fun _ _ => ⟨hb, hl⟩
   intro z hz
   have hz : z = decide (bs.length = 56 /\ qw bs < 726838724295606890549323807888004534353641360687318060281490199180612328166730772686396383698676545930088884461843637361053498018365439) := hz
   cases z with
   | false =>
     cbv
     have hce : (Ω.hide Int fun _ => if bs.length = 56 then 12 else 11) = 12 := by subst hΩ; exact if_pos hl56
     constructor
     · intro hc2
       cbv
       repeat (constructor; (first | exact fun _ => trivial | exact fun _ _ => (by decide)); intro _ _; cbv)
       refine hQ false _ _ _ ?_ ?_
       · unfold qaW
         have : ¬ qw bs < 726838724295606890549323807888004534353641360687318060281490199180612328166730772686396383698676545930088884461843637361053498018365439 := fun h => by rw [decide_eq_true ⟨hl56, h⟩] at hz; exact Bool.noConfusion hz
         rw [decide_eq_false this, Bool.false_and, Bool.and_false]
       subst hΩ
       refine ⟨⟨rfl, ⟨rfl, ?_⟩, trivial⟩, rfl, rfl⟩
       exact (if_pos hl56).symm
     · intro hc2
       exfalso
       have hc3 : Ω.cmp .neq (Ω.hide Int fun _ => if bs.length = 56 then 12 else 11) 0 = false := hc2
       rw [hce] at hc3
       subst hΩ
       exact absurd hc3 (by decide)
   | true =>
     have hlt := (of_decide_eq_true hz.symm).2
     cbv
     constructor
     · exact fun _ => trivial
     intro _ _
     constructor
     · intro hc2
       cbv
       repeat (constructor; (first | exact fun _ => trivial | exact fun _ _ => (by decide)); intro _ _; cbv)
       have hneg : decide ((fI (qw bs)).val % 2 = 1) = true := by subst hΩ; exact hc2
       refine hQ false _ _ _ ?_ ?_
       · unfold qaW
         rw [hneg, Bool.not_true, Bool.false_and, Bool.and_false, Bool.and_false]
       subst hΩ
       refine ⟨⟨rfl, ⟨rfl, ?_⟩, trivial⟩, rfl, rfl⟩
       exact (if_pos hl56).symm
     · intro hc2
       cbv
       have hneg : decide ((fI (qw bs)).val % 2 = 1) = false := by subst hΩ; exact hc2
       repeat (first | (constructor; (first | exact fun _ => trivial | exact fun _ _ => (by decide)); intro _ _; cbv) | (refine ⟨fun _ => ⟨trivial, trivial⟩, fun _ _ => (Nat.le_of_ble_eq_true rfl), ?_⟩; intro _ _; cbv))
       rename_i z hz2
       have hz2 : z = decide (AP.on ⟨decX (fI (qw bs)), decY (fI (qw bs))⟩) := by subst hΩ; exact hz2
       cases z with
       | false =>
         have hbad : qaW bs = false := by
           unfold qaW
           rw [<- hz2, Bool.and_false, Bool.and_false, Bool.and_false, Bool.and_false]
         cbv
         constructor
         · intro hc3
           cbv
           repeat (constructor; (first | exact fun _ => trivial | exact fun _ _ => (by decide)); intro _ _; cbv)
           refine hQ false _ _ _ hbad.symm ?_
           subst hΩ
           refine ⟨⟨rfl, ⟨rfl, ?_⟩, trivial⟩, rfl, rfl⟩
           exact (if_pos hl56).symm
         · intro hc3
           cbv
           repeat (constructor; (first | exact fun _ => trivial | exact fun _ _ => (by decide)); intro _ _; cbv)
           refine hQ false _ _ _ hbad.symm ?_
           subst hΩ
           refine ⟨⟨rfl, ⟨rfl, ?_⟩, trivial⟩, rfl, rfl⟩
           exact (if_pos hl56).symm
       | true =>
         cbv
         constructor
         · intro hc3
           cbv
           repeat (constructor; (first | exact fun _ => trivial | exact fun _ _ => (by decide)); intro _ _; cbv)
           have hbad : qaW bs = false := by
             have h : (!qdO (fI (qw bs))) = true := by subst hΩ; exact hc3
             unfold qaW
             rw [Bool.not_eq_true'] at h
             rw [h, Bool.false_and, Bool.and_false, Bool.and_false, Bool.and_false]
           refine hQ false _ _ _ hbad.symm ?_
           subst hΩ
           refine ⟨⟨rfl, ⟨rfl, ?_⟩, trivial⟩, rfl, rfl⟩
           exact (if_pos hl56).symm
         · intro hc3
           cbv
           have hgood : qaW bs = true := by
             have h : (!qdO (fI (qw bs))) = false := by subst hΩ; exact hc3
             unfold qaW
             rw [Bool.not_eq_false'] at h
             rw [h, <- hz2, hneg, decide_eq_true hlt, hl56]; rfl
           refine hQ true _ _ _ hgood.symm ?_
           subst hΩ
           exact ⟨⟨rfl, ⟨rfl, rfl⟩, trivial⟩, rfl, rfl⟩
end Go.Sx.Tryz
end
