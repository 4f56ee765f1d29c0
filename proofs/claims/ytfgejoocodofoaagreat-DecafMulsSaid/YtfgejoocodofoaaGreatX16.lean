/-
  Part of the proof of a statement: the means.
-/
import Derived.Test.YtfgejoocodofoaaGreatX15
import Derived.Test.YtfgejoocodofoaaGreatX8
import Derived.Test.YtfgejoocodofoaaGreatX13
set_option linter.unusedSectionVars false
set_option linter.unusedVariables false
set_option linter.unusedSimpArgs false
set_option linter.deprecated false
section
set_option maxHeartbeats 4000000
namespace Go.Sx.Tryz
open Go.Proofs
set_option maxRecDepth 40000
theorem qoI {args : List SVal} {p : Prop} {post : List AP × Nat -> Prop} (hc : IdsLtL noId args) (h : p -> ∃ x, post x) : PR.Good ⟨p, List AP × Nat, post, fun z => .fra (.pt z.1) z.2⟩ args :=
 ⟨fun _ => trivial, fun E x b q hq => by simp [place] at hq; subst hq; exact ⟨Nat.le_refl _, by simp⟩, fun _ => hc, h⟩
theorem qoJ (l : List AP) : ∃ x : List AP × Nat, x.1 = l /\ x.1.length <= x.2 := ⟨(l, l.length), rfl, Nat.le_refl _⟩
abbrev Z32 : SVal := .agg [.agg [.row .u64 8 [0, 0, 0, 0, 0, 0, 0, 0]], .agg [.row .u64 8 [0, 0, 0, 0, 0, 0, 0, 0]], .agg [.row .u64 8 [0, 0, 0, 0, 0, 0, 0, 0]]]
def qhY (Ω : Om) : qd := fun args => match args with
 | [.int .i64 a, .int .i64 b] => ⟨∀ _ : Unit, (0 <= a /\ a < 1000) /\ 0 <= b /\ b < 1000, Unit, fun _ => True, fun _ => .int .i64 (Ω.hide _ fun _ => if a = b then 1 else 0)⟩
 | _ => PR.none
theorem qtZ : Ctr Tryz.prog T glob 171 (qhY Om.real) := by
 refine qo T_ok qi qj (fun Ω => []) [] (fun Ω => []) [] qg qh qe qf Tryz.func171 (by rfl) (by kernel_rfl) Tryz.call171 ?_ ?_
 ·intro args; unfold qhY; split
  ·exact qr (by repeat' constructor) (fun _ _ => rfl) (by repeat' constructor)
  ·exact PR.good_none
 ·intro P Ω hΩ hE hI hm args pr hs hp Q hQ
  unfold qhY at hs
  split at hs <;> subst hs <;> try (exact hp.elim)
  rename_i a b
  obtain ⟨ha, hb⟩ := hp ()
  refine ⟨1000, ?_⟩
  conv => cbv
  refine hQ () _ _ _ trivial ?_
  subst hΩ
  exact ⟨rfl, qtY ha hb⟩
def qhZ (Ω : Om) : qd := fun args => match args with
 | [.roa (.pt l), .int .i64 i] => ⟨∀ _ : Unit, (0 <= i /\ i < l.length) /\ l.length < 1000, Unit, fun _ => True, fun _ => .tup [.ab (.pt (Ω.hide _ fun _ => l.getD i.toNat ⟨0, 1⟩)), .int .i64 0]⟩
 | _ => PR.none
theorem qt0 : Ctr Tryz.prog T glob 136 (qhZ Om.real) := by
 refine qo T_ok qi qj (fun Ω => [(82, qcs Ω), (171, qhY Ω), (75, qeW Ω)]) [] (fun Ω => []) [] (qb qeT (qb qtZ (qb qna qg))) qh qe qf Tryz.func136 (by rfl) (by kernel_rfl) Tryz.call136 ?_ ?_
 ·intro args; unfold qhZ; split
  ·exact qr (by repeat' constructor) (fun _ _ => rfl) (by repeat' constructor)
  ·exact PR.good_none
 ·intro P Ω hΩ hE hI hm args pr hs hp Q hQ
  unfold qhZ at hs
  split at hs <;> subst hs <;> try (exact hp.elim)
  rename_i l i
  obtain ⟨⟨h0, h1⟩, h2⟩ := hp ()
  refine ⟨1000, ?_⟩
  conv => cbv
  constructor
  ·intro h
   have h' : False := by (subst hΩ; have h2 := of_decide_eq_true h; change i < 0 at h2; omega); first | done | (subst hΩ; exact Bool.noConfusion (show false = true from h))
   contradiction
  intro _
  conv => cbv
  constructor
  ·intro h
   have h' : False := by (subst hΩ; have h2 := of_decide_eq_true h; change i >= ((l.length : Nat) : Int) at h2; omega); first | done | (subst hΩ; exact Bool.noConfusion (show false = true from h))
   contradiction
  intro _
  conv => cbv
  constructor; (first | exact fun (_ : Unit) => trivial | exact fun (_ : Unit) (_ : Unit) => (by decide)); intro _ _; conv => cbv
  obtain ⟨K, hK⟩ : ∃ K, Ω.ofN (Ω.hide Nat fun _ => l.length) = K := ⟨_, rfl⟩
  have eK : K = (l.length : Int) := by rw [<- hK, hΩ]; rfl
  conv at hK => lhs; cbv
  rw [hK]
  obtain ⟨n, hn⟩ : ∃ n, i.toNat = n := ⟨_, rfl⟩
  obtain ⟨P0, hP0⟩ : ∃ P0, P0 = pid := ⟨_, rfl⟩
  refine qv hE hI hm (fun z : Nat × AP => (mkT 34 [(0, .roa (.pt l)), (1, .int .i64 i), (4, .ptr 0 (.l 0)), (5, .lit .i64 0), (6, .ptr 88 (.l 0)), (19, .roa (.pt l)), (20, .int .i64 K), (21, .int .i64 z.1)], [(88, .ab (.pt z.2)), (0, Z32)])) (fun z => z.1 <= l.length /\ (n < z.1 -> z.2 = l.getD n ⟨0, 1⟩)) (fun z => l.length - z.1) 0 ⟨(0, P0), [], ⟨Nat.zero_le _, fun h => absurd h (Nat.not_lt_zero _)⟩, Nat.zero_le _, ?_⟩ fun z hz => ⟨1000, ?_⟩
  ·conv => cbv
   subst hΩ
   exact ⟨rfl, by rw [hP0]; rfl, trivial⟩
  obtain ⟨k, X⟩ := z
  obtain ⟨hk, hX⟩ : k <= l.length /\ (n < k -> X = l.getD n ⟨0, 1⟩) := hz
  conv => cbv
  constructor
  ·intro hc
   have hlt : (k : Int) < K := by subst hΩ; exact of_decide_eq_true hc
   conv => cbv
   constructor
   ·exact fun _ => ⟨Int.natCast_nonneg k, by subst hΩ; show (k : Int) < ((l.length : Nat) : Int); omega⟩
   constructor
   ·exact fun _ => by subst hΩ; show k < l.length; omega
   constructor
   ·exact fun _ _ => ⟨⟨Int.natCast_nonneg k, (show (k : Int) < 1000 by omega)⟩, h0, by omega⟩
   intro _ _
   conv => cbv
   constructor; (first | exact fun (_ : Unit) => trivial | exact fun (_ : Unit) (_ : Unit) => (by decide)); intro _ _; conv => cbv
   obtain ⟨X2, hX2⟩ : ∃ X2, (if (if (k : Int) = i then (1 : Int) else 0) % 2 = 0 then X else l.getD k ⟨0, 1⟩) = X2 := ⟨_, rfl⟩
   refine ⟨(k + 1, X2), [], ⟨by show k + 1 <= l.length; omega, fun h => ?_⟩, by show l.length - (k + 1) < l.length - k; omega, Nat.zero_le _, ?_⟩
   ·show X2 = _
    rw [<- hX2]
    by_cases e : (k : Int) = i
    ·rw [if_pos e, if_neg (by decide), show n = k by omega]
    ·rw [if_neg e, if_pos (by decide)]
     exact hX (by have h' : n < k + 1 := h; omega)
   ·conv => cbv
    subst hΩ
    refine ⟨?_, ?_, trivial⟩
    ·show binL .add .i64 (k : Int) 1 = ((k + 1 : Nat) : Int)
     rw [qu (by omega) (by omega)]; omega
    ·exact congrArg Pay.pt hX2
  ·intro hc
   have hge : ¬ (k : Int) < K := by subst hΩ; exact of_decide_eq_false hc
   conv => cbv
   refine hQ () _ _ _ trivial ?_
   subst hΩ
   refine ⟨⟨?_, ⟨rfl, rfl⟩, trivial⟩, rfl, rfl⟩
   show Pay.pt X = Pay.pt (l.getD i.toNat ⟨0, 1⟩)
   rw [hX (by omega), hn]
def qfE (Ω : Om) : qd := fun args => match args with
 | [.ab (.pt A), .ab (.pt B), .int .i64 n] => ⟨∀ _ : Unit, n = 8 \/ n = 9, List AP × Nat, fun z => z.1 = qak A B n.toNat /\ z.1.length <= z.2, fun z => .fra (.pt z.1) z.2⟩
 | _ => PR.none
theorem qoK : Ctr Tryz.prog T glob 134 (qfE Om.real) := by
 refine qo T_ok qi qj (fun Ω => [(76, qc6 Ω)]) [] (fun Ω => []) [] (qb qgR qg) qh qe qf Tryz.func134 (by rfl) (by kernel_rfl) Tryz.call134 ?_ ?_
 ·intro args; unfold qfE; split
  ·exact qoI ⟨trivial, trivial, trivial, trivial⟩ fun _ => qoJ _
  ·exact PR.good_none
 ·intro P Ω hΩ hE hI hm args pr hs hp Q hQ
  unfold qfE at hs
  split at hs <;> subst hs <;> try (exact hp.elim)
  rename_i A B n
  have hn := hp ()
  refine ⟨1000, ?_⟩
  conv => cbv
  refine q9 hE hI hm (n := 1000) ?_
  conv => cbv
  constructor
  rotate_left
  ·intro h
   have h' : False := by (subst hΩ; have h2 := of_decide_eq_false h; change ¬ (0 : Int) < n at h2; omega); first | done | (subst hΩ; exact Bool.noConfusion (show true = false from h))
   contradiction
  intro _
  conv => cbv
  constructor
  ·exact fun _ => (by decide : (0 + 1) * 192 <= 140737488355328)
  constructor
  ·exact fun _ => ⟨rfl, rfl, by decide⟩
  intro cap hcap
  have hcap1 : 1 <= cap := by have h : 0 + 1 <= cap := hcap; omega
  conv => cbv
  constructor; (first | exact fun (_ : Unit) => trivial | exact fun (_ : Unit) (_ : Unit) => (by decide)); intro _ _; conv => cbv
  obtain ⟨N, hN⟩ : ∃ N : Nat, n = N := ⟨n.toNat, by omega⟩
  have hN2 : n.toNat = N := by omega
  rw [hN2] at hQ
  obtain ⟨Ps0, hPs0⟩ : ∃ Ps0, Ps0 = [A] := ⟨_, rfl⟩
  obtain ⟨X0, hX0⟩ : ∃ X0, X0 = padd A B := ⟨_, rfl⟩
  refine qv hE hI hm (fun z : Nat × List AP × AP × Nat => (mkT 20 [(2, .int .i64 n), (3, .ptr 0 (.l 0)), (4, .ptr 8 (.l 0)), (6, .val (.slice none 0 0)), (7, .sl 144 24 (.l 0) (.s z.1) (.s z.2.2.2)), (8, .int .i64 n), (9, .int .i64 z.1)], [(144, .sab (.pt z.2.1)), (8, .ab (.pt B)), (0, .ab (.pt z.2.2.1))])) (fun z => z.1 <= N /\ z.2.1 ++ qak z.2.2.1 B (N - z.1) = qak A B N /\ z.2.1.length = z.1 /\ z.1 <= z.2.2.2) (fun z => N - z.1) 1 ⟨(1, Ps0, X0, cap), [some 80], ⟨by show 1 <= N; omega, ?_, by rw [hPs0]; rfl, hcap1⟩, by decide, ?_⟩ fun z hz => ⟨1000, ?_⟩
  ·show Ps0 ++ qak X0 B (N - 1) = qak A B N
   rw [hPs0, hX0]
   obtain ⟨M, rfl⟩ : ∃ M, N = M + 1 := ⟨N - 1, by omega⟩
   rfl
  ·conv => cbv
   subst hΩ
   exact ⟨rfl, by rw [hPs0]; rfl, by rw [hX0]; rfl⟩
  obtain ⟨i, Ps, X, c⟩ := z
  obtain ⟨hi, hPs, hl, hc⟩ : i <= N /\ Ps ++ qak X B (N - i) = qak A B N /\ Ps.length = i /\ i <= c := hz
  conv => cbv
  constructor
  ·intro hc2
   have hlt : (i : Int) < n := by subst hΩ; exact of_decide_eq_true hc2
   conv => cbv
   constructor
   ·exact fun _ => (show (i + 1) * 192 <= 140737488355328 by omega)
   constructor
   ·exact fun _ => ⟨hl.symm, rfl, by decide⟩
   intro cap2 hcap2
   have hcap3 : i + 1 <= cap2 := hcap2
   conv => cbv
   constructor; (first | exact fun (_ : Unit) => trivial | exact fun (_ : Unit) (_ : Unit) => (by decide)); intro _ _; conv => cbv
   obtain ⟨Ps2, hPs2⟩ : ∃ Ps2, Ps2 = Ps ++ [X] := ⟨_, rfl⟩
   obtain ⟨X2, hX2⟩ : ∃ X2, X2 = padd X B := ⟨_, rfl⟩
   refine ⟨(i + 1, Ps2, X2, cap2), [some 184], ⟨by show i + 1 <= N; omega, ?_, by show Ps2.length = i + 1; rw [hPs2, List.length_append, hl]; rfl, hcap3⟩, by show N - (i + 1) < N - i; omega, by decide, ?_⟩
   ·show Ps2 ++ qak X2 B (N - (i + 1)) = qak A B N
    rw [<- hPs, hPs2, hX2, show N - i = (N - (i + 1)) + 1 by omega, List.append_assoc]
    rfl
   ·conv => cbv
    subst hΩ
    refine ⟨rfl, ?_, by rw [hPs2]; rfl, by rw [hX2]; rfl⟩
    show binL .add .i64 (i : Int) 1 = ((i + 1 : Nat) : Int)
    rw [qu (by omega) (by omega)]; omega
  ·intro hc2
   have hge : ¬ (i : Int) < n := by subst hΩ; exact of_decide_eq_false hc2
   have hiN : N - i = 0 := by omega
   rw [hiN] at hPs
   have hPs2 : Ps = qak A B N := by rw [<- hPs]; exact (List.append_nil _).symm
   conv => cbv
   refine hQ (Ps, c) _ _ _ ⟨hPs2, by show Ps.length <= c; omega⟩ ?_
   subst hΩ
   exact ⟨rfl, rfl, hl.symm, rfl⟩
end Go.Sx.Tryz
end
section
set_option maxHeartbeats 4000000
namespace Go.Sx.Tryz
open Go.Proofs
set_option maxRecDepth 40000
def qh0 (Ω : Om) : qd := fun args => match args with
 | [.ab (.pt P)] => ⟨True, List AP × Nat, fun z => z.1 = qak P (padd P P) 8 /\ z.1.length <= z.2, fun z => .fra (.pt z.1) z.2⟩
 | _ => PR.none
theorem qt1 : Ctr Tryz.prog T glob 150 (qh0 Om.real) := by
 refine qo T_ok qi qj (fun Ω => [(103, qc7 Ω), (134, qfE Ω)]) [] (fun Ω => []) [] (qb qgS (qb qoK qg)) qh qe qf Tryz.func150 (by rfl) (by kernel_rfl) Tryz.call150 ?_ ?_
 ·intro args; unfold qh0; split
  ·exact qoI ⟨trivial, trivial⟩ fun _ => qoJ _
  ·exact PR.good_none
 ·intro P Ω hΩ hE hI hm args pr hs hp Q hQ
  unfold qh0 at hs
  split at hs <;> subst hs <;> try (exact hp.elim)
  rename_i P0
  refine ⟨1000, ?_⟩
  conv => cbv
  constructor; (first | exact fun (_ : Unit) => trivial | exact fun (_ : Unit) (_ : Unit) => (by decide)); intro _ _; conv => cbv
  constructor
  ·exact fun _ _ => .inl rfl
  intro z hz
  obtain ⟨zl, zc⟩ := z
  have hz : zl = qak P0 (padd P0 P0) 8 /\ zl.length <= zc := by subst hΩ; exact hz
  conv => cbv
  refine hQ (zl, zc) _ _ _ hz ?_
  subst hΩ
  exact ⟨rfl, rfl, rfl, rfl⟩
def qh1 (Ω : Om) : qd := fun args => match args with
 | [.roi .i64 l, .int .i64 i] => ⟨∀ _ : Unit, 0 <= i /\ l.length < 1000000, Unit, fun _ => True, fun _ => .int .i64 (Ω.hide _ fun _ => l.getD i.toNat 0)⟩
 | _ => PR.none
theorem qt2 : Ctr Tryz.prog T glob 152 (qh1 Om.real) := by
 refine qo T_ok qi qj (fun Ω => []) [] (fun Ω => []) [] qg qh qe qf Tryz.func152 (by rfl) (by kernel_rfl) Tryz.call152 ?_ ?_
 ·intro args; unfold qh1; split
  ·exact qr (by repeat' constructor) (fun _ _ => rfl) (by repeat' constructor)
  ·exact PR.good_none
 ·intro P Ω hΩ hE hI hm args pr hs hp Q hQ
  unfold qh1 at hs
  split at hs <;> subst hs <;> try (exact hp.elim)
  rename_i l i
  obtain ⟨h0, hl⟩ := hp ()
  refine ⟨1000, ?_⟩
  conv => cbv
  constructor
  ·intro hc
   have h1 : i >= (l.length : Int) := by subst hΩ; exact of_decide_eq_true hc
   conv => cbv
   refine hQ () _ _ _ trivial ?_
   subst hΩ
   refine ⟨rfl, ?_⟩
   show 0 = l.getD i.toNat 0
   rw [List.getD_eq_getElem?_getD, List.getElem?_eq_none (by omega)]; rfl
  ·intro hc
   have h1 : ¬ i >= (l.length : Int) := by subst hΩ; exact of_decide_eq_false hc
   conv => cbv
   constructor
   ·exact fun _ => ⟨h0, by subst hΩ; show i < ((l.length : Nat) : Int); omega⟩
   constructor
   ·exact fun _ => by subst hΩ; show i.toNat + 1 <= l.length; omega
   refine hQ () _ _ _ trivial ?_
   subst hΩ
   exact ⟨rfl, rfl⟩
def putP (X : AP) (t : List AP) (d : Int) : AP := if 0 < d then padd X (t.getD (d / 2).toNat ⟨0, 1⟩) else if d < 0 then padd X (pneg (t.getD ((-d) / 2).toNat ⟨0, 1⟩)) else X
def qh2 (Ω : Om) : qd := fun args => match args with
 | [.ab (.pt X), .roa (.pt t), .int .i64 d] => ⟨∀ _ : Unit, Nd d /\ t.length = 8, Unit, fun _ => True, fun _ => .ab (.pt (Ω.hide _ fun _ => putP X t d))⟩
 | _ => PR.none
theorem qt3 : Ctr Tryz.prog T glob 151 (qh2 Om.real) := by
 refine qo T_ok qi qj (fun Ω => [(76, qc6 Ω), (79, qeV Ω)]) [] (fun Ω => []) [] (qb qgR (qb qm9 qg)) qh qe qf Tryz.func151 (by rfl) (by kernel_rfl) Tryz.call151 ?_ ?_
 ·intro args; unfold qh2; split
  ·exact qr (by repeat' constructor) (fun _ _ => rfl) (by repeat' constructor)
  ·exact PR.good_none
 ·intro P Ω hΩ hE hI hm args pr hs hp Q hQ
  unfold qh2 at hs
  split at hs <;> subst hs <;> try (exact hp.elim)
  rename_i X t d
  obtain ⟨hd, ht⟩ := hp ()
  have hd2 : -16 < d /\ d < 16 := by unfold Nd at hd; omega
  refine ⟨1000, ?_⟩
  conv => cbv
  constructor
  ·intro hc
   have h1 : d > 0 := by subst hΩ; exact of_decide_eq_true hc
   obtain ⟨q, hq⟩ : ∃ q, Ω.bin .quo .i64 d 2 = q := ⟨_, rfl⟩
   have eq : q = d / 2 := by
    rw [<- hq, hΩ, show d = ((d.toNat : Nat) : Int) by omega]
    exact qa4 _ 2 (by omega)
   conv at hq => lhs; cbv
   conv => cbv
   rw [hq]
   constructor
   ·exact fun _ => ⟨by omega, by subst hΩ; show q < ((t.length : Nat) : Int); omega⟩
   constructor
   ·exact fun _ => by subst hΩ; show q.toNat < t.length; omega
   constructor; (first | exact fun (_ : Unit) => trivial | exact fun (_ : Unit) (_ : Unit) => (by decide)); intro _ _; conv => cbv
   refine hQ () _ _ _ trivial ?_
   subst hΩ
   show Pay.pt (padd X (t.getD q.toNat ⟨0, 1⟩)) = Pay.pt (putP X t d)
   unfold putP
   rw [if_pos h1, eq]
  ·intro hc
   have h1 : ¬ d > 0 := by subst hΩ; exact of_decide_eq_false hc
   conv => cbv
   constructor
   ·intro hc2
    have h2 : d < 0 := by subst hΩ; exact of_decide_eq_true hc2
    obtain ⟨q, hq⟩ : ∃ q, Ω.bin .quo .i64 (Ω.un .neg .i64 d) 2 = q := ⟨_, rfl⟩
    have eq : q = (-d) / 2 := by
     rw [<- hq, hΩ]
     show binL .quo .i64 (IntKind.i64.wrap (0 - d)) 2 = _
     rw [qV (by omega) (by omega), show 0 - d = (((-d).toNat : Nat) : Int) by omega, show -d = (((-d).toNat : Nat) : Int) by omega]
     exact qa4 _ 2 (by omega)
    conv at hq => lhs; cbv
    conv => cbv
    rw [hq]
    constructor
    ·exact fun _ => ⟨by omega, by subst hΩ; show q < ((t.length : Nat) : Int); omega⟩
    constructor
    ·exact fun _ => by subst hΩ; show q.toNat < t.length; omega
    constructor; (first | exact fun (_ : Unit) => trivial | exact fun (_ : Unit) (_ : Unit) => (by decide)); intro _ _; conv => cbv
    constructor; (first | exact fun (_ : Unit) => trivial | exact fun (_ : Unit) (_ : Unit) => (by decide)); intro _ _; conv => cbv
    refine hQ () _ _ _ trivial ?_
    subst hΩ
    show Pay.pt (padd X (pneg (t.getD q.toNat ⟨0, 1⟩))) = Pay.pt (putP X t d)
    unfold putP
    rw [if_neg h1, if_pos h2, eq]
   ·intro hc2
    have h2 : ¬ d < 0 := by subst hΩ; exact of_decide_eq_false hc2
    conv => cbv
    refine hQ () _ _ _ trivial ?_
    subst hΩ
    show Pay.pt X = Pay.pt (putP X t d)
    unfold putP
    rw [if_neg h1, if_neg h2]
end Go.Sx.Tryz
end
section
set_option maxHeartbeats 4000000
namespace Go.Sx.Tryz
open Go.Proofs
set_option maxRecDepth 40000
def qh3 (Ω : Om) : qd := fun args => match args with
 | [.roi .u8 bs, .ab (.pt P)] => ⟨∀ _ : Unit, (P.on /\ Byt bs) /\ 0 < bs.length /\ bs.length <= 64, Unit, fun _ => True, fun _ => .tup [.ab (.pt (Ω.hide _ fun _ => nsm (nV bs) P)), .int .i64 0]⟩
 | _ => PR.none
noncomputable def qt4 : List (FuncId × Func) := [(132, Tryz.f132), (135, Tryz.f135), (170, Tryz.f170)]
theorem qt5 : Ctr Tryz.prog T glob 87 (qh3 Om.real) := by
 refine qo T_ok qi qj (fun Ω => [(82, qcs Ω), (133, qhS Ω), (134, qfE Ω), (103, qc7 Ω), (136, qhZ Ω), (79, qeV Ω), (75, qeW Ω), (76, qc6 Ω)]) qt4 (fun Ω => []) [] (qb qeT (qb qtQ (qb qoK (qb qgS (qb qt0 (qb qm9 (qb qna (qb qgR qg)))))))) (qG Tryz.call132 Tryz.func132 (by kernel_rfl) (qG Tryz.call135 Tryz.func135 (by kernel_rfl) (qG Tryz.call170 Tryz.func170 (by kernel_rfl) qh))) qe qf Tryz.func87 (by rfl) (by kernel_rfl) Tryz.call87 ?_ ?_
 ·intro args; unfold qh3; split
  ·exact qr (by repeat' constructor) (fun _ _ => rfl) (by repeat' constructor)
  ·exact PR.good_none
 ·intro P Ω hΩ hE hI hm args pr hs hp Q hQ
  unfold qh3 at hs
  split at hs <;> subst hs <;> try (exact hp.elim)
  rename_i bs P0
  obtain ⟨⟨hP, hb⟩, l0, l1⟩ := hp ()
  refine ⟨1000, ?_⟩
  conv => cbv
  constructor
  ·intro h
   have h' : False := by (subst hΩ; have h2 := eq_of_beq h; change ((bs.length : Nat) : Int) = 0 at h2; omega); first | done | (subst hΩ; exact Bool.noConfusion (show false = true from h))
   contradiction
  intro _
  conv => cbv
  constructor
  ·intro h
   have h' : False := by (subst hΩ; have h2 := of_decide_eq_true h; change ((bs.length : Nat) : Int) > 64 at h2; omega); first | done | (subst hΩ; exact Bool.noConfusion (show false = true from h))
   contradiction
  intro _
  conv => cbv
  constructor
  ·exact fun _ _ => ⟨⟨hb, l1⟩, rfl⟩
  intro z hz
  obtain ⟨zl, zc⟩ := z
  have hz : (zl.length = 2 * bs.length + 1 /\ Sg zl /\ valB 16 zl = ((nV bs : Nat) : Int)) /\ zl.length <= zc := by subst hΩ; exact hz
  obtain ⟨⟨hzl, hzs, hzv⟩, hzc⟩ := hz
  conv => cbv
  constructor
  ·intro h
   have h' : False := by (subst hΩ; exact absurd h (by decide)); first | done | (subst hΩ; exact Bool.noConfusion (show false = true from h))
   contradiction
  intro _
  conv => cbv
  constructor; (first | exact fun (_ : Unit) => trivial | exact fun (_ : Unit) (_ : Unit) => (by decide)); intro _ _; conv => cbv
  constructor
  ·exact fun _ _ => .inr rfl
  intro y hy
  obtain ⟨T0, Tc⟩ := y
  have hT : T0 = qak pid P0 9 /\ T0.length <= Tc := by subst hΩ; exact hy
  have hTl : T0.length = 9 := by rw [hT.1, qhX]
  conv => cbv
  constructor; (first | exact fun (_ : Unit) => trivial | exact fun (_ : Unit) (_ : Unit) => (by decide)); intro _ _; conv => cbv
  obtain ⟨N, eN⟩ : ∃ N, N = zl.length := ⟨_, rfl⟩
  obtain ⟨j0, hj0⟩ : ∃ j0, Ω.bin .sub .i64 (Ω.ofN (Ω.len zl)) 1 = j0 := ⟨_, rfl⟩
  have ej0 : j0 = (N : Int) - 1 := by
   rw [<- hj0, hΩ, eN]
   show binL .sub .i64 ((zl.length : Nat) : Int) 1 = _
   rw [qx (by omega) (by omega)]
  obtain ⟨X0, hX0⟩ : ∃ X0, X0 = pid := ⟨_, rfl⟩
  conv at hj0 => lhs; cbv
  refine qv hE hI hm (fun z : Nat × Int × AP => (mkT 19 [(0, .yld 328), (1, .ptr 296 (.l 0)), (3, .int .i64 z.2.1)], [(296, .sl 152 1 (.l 0) (.s (Ω.len zl)) (.s zc)), (264, .ab (.pt z.2.2)), (240, .sl 232 24 (.l 0) (.s (Ω.hide Nat fun _ => T0.length)) (.s Tc)), (232, .sab (.pt T0)), (152, .seq .i64 zl), (16, .lit .i64 0), (8, Z32)])) (fun z => z.1 <= N /\ z.2.1 = (z.1 : Int) - 1 /\ z.2.2 = zsm (valB 16 (zl.drop z.1)) P0) (fun z => z.1) 0 ⟨(N, j0, X0), [], ⟨Nat.le_refl _, ej0, ?_⟩, Nat.zero_le _, ?_⟩ fun z hz => ⟨1000, ?_⟩
  ·show X0 = zsm (valB 16 (zl.drop N)) P0
   rw [eN, List.drop_length, hX0]
   rfl
  ·conv => cbv
   rw [hX0]
   subst hΩ
   exact ⟨hj0, rfl, trivial⟩
  obtain ⟨k, j, X⟩ := z
  obtain ⟨hk, hj, hX⟩ : k <= N /\ j = (k : Int) - 1 /\ X = zsm (valB 16 (zl.drop k)) P0 := hz
  conv => cbv
  constructor
  ·intro hc
   have h1 : 0 <= j := by subst hΩ; exact of_decide_eq_true hc
   obtain ⟨i, rfl⟩ : ∃ i : Nat, j = i := ⟨j.toNat, by omega⟩
   obtain ⟨d, hd⟩ : ∃ d, Ω.at' zl (Ω.toN (i : Int)) = d := ⟨_, rfl⟩
   have ed : d = zl.getD i 0 := by rw [<- hd, hΩ]; rfl
   conv at hd => lhs; cbv
   conv => cbv
   constructor
   ·exact fun _ => ⟨h1, by subst hΩ; show (i : Int) < ((zl.length : Nat) : Int); omega⟩
   constructor
   ·exact fun _ => by subst hΩ; show i + 1 <= zl.length; omega
   rw [hd]
   have hd8 : -8 <= d /\ d <= 8 := hzs d (by rw [ed]; exact qX (by omega))
   obtain ⟨g1, g2⟩ := qtW hd8
   obtain ⟨q, hq⟩ : ∃ q, Ω.bin .sub .i64 (Ω.bin .xor .i64 d (Ω.bin .shr .i64 d 63)) (Ω.bin .shr .i64 d 63) = q := ⟨_, rfl⟩
   have eq : q = absD d := by rw [<- hq, hΩ]; exact g1
   obtain ⟨b, hb'⟩ : ∃ b, Ω.bin .and .i64 (Ω.bin .shr .i64 d 63) 1 = b := ⟨_, rfl⟩
   have eb : b = if d < 0 then 1 else 0 := by rw [<- hb', hΩ]; exact g2
   have hTl2 : ((T0.length : Nat) : Int) = 9 := by rw [hTl]; rfl
   have hq8 : 0 <= q /\ q <= 8 := by rw [eq]; unfold absD; split <;> omega
   conv at hq => lhs; cbv
   conv at hb' => lhs; cbv
   refine q9 hE hI hm (n := 1000) ?_
   conv => cbv
   constructor; (first | exact fun (_ : Unit) => trivial | exact fun (_ : Unit) (_ : Unit) => (by decide)); intro _ _; conv => cbv
   refine q9 hE hI hm (n := 1000) ?_
   conv => cbv
   constructor; (first | exact fun (_ : Unit) => trivial | exact fun (_ : Unit) (_ : Unit) => (by decide)); intro _ _; conv => cbv
   refine q9 hE hI hm (n := 1000) ?_
   conv => cbv
   constructor; (first | exact fun (_ : Unit) => trivial | exact fun (_ : Unit) (_ : Unit) => (by decide)); intro _ _; conv => cbv
   refine q9 hE hI hm (n := 1000) ?_
   conv => cbv
   constructor; (first | exact fun (_ : Unit) => trivial | exact fun (_ : Unit) (_ : Unit) => (by decide)); intro _ _; conv => cbv
   refine q9 hE hI hm (n := 1000) ?_
   conv => cbv
   rw [hq]
   constructor
   ·exact fun _ => ⟨by subst hΩ; exact rfl, trivial, trivial⟩
   constructor
   ·exact fun _ _ => ⟨⟨hq8.1, (show q < ((T0.length : Nat) : Int) by omega)⟩, (show T0.length < 1000 by omega)⟩
   intro _ _
   conv => cbv
   constructor
   ·intro h
    have h' : False := by (subst hΩ; exact absurd h (by decide)); first | done | (subst hΩ; exact Bool.noConfusion (show false = true from h))
    contradiction
   intro _
   conv => cbv
   rw [hb']
   constructor; (first | exact fun (_ : Unit) => trivial | exact fun (_ : Unit) (_ : Unit) => (by decide)); intro _ _; conv => cbv
   constructor; (first | exact fun (_ : Unit) => trivial | exact fun (_ : Unit) (_ : Unit) => (by decide)); intro _ _; conv => cbv
   constructor; (first | exact fun (_ : Unit) => trivial | exact fun (_ : Unit) (_ : Unit) => (by decide)); intro _ _; conv => cbv
   obtain ⟨X2, hX2⟩ : ∃ X2, X2 = padd (padd (padd (padd (padd X X) (padd X X)) (padd (padd X X) (padd X X))) (padd (padd (padd X X) (padd X X)) (padd (padd X X) (padd X X)))) (if b % 2 = 0 then T0.getD q.toNat ⟨0, 1⟩ else pneg (T0.getD q.toNat ⟨0, 1⟩)) := ⟨_, rfl⟩
   have eX2 : X2 = zsm (valB 16 (zl.drop i)) P0 := by
    have hlook : T0.getD q.toNat ⟨0, 1⟩ = nsm (absD d).toNat P0 := by
     rw [hT.1, eq, qka hP _ qdM (by omega), qgO]
    have hdr : valB 16 (zl.drop i) = d + 16 * valB 16 (zl.drop (i + 1)) := by
     rw [List.drop_eq_getElem_cons (show i < zl.length by omega)]
     simp only [valB]
     rw [ed, List.getD_eq_getElem?_getD, List.getElem?_eq_getElem (show i < zl.length by omega)]
     rfl
    rw [hX2, hlook, eb, qtX, hX, show k = i + 1 by omega, qtU hP, <- qhW hP, hdr, Int.add_comm]
   obtain ⟨j2, hj2⟩ : ∃ j2 : Int, (i : Int) - 1 = j2 := ⟨_, rfl⟩
   refine ⟨(i, j2, X2), [], ⟨by show i <= N; omega, hj2.symm, eX2⟩, by show i < k; omega, Nat.zero_le _, ?_⟩
   conv => cbv
   subst hΩ
   refine ⟨?_, by rw [hX2]; rfl, trivial⟩
   show binL .sub .i64 (i : Int) 1 = j2
   rw [qx (by omega) (by omega), hj2]
  ·intro hc
   have h1 : ¬ 0 <= j := by subst hΩ; exact of_decide_eq_false hc
   have hk0 : k = 0 := by omega
   rw [hk0, List.drop_zero, hzv, qj8] at hX
   conv => cbv
   refine hQ () _ _ _ trivial ?_
   subst hΩ
   refine ⟨⟨?_, ⟨rfl, rfl⟩, trivial⟩, rfl, rfl⟩
   show Pay.pt X = Pay.pt (nsm (nV bs) P0)
   rw [hX]
end Go.Sx.Tryz
end
section
set_option maxHeartbeats 4000000
namespace Go.Sx.Tryz
open Go.Proofs
set_option maxRecDepth 40000
theorem qoL {P : AP} (h : P.on) : ∀ j, nsm j (padd P P) = padd (nsm j P) (nsm j P)
 | 0 => by rw [nsm, nsm, qgO]
 | j + 1 => by rw [nsm, nsm, qoL h j, qhU (qam h j) (qam h j) h h]
theorem qt6 {P : AP} (h : P.on) (j : Nat) : nsm j (padd P P) = nsm (2 * j) P := by rw [qoL h, qn3 h]
theorem qoM {P X : AP} (h : P.on) {d : Int} (hd : Nd d) : putP X (qak P (padd P P) 8) d = padd X (zsm d P) := by
 unfold Nd at hd
 have key : ∀ e : Int, e % 2 = 1 -> 0 < e -> e < 16 -> (qak P (padd P P) 8).getD (e / 2).toNat ⟨0, 1⟩ = nsm e.toNat P := by
  intro e h1 h2 h3
  rw [qka (qaw h h) _ h (by omega), qt6 h, show e.toNat = 2 * (e / 2).toNat + 1 by omega]
  exact qgN _ _
 unfold putP zsm
 by_cases h1 : 0 < d
 ·rw [if_pos h1, if_pos (by omega), key d (by omega) h1 (by omega)]
 ·by_cases h2 : d < 0
  ·rw [if_neg h1, if_pos h2, if_neg (by omega), key (-d) (by omega) (by omega) (by omega)]
  ·rw [if_neg h1, if_neg h2, if_pos (by omega), show d.toNat = 0 by omega]
   exact (qeS X).symm
def qh4 (Ω : Om) : qd := fun args => match args with
 | [.roi .u8 as', .ab (.pt P), .roi .u8 bs, .ab (.pt R)] => ⟨∀ _ : Unit, ((P.on /\ Byt as') /\ 0 < as'.length /\ as'.length <= 64) /\ (R.on /\ Byt bs) /\ 0 < bs.length /\ bs.length <= 64, Unit, fun _ => True, fun _ => .tup [.ab (.pt (Ω.hide _ fun _ => padd (nsm (nV as') P) (nsm (nV bs) R))), .int .i64 0]⟩
 | _ => PR.none
noncomputable def qt7 : List (FuncId × Func) := [(132, Tryz.f132)]
theorem qt8 : Ctr Tryz.prog T glob 99 (qh4 Om.real) := by
 refine qo T_ok qi qj (fun Ω => [(82, qcs Ω), (149, qhT Ω), (150, qh0 Ω), (103, qc7 Ω), (152, qh1 Ω), (151, qh2 Ω)]) qt7 (fun Ω => []) [] (qb qeT (qb qtT (qb qt1 (qb qgS (qb qt2 (qb qt3 qg)))))) (qG Tryz.call132 Tryz.func132 (by kernel_rfl) qh) qe qf Tryz.func99 (by rfl) (by kernel_rfl) Tryz.call99 ?_ ?_
 ·intro args; unfold qh4; split
  ·exact qr (by repeat' constructor) (fun _ _ => rfl) (by repeat' constructor)
  ·exact PR.good_none
 ·intro P Ω hΩ hE hI hm args pr hs hp Q hQ
  unfold qh4 at hs
  split at hs <;> subst hs <;> try (exact hp.elim)
  rename_i ms P0 bs R0
  obtain ⟨⟨⟨hP, ha⟩, k0, k1⟩, ⟨hR, hb⟩, l0, l1⟩ := hp ()
  refine ⟨1000, ?_⟩
  conv => cbv
  refine q9 hE hI hm (n := 1000) ?_
  conv => cbv
  constructor
  ·intro h
   have h' : False := by (subst hΩ; have h2 := eq_of_beq h; change ((ms.length : Nat) : Int) = 0 at h2; omega); first | done | (subst hΩ; exact Bool.noConfusion (show false = true from h))
   contradiction
  intro _
  conv => cbv
  constructor
  ·intro h
   have h' : False := by (subst hΩ; have h2 := of_decide_eq_true h; change ((ms.length : Nat) : Int) > 64 at h2; omega); first | done | (subst hΩ; exact Bool.noConfusion (show false = true from h))
   contradiction
  intro _
  conv => cbv
  refine q9 hE hI hm (n := 1000) ?_
  conv => cbv
  constructor
  ·intro h
   have h' : False := by (subst hΩ; have h2 := eq_of_beq h; change ((bs.length : Nat) : Int) = 0 at h2; omega); first | done | (subst hΩ; exact Bool.noConfusion (show false = true from h))
   contradiction
  intro _
  conv => cbv
  constructor
  ·intro h
   have h' : False := by (subst hΩ; have h2 := of_decide_eq_true h; change ((bs.length : Nat) : Int) > 64 at h2; omega); first | done | (subst hΩ; exact Bool.noConfusion (show false = true from h))
   contradiction
  intro _
  conv => cbv
  refine q9 hE hI hm (n := 1000) ?_
  conv => cbv
  constructor
  ·exact fun _ _ => ⟨⟨ha, k1⟩, rfl⟩
  intro z hz
  obtain ⟨ul, uc⟩ := z
  have hz : (ul.length = 8 * ms.length + 1 /\ (∀ d ∈ ul, Nd d) /\ valB 2 ul = ((nV ms : Nat) : Int)) /\ ul.length <= uc := by subst hΩ; exact hz
  obtain ⟨⟨hul, hun, huv⟩, huc⟩ := hz
  conv => cbv
  constructor
  ·exact fun _ _ => ⟨⟨hb, l1⟩, rfl⟩
  intro y hy
  obtain ⟨vl, vc⟩ := y
  have hy : (vl.length = 8 * bs.length + 1 /\ (∀ d ∈ vl, Nd d) /\ valB 2 vl = ((nV bs : Nat) : Int)) /\ vl.length <= vc := by subst hΩ; exact hy
  obtain ⟨⟨hvl, hvn, hvv⟩, hvc⟩ := hy
  conv => cbv
  constructor
  ·intro h
   have h' : False := by (subst hΩ; exact absurd h (by decide)); first | done | (subst hΩ; exact Bool.noConfusion (show false = true from h))
   contradiction
  intro _
  conv => cbv
  constructor
  ·intro h
   have h' : False := by (subst hΩ; exact absurd h (by decide)); first | done | (subst hΩ; exact Bool.noConfusion (show false = true from h))
   contradiction
  intro _
  conv => cbv
  constructor
  ·exact fun (_ : Unit) => trivial
  intro z hz
  obtain ⟨S0, Sc⟩ := z
  have hS : S0 = qak P0 (padd P0 P0) 8 /\ S0.length <= Sc := by subst hΩ; exact hz
  conv => cbv
  constructor
  ·exact fun (_ : Unit) => trivial
  intro y hy
  obtain ⟨T0, Tc⟩ := y
  have hT : T0 = qak R0 (padd R0 R0) 8 /\ T0.length <= Tc := by subst hΩ; exact hy
  conv => cbv
  constructor; (first | exact fun (_ : Unit) => trivial | exact fun (_ : Unit) (_ : Unit) => (by decide)); intro _ _; conv => cbv
  obtain ⟨N, eN⟩ : ∃ N, N = max ul.length vl.length := ⟨_, rfl⟩
  obtain ⟨j0, hj0⟩ : ∃ j0, Ω.bin .sub .i64 (Ω.imax (Ω.ofN (Ω.len ul)) (Ω.ofN (Ω.len vl))) 1 = j0 := ⟨_, rfl⟩
  have ej0 : j0 = (N : Int) - 1 := by
   rw [<- hj0, hΩ, eN]
   show binL .sub .i64 (max ((ul.length : Nat) : Int) ((vl.length : Nat) : Int)) 1 = _
   rw [qx (by omega) (by omega)]; omega
  obtain ⟨X0, hX0⟩ : ∃ X0, X0 = pid := ⟨_, rfl⟩
  have hsu : Ω.sub ul 0 (Ω.len ul) = ul := by
   rw [hΩ]; show (ul.drop 0).take ul.length = ul
   rw [List.drop_zero, List.take_length]
  have hsv : Ω.sub vl 0 (Ω.len vl) = vl := by
   rw [hΩ]; show (vl.drop 0).take vl.length = vl
   rw [List.drop_zero, List.take_length]
  conv at hj0 => lhs; cbv
  conv at hsu => lhs; cbv
  conv at hsv => lhs; cbv
  rw [hj0]
  refine qv hE hI hm (fun z : Nat × Int × AP => (mkT 87 [(8, .ptr 16 (.l 0)), (9, .lit .i64 0), (13, .sl 424 1 (.l 0) (.s (Ω.len ul)) (.s uc)), (15, .sl 480 1 (.l 0) (.s (Ω.len vl)) (.s vc)), (17, .ptr 616 (.l 0)), (18, .ptr 640 (.l 0)), (19, .int .i64 z.2.1)], [(640, .ab (.pt z.2.2)), (616, .agg [.sl 584 24 (.l 0) (.s (Ω.hide Nat fun _ => S0.length)) (.s Sc), .sl 600 24 (.l 0) (.s (Ω.hide Nat fun _ => T0.length)) (.s Tc)]), (600, .sab (.pt T0)), (584, .sab (.pt S0)), (480, .seq .i64 vl), (424, .seq .i64 ul), (16, Z32)])) (fun z => z.1 <= N /\ z.2.1 = (z.1 : Int) - 1 /\ z.2.2 = padd (zsm (valB 2 (ul.drop z.1)) P0) (zsm (valB 2 (vl.drop z.1)) R0)) (fun z => z.1) 0 ⟨(N, j0, X0), [], ⟨Nat.le_refl _, ej0, ?_⟩, Nat.zero_le _, ?_⟩ fun z hz => ⟨1000, ?_⟩
  ·show X0 = padd (zsm (valB 2 (ul.drop N)) P0) (zsm (valB 2 (vl.drop N)) R0)
   rw [List.drop_of_length_le (by omega), List.drop_of_length_le (by omega), hX0]
   exact (qeS pid).symm
  ·conv => cbv
   rw [hX0]
   subst hΩ
   exact ⟨rfl, trivial⟩
  obtain ⟨k, j, X⟩ := z
  obtain ⟨hk, hj, hX⟩ : k <= N /\ j = (k : Int) - 1 /\ X = padd (zsm (valB 2 (ul.drop k)) P0) (zsm (valB 2 (vl.drop k)) R0) := hz
  conv => cbv
  constructor
  ·intro hc
   have h1 : 0 <= j := by subst hΩ; exact of_decide_eq_true hc
   obtain ⟨i, rfl⟩ : ∃ i : Nat, j = i := ⟨j.toNat, by omega⟩
   have nd : ∀ l : List Int, (∀ d ∈ l, Nd d) -> Nd (l.getD i 0) := fun l hl => by
    by_cases h : i < l.length
    ·exact hl _ (qX h)
    ·rw [List.getD_eq_getElem?_getD, List.getElem?_eq_none (by omega)]; exact .inl rfl
   have hS8 : S0.length = 8 := by rw [hS.1, qhX]
   have hT8 : T0.length = 8 := by rw [hT.1, qhX]
   have dr : ∀ l : List Int, valB 2 (l.drop i) = 2 * valB 2 (l.drop (i + 1)) + l.getD i 0 := fun l => by
    by_cases h : i < l.length
    ·rw [List.drop_eq_getElem_cons h, List.getD_eq_getElem?_getD, List.getElem?_eq_getElem h]
     simp only [valB, Option.getD_some]
     omega
    ·rw [List.drop_of_length_le (by omega), List.drop_of_length_le (by omega), List.getD_eq_getElem?_getD, List.getElem?_eq_none (by omega)]
     rfl
   obtain ⟨X2, hX2⟩ : ∃ X2, X2 = putP (putP (padd X X) S0 (ul.getD i 0)) T0 (vl.getD i 0) := ⟨_, rfl⟩
   have eX2 : X2 = padd (zsm (valB 2 (ul.drop i)) P0) (zsm (valB 2 (vl.drop i)) R0) := by
    rw [hX2, hS.1, hT.1, qoM hP (nd ul hun), qoM hR (nd vl hvn), hX, show k = i + 1 by omega, dr ul, dr vl, qhW hP, qhW hR, qd6 hP, qd6 hR]
    have o1 := qhV hP (valB 2 (ul.drop (i + 1)))
    have o2 := qhV hR (valB 2 (vl.drop (i + 1)))
    have o3 := qhV hP (ul.getD i 0)
    have o4 := qhV hR (vl.getD i 0)
    generalize zsm (valB 2 (ul.drop (i + 1))) P0 = A at *
    generalize zsm (valB 2 (vl.drop (i + 1))) R0 = B at *
    generalize zsm (ul.getD i 0) P0 = C at *
    generalize zsm (vl.getD i 0) R0 = D at *
    rw [qhU o1 o2 o1 o2, qbR (qaw (qaw o1 o1) (qaw o2 o2)) o3 o4, qhU (qaw o1 o1) (qaw o2 o2) o3 o4]
   conv => cbv
   constructor; (first | exact fun (_ : Unit) => trivial | exact fun (_ : Unit) (_ : Unit) => (by decide)); intro _ _; conv => cbv
   constructor
   ·exact fun _ => ⟨by subst hΩ; show 0 + ul.length <= ul.length; omega, trivial, trivial⟩
   rw [hsu]
   constructor
   ·exact fun _ _ => ⟨Int.natCast_nonneg i, by omega⟩
   intro _ _
   conv => cbv
   constructor
   ·exact fun _ => ⟨trivial, by subst hΩ; exact rfl, trivial, trivial⟩
   constructor
   ·intro _ _; subst hΩ; exact ⟨nd ul hun, hS8⟩
   intro _ _
   conv => cbv
   constructor
   ·exact fun _ => ⟨by subst hΩ; show 0 + vl.length <= vl.length; omega, trivial, trivial⟩
   rw [hsv]
   constructor
   ·exact fun _ _ => ⟨Int.natCast_nonneg i, by omega⟩
   intro _ _
   conv => cbv
   constructor
   ·exact fun _ => ⟨trivial, by subst hΩ; exact rfl, trivial, trivial⟩
   constructor
   ·intro _ _; subst hΩ; exact ⟨nd vl hvn, hT8⟩
   intro _ _
   conv => cbv
   obtain ⟨j2, hj2⟩ : ∃ j2 : Int, (i : Int) - 1 = j2 := ⟨_, rfl⟩
   refine ⟨(i, j2, X2), [], ⟨by show i <= N; omega, hj2.symm, eX2⟩, by show i < k; omega, Nat.zero_le _, ?_⟩
   conv => cbv
   (try rw [hsu])
   (try rw [hsv])
   subst hΩ
   refine ⟨?_, by rw [hX2]; rfl, trivial⟩
   show binL .sub .i64 (i : Int) 1 = j2
   rw [qx (by omega) (by omega), hj2]
  ·intro hc
   have h1 : ¬ 0 <= j := by subst hΩ; exact of_decide_eq_false hc
   have hk0 : k = 0 := by omega
   rw [hk0, List.drop_zero, List.drop_zero, huv, hvv, qj8, qj8] at hX
   conv => cbv
   refine hQ () _ _ _ trivial ?_
   subst hΩ
   refine ⟨⟨?_, ⟨rfl, rfl⟩, trivial⟩, rfl, rfl⟩
   show Pay.pt X = Pay.pt (padd (nsm (nV ms) P0) (nsm (nV bs) R0))
   rw [hX]
end Go.Sx.Tryz
end
section
set_option maxHeartbeats 4000000
namespace Go.Sx.Tryz
open Go.Proofs
set_option maxRecDepth 40000
def qh5 (Ω : Om) : qd := fun args => match args with
 | [.ab (.sc k), .ab (.pt P)] => ⟨∀ _ : Unit, k < LN /\ P.on, Unit, fun _ => True, fun _ => .ab (.pt (Ω.hide _ fun _ => nsm k P))⟩
 | _ => PR.none
theorem qt9 : Ctr Tryz.prog T glob 31 (qh5 Om.real) := by
 refine qo T_ok qi qj (fun Ω => [(91, qfB Ω), (87, qh3 Ω)]) [] (fun Ω => []) [] (qb qoy (qb qt5 qg)) qh qe qf Tryz.func31 (by rfl) (by kernel_rfl) Tryz.call31 ?_ ?_
 ·intro args; unfold qh5; split
  ·exact qr (by repeat' constructor) (fun _ _ => rfl) (by repeat' constructor)
  ·exact PR.good_none
 ·intro P Ω hΩ hE hI hm args pr hs hp Q hQ
  unfold qh5 at hs
  split at hs <;> subst hs <;> try (exact hp.elim)
  rename_i k P0
  obtain ⟨hk, hP⟩ := hp ()
  refine ⟨1000, ?_⟩
  conv => cbv
  constructor
  ·exact fun _ _ => hk
  intro b hb
  obtain ⟨bl, bc⟩ := b
  have hb : bl = qK k 57 /\ bl.length <= bc := by subst hΩ; exact hb
  have hsb : Ω.sub bl 0 (Ω.len bl) = bl := by
   rw [hΩ]; show (bl.drop 0).take bl.length = bl
   rw [List.drop_zero, List.take_length]
  conv at hsb => lhs; cbv
  conv => cbv
  have hbb : Byt bl := by rw [hb.1]; exact qde _ _
  have hlb : bl.length = 57 := by rw [hb.1, qbg]
  have hvb : nV bl = k := by rw [hb.1, qfi]; exact Nat.mod_eq_of_lt (Nat.lt_trans (Nat.lt_trans hk qa7) qhK)
  constructor
  ·exact fun _ => ⟨(by subst hΩ; show 0 + bl.length <= bl.length; omega), trivial, trivial⟩
  rw [hsb]
  constructor
  ·exact fun _ _ => ⟨⟨hP, hbb⟩, by omega, by omega⟩
  intro _ _
  conv => cbv
  refine hQ () _ _ _ trivial ?_
  subst hΩ
  show Pay.pt (nsm (nV bl) P0) = Pay.pt (nsm k P0)
  rw [hvb]
def qh6 (Ω : Om) : qd := fun args => match args with
 | [.ab (.sc k), .ab (.pt P), .ab (.sc j), .ab (.pt R)] => ⟨∀ _ : Unit, (k < LN /\ P.on) /\ j < LN /\ R.on, Unit, fun _ => True, fun _ => .ab (.pt (Ω.hide _ fun _ => padd (nsm k P) (nsm j R)))⟩
 | _ => PR.none
theorem qua : Ctr Tryz.prog T glob 36 (qh6 Om.real) := by
 refine qo T_ok qi qj (fun Ω => [(91, qfB Ω), (99, qh4 Ω)]) [] (fun Ω => []) [] (qb qoy (qb qt8 qg)) qh qe qf Tryz.func36 (by rfl) (by kernel_rfl) Tryz.call36 ?_ ?_
 ·intro args; unfold qh6; split
  ·exact qr (by repeat' constructor) (fun _ _ => rfl) (by repeat' constructor)
  ·exact PR.good_none
 ·intro P Ω hΩ hE hI hm args pr hs hp Q hQ
  unfold qh6 at hs
  split at hs <;> subst hs <;> try (exact hp.elim)
  rename_i k P0 j R0
  obtain ⟨⟨hk, hP⟩, hj, hR⟩ := hp ()
  refine ⟨1000, ?_⟩
  conv => cbv
  constructor
  ·exact fun _ _ => hk
  intro b hb
  obtain ⟨bl, bc⟩ := b
  have hb : bl = qK k 57 /\ bl.length <= bc := by subst hΩ; exact hb
  have hsb : Ω.sub bl 0 (Ω.len bl) = bl := by
   rw [hΩ]; show (bl.drop 0).take bl.length = bl
   rw [List.drop_zero, List.take_length]
  conv at hsb => lhs; cbv
  conv => cbv
  have hbb : Byt bl := by rw [hb.1]; exact qde _ _
  have hlb : bl.length = 57 := by rw [hb.1, qbg]
  have hvb : nV bl = k := by rw [hb.1, qfi]; exact Nat.mod_eq_of_lt (Nat.lt_trans (Nat.lt_trans hk qa7) qhK)
  constructor
  ·exact fun _ _ => hj
  intro c hc
  obtain ⟨cl, cc⟩ := c
  have hc : cl = qK j 57 /\ cl.length <= cc := by subst hΩ; exact hc
  have hsc : Ω.sub cl 0 (Ω.len cl) = cl := by
   rw [hΩ]; show (cl.drop 0).take cl.length = cl
   rw [List.drop_zero, List.take_length]
  conv at hsc => lhs; cbv
  conv => cbv
  have hbc : Byt cl := by rw [hc.1]; exact qde _ _
  have hlc : cl.length = 57 := by rw [hc.1, qbg]
  have hvc : nV cl = j := by rw [hc.1, qfi]; exact Nat.mod_eq_of_lt (Nat.lt_trans (Nat.lt_trans hj qa7) qhK)
  constructor
  ·exact fun _ => ⟨(by subst hΩ; show 0 + bl.length <= bl.length; omega), trivial, (by subst hΩ; show 0 + cl.length <= cl.length; omega), trivial, trivial⟩
  rw [hsb, hsc]
  constructor
  ·exact fun _ _ => ⟨⟨⟨hP, hbb⟩, by omega, by omega⟩, ⟨hR, hbc⟩, by omega, by omega⟩
  intro _ _
  conv => cbv
  refine hQ () _ _ _ trivial ?_
  subst hΩ
  show Pay.pt (padd (nsm (nV bl) P0) (nsm (nV cl) R0)) = Pay.pt (padd (nsm k P0) (nsm j R0))
  rw [hvb, hvc]
end Go.Sx.Tryz
end
