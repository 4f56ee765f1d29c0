/-
  Part of the proof of a statement: the means.
-/
import Derived.Test.YtpnebmmjpapopaaGreatDoorX8
import Derived.Test.YtpnebmmjpapopaaGreatDoorX5
set_option linter.unusedSectionVars false
set_option linter.unusedVariables false
set_option linter.unusedSimpArgs false
set_option linter.deprecated false
section
set_option maxHeartbeats 4000000
namespace Go.Sx.Tryz
open Go.Proofs
def qbM (Ω : Om) : qe := fun args => match args with
 | [.ab (.fe x)] => ⟨True, Unit, fun _ => True, fun _ => .ab (.fe (Ω.hide _ fun _ => x * x))⟩
 | _ => PR.none
theorem qdm : Ctr Tryz.prog T glob 82 (qbM Om.real) := by
 refine qo T_ok qg qh (fun Ω => [(84, qaD Ω)]) [] (fun Ω => []) [] (qb qa0 qi) qj qk ql Tryz.func82 (by rfl) (by kernel_rfl) Tryz.call82 ?_ ?_
 ·intro args; unfold qbM; split
  ·exact qr (by repeat' constructor) (fun _ _ => rfl) (by repeat' constructor)
  ·exact PR.good_none
 ·intro P Ω hΩ hE hI hm args pr hs hp Q hQ
  unfold qbM at hs
  split at hs <;> subst hs <;> try (exact hp.elim)
  rename_i x
  refine ⟨1000, ?_⟩
  cbv
  repeat (constructor; (first | exact fun _ => trivial | exact fun _ _ => (by decide)); intro _ _; cbv)
  exact hQ () _ _ _ trivial rfl
def qcM (Ω : Om) : qe := fun args => match args with
 | [.ab (.fe x), .int .i64 n] => ⟨∀ _ : Unit, -9223372036854775808 <= n /\ n < 9223372036854775808, Unit, fun _ => True, fun _ => .ab (.fe (Ω.hide _ fun _ => x * fI n))⟩
 | _ => PR.none
theorem qgb : Ctr Tryz.prog T glob 83 (qcM Om.real) := by
 refine qo T_ok qg qh (fun Ω => [(84, qaD Ω), (76, qcc Ω)]) [] (fun Ω => []) [] (qb qa0 (qb qen qi)) qj qk ql Tryz.func83 (by rfl) (by kernel_rfl) Tryz.call83 ?_ ?_
 ·intro args; unfold qcM; split
  ·exact qr (by repeat' constructor) (fun _ _ => rfl) (by repeat' constructor)
  ·exact PR.good_none
 ·intro P Ω hΩ hE hI hm args pr hs hp Q hQ
  unfold qcM at hs
  split at hs <;> subst hs <;> try (exact hp.elim)
  rename_i x n
  have hn := hp ()
  refine ⟨1000, ?_⟩
  cbv
  constructor
  ·exact fun _ _ => hn
  intro _ _
  cbv
  repeat (constructor; (first | exact fun _ => trivial | exact fun _ _ => (by decide)); intro _ _; cbv)
  refine hQ () _ _ _ trivial ?_
  subst hΩ
  rfl
def qer (Ω : Om) : qe := fun args => match args with
 | [.ab (.fe x), .int .i64 n] => ⟨∀ _ : Unit, 0 <= n /\ n < 9223372036854775808, Unit, fun _ => True, fun _ => .ab (.fe (Ω.hide _ fun _ => pw x (2 ^ n.toNat)))⟩
 | _ => PR.none
theorem qmo : Ctr Tryz.prog T glob 181 (qer Om.real) := by
 refine qo T_ok qg qh (fun Ω => [(82, qbM Ω)]) [] (fun Ω => []) [] (qb qdm qi) qj qk ql Tryz.func181 (by rfl) (by kernel_rfl) Tryz.call181 ?_ ?_
 ·intro args; unfold qer; split
  ·exact qr (by repeat' constructor) (fun _ _ => rfl) (by repeat' constructor)
  ·exact PR.good_none
 ·intro P Ω hΩ hE hI hm args pr hs hp Q hQ
  unfold qer at hs
  split at hs <;> subst hs <;> try (exact hp.elim)
  rename_i x n
  obtain ⟨n0, n1⟩ := hp ()
  obtain ⟨m, rfl⟩ := Int.eq_ofNat_of_zero_le n0
  have n2 : m < 9223372036854775808 := by omega
  refine ⟨1000, ?_⟩
  cbv
  refine qt hE hI hm (fun z : Nat × Fp => (mkT 12 [(2, .ptr 0 (.l 0)), (4, .ptr 8 (.l 0)), (5, .int .i64 m), (6, .int .i64 z.1)], [(8, .agg [.row .u64 8 [0, 0, 0, 0, 0, 0, 0, 0]]), (0, .ab (.fe z.2))])) (fun z => z.1 <= m /\ z.2 = pw x (2 ^ z.1)) (fun z => m - z.1) 0 ⟨(0, x), [], ⟨Nat.zero_le _, (qcD x).symm⟩, Nat.le_refl _, by cbv; exact ⟨rfl, trivial⟩⟩ fun z hz => ⟨1000, ?_⟩
  obtain ⟨i, y⟩ := z
  obtain ⟨hi, hy⟩ : i <= m /\ y = pw x (2 ^ i) := hz
  cbv
  constructor
  ·intro hc
   cbv
   rw [hΩ] at hc; simp (disch := omega) only [Om.real, qd, decide_eq_true_eq, decide_eq_false_iff_not] at hc
   repeat (constructor; (first | exact fun _ => trivial | exact fun _ _ => (by decide)); intro _ _; cbv)
   obtain ⟨y2, hy2⟩ : ∃ y2, y2 = y * y := ⟨_, rfl⟩
   refine ⟨(i + 1, y2), [], ⟨hc, ?_⟩, by simp only; omega, Nat.zero_le _, ?_⟩
   ·show y2 = pw x (2 ^ (i + 1))
    rw [hy2, hy, Nat.pow_succ, qb4]; simp only [pw]; grind -lia -linarith -order -ac (splits := 0)
   cbv
   subst hΩ
   simp (disch := omega) only [Om.real, qd]
   exact ⟨trivial, by rw [hy2]⟩
  ·intro hc
   cbv
   rw [hΩ] at hc; simp (disch := omega) only [Om.real, qd, decide_eq_true_eq, decide_eq_false_iff_not] at hc
   have e : i = m := by omega
   refine hQ () _ _ _ trivial ?_
   subst hΩ
   show Pay.fe y = Pay.fe (pw x (2 ^ ((m : Int)).toNat))
   rw [hy, e, Int.toNat_natCast]
def qgc (Ω : Om) : qe := fun args => match args with
 | [.ab (.fe x), .int .i64 n, .ab (.fe y)] => ⟨∀ _ : Unit, 0 <= n /\ n < 9223372036854775808, Unit, fun _ => True, fun _ => .ab (.fe (Ω.hide _ fun _ => jn x n y))⟩
 | _ => PR.none
theorem qqE : Ctr Tryz.prog T glob 242 (qgc Om.real) := by
 refine qo T_ok qg qh (fun Ω => [(181, qer Ω), (84, qaD Ω)]) [] (fun Ω => []) [] (qb qmo (qb qa0 qi)) qj qk ql Tryz.func242 (by rfl) (by kernel_rfl) Tryz.call242 ?_ ?_
 ·intro args; unfold qgc; split
  ·exact qr (by repeat' constructor) (fun _ _ => rfl) (by repeat' constructor)
  ·exact PR.good_none
 ·intro P Ω hΩ hE hI hm args pr hs hp Q hQ
  unfold qgc at hs
  split at hs <;> subst hs <;> try (exact hp.elim)
  rename_i x n y
  have hn := hp ()
  refine ⟨1000, ?_⟩
  cbv
  constructor
  ·exact fun _ _ => hn
  intro _ _
  cbv
  repeat (constructor; (first | exact fun _ => trivial | exact fun _ _ => (by decide)); intro _ _; cbv)
  refine hQ () _ _ _ trivial ?_
  subst hΩ
  rfl
def qes (Ω : Om) : qe := fun args => match args with
 | [.ab (.fe x)] => ⟨True, Unit, fun _ => True, fun _ => .ab (.fe (Ω.hide _ fun _ => qq x))⟩
 | _ => PR.none
theorem qmp : Ctr Tryz.prog T glob 180 (qes Om.real) := by
 refine qo T_ok qg qh (fun Ω => [(242, qgc Ω)]) [] (fun Ω => []) [] (qb qqE qi) qj qk ql Tryz.func180 (by rfl) (by kernel_rfl) Tryz.call180 ?_ ?_
 ·intro args; unfold qes; split
  ·exact qr (by repeat' constructor) (fun _ _ => rfl) (by repeat' constructor)
  ·exact PR.good_none
 ·intro P Ω hΩ hE hI hm args pr hs hp Q hQ
  unfold qes at hs
  split at hs <;> subst hs <;> try (exact hp.elim)
  rename_i x
  refine ⟨1000, ?_⟩
  cbv
  repeat (constructor; (first | exact fun _ => trivial | exact fun _ _ => (by decide)); intro _ _; cbv)
  refine hQ () _ _ _ trivial ?_
  subst hΩ
  exact congrArg Pay.fe (qqz x _ _ _ _ _ _ _ rfl rfl rfl rfl rfl rfl rfl)
def qgd (Ω : Om) : qe := fun args => match args with
 | [.ab (.fe x)] => ⟨True, Unit, fun _ => True, fun _ => .int .i64 (Ω.hide _ fun _ => odd1 x)⟩
 | _ => PR.none
theorem qqF : Ctr Tryz.prog T glob 183 (qgd Om.real) := by
 refine qo T_ok qg qh (fun Ω => [(98, qem Ω)]) [] (fun Ω => []) [] (qb qmf qi) qj qk ql Tryz.func183 (by rfl) (by kernel_rfl) Tryz.call183 ?_ ?_
 ·intro args; unfold qgd; split
  ·exact qr (by repeat' constructor) (fun _ _ => rfl) (by repeat' constructor)
  ·exact PR.good_none
 ·intro P Ω hΩ hE hI hm args pr hs hp Q hQ
  unfold qgd at hs
  split at hs <;> subst hs <;> try (exact hp.elim)
  rename_i x
  refine ⟨1000, ?_⟩
  cbv
  constructor
  ·exact fun _ => trivial
  intro z hz
  have hz : z.1 = qan x /\ z.1.length <= z.2 := by subst hΩ; exact hz
  have hl : z.1.length = 56 := by rw [hz.1, qiI]
  cbv
  constructor
  ·intro _; subst hΩ; show 0 < z.1.length; omega
  constructor
  ·exact fun _ => (show 0 + 1 <= z.1.length by omega)
  refine hQ () _ _ _ trivial ⟨rfl, ?_⟩
  subst hΩ
  show IntKind.i64.wrap (binL .and .u8 (z.1.getD 0 0) 1) = odd1 x
  rw [hz.1, qqA, qqB _ (Nat.mod_lt _ (by decide)), IntKind.wrap_i64]
  unfold odd1
  omega
def qet (Ω : Om) : qe := fun args => match args with
 | [.ab (.fe x)] => ⟨True, Unit, fun _ => True, fun _ => .ab (.fe (Ω.hide _ fun _ => fabs x))⟩
 | _ => PR.none
theorem qmq : Ctr Tryz.prog T glob 89 (qet Om.real) := by
 refine qo T_ok qg qh (fun Ω => [(183, qgd Ω), (81, qcL Ω), (182, qdi Ω)]) [] (fun Ω => []) [] (qb qqF (qb qf8 (qb qiE qi))) qj qk ql Tryz.func89 (by rfl) (by kernel_rfl) Tryz.call89 ?_ ?_
 ·intro args; unfold qet; split
  ·exact qr (by repeat' constructor) (fun _ _ => rfl) (by repeat' constructor)
  ·exact PR.good_none
 ·intro P Ω hΩ hE hI hm args pr hs hp Q hQ
  unfold qet at hs
  split at hs <;> subst hs <;> try (exact hp.elim)
  rename_i x
  refine ⟨1000, ?_⟩
  cbv
  repeat (constructor; (first | exact fun _ => trivial | exact fun _ _ => (by decide)); intro _ _; cbv)
  refine hQ () _ _ _ trivial ?_
  subst hΩ
  exact congrArg Pay.fe (qqC x)
def qeu (Ω : Om) : qe := fun args => match args with
 | [.ab (.fe x)] => ⟨True, Unit, fun _ => True, fun _ => .ab (.fe (Ω.hide _ fun _ => finv x))⟩
 | _ => PR.none
theorem qmr : Ctr Tryz.prog T glob 87 (qeu Om.real) := by
 refine qo T_ok qg qh (fun Ω => [(180, qes Ω), (181, qer Ω), (84, qaD Ω)]) [] (fun Ω => []) [] (qb qmp (qb qmo (qb qa0 qi))) qj qk ql Tryz.func87 (by rfl) (by kernel_rfl) Tryz.call87 ?_ ?_
 ·intro args; unfold qeu; split
  ·exact qr (by repeat' constructor) (fun _ _ => rfl) (by repeat' constructor)
  ·exact PR.good_none
 ·intro P Ω hΩ hE hI hm args pr hs hp Q hQ
  unfold qeu at hs
  split at hs <;> subst hs <;> try (exact hp.elim)
  rename_i x
  refine ⟨1000, ?_⟩
  cbv
  repeat (constructor; (first | exact fun _ => trivial | exact fun _ _ => (by decide)); intro _ _; cbv)
  refine hQ () _ _ _ trivial ?_
  subst hΩ
  exact congrArg Pay.fe (qqD x)
def qge (Ω : Om) : qe := fun args => match args with
 | [.ab (.fe u), .ab (.fe v)] => ⟨True, Unit, fun _ => True, fun _ => .tup [.ab (.fe (Ω.hide _ fun _ => fabs (u * qq (u * v)))), .bs (Ω.hide _ fun _ => decide (v * (u * qq (u * v) * (u * qq (u * v))) = u))]⟩
 | _ => PR.none
theorem qqG : Ctr Tryz.prog T glob 85 (qge Om.real) := by
 refine qo T_ok qg qh (fun Ω => [(180, qes Ω), (89, qet Ω), (84, qaD Ω), (82, qbM Ω), (36, qdk Ω)]) [] (fun Ω => []) [] (qb qmp (qb qmq (qb qa0 (qb qdm (qb qiG qi))))) qj qk ql Tryz.func85 (by rfl) (by kernel_rfl) Tryz.call85 ?_ ?_
 ·intro args; unfold qge; split
  ·exact qr (by repeat' constructor) (fun _ _ => rfl) (by repeat' constructor)
  ·exact PR.good_none
 ·intro P Ω hΩ hE hI hm args pr hs hp Q hQ
  unfold qge at hs
  split at hs <;> subst hs <;> try (exact hp.elim)
  rename_i u v
  refine ⟨1000, ?_⟩
  cbv
  repeat (constructor; (first | exact fun _ => trivial | exact fun _ _ => (by decide)); intro _ _; cbv)
  refine hQ () _ _ _ trivial ?_
  subst hΩ
  exact ⟨⟨rfl, rfl, trivial⟩, rfl, rfl⟩
end Go.Sx.Tryz
end
section
set_option maxHeartbeats 4000000
namespace Go.Sx.Tryz
open Go.Proofs
def qdn (Ω : Om) : qe := fun args => match args with
 | [] => ⟨True, Unit, fun _ => True, fun _ => .ab (.pt (Ω.hide _ fun _ => pid))⟩
 | _ => PR.none
theorem qiK : Ctr Tryz.prog T glob 120 (qdn Om.real) := by
 refine qo T_ok qg qh (fun Ω => [(76, qcc Ω)]) [] (fun Ω => []) [] (qb qen qi) qj qk ql Tryz.func120 (by rfl) (by kernel_rfl) Tryz.call120 ?_ ?_
 ·intro args; unfold qdn; split
  ·exact qr (by repeat' constructor) (fun _ _ => rfl) (by repeat' constructor)
  ·exact PR.good_none
 ·intro P Ω hΩ hE hI hm args pr hs hp Q hQ
  unfold qdn at hs
  split at hs <;> subst hs <;> try (exact hp.elim)
  refine ⟨1000, ?_⟩
  cbv
  repeat (constructor; (first | exact fun _ => trivial | exact fun _ _ => (by decide)); intro _ _; cbv)
  refine hQ () _ _ _ trivial ?_
  subst hΩ
  exact qcz qev qcF (by decide +kernel) (by decide +kernel)
def qgg (Ω : Om) : qe := fun args => match args with
 | [.ab (.fe a), .rop (.ab (.fe o)) (.l 0)] => ⟨True, Unit, fun _ => True, fun _ => .ab (.fe (Ω.hide _ fun _ => a * o))⟩
 | _ => PR.none
theorem qqT : Ctr Tryz.prog T glob 192 (qgg Om.real) := by
 refine qo T_ok qg qh (fun Ω => [(84, qaD Ω)]) [] (fun Ω => []) [] (qb qa0 qi) qj qk ql Tryz.func192 (by rfl) (by kernel_rfl) Tryz.call192 ?_ ?_
 ·intro args; unfold qgg; split
  ·exact qr (by repeat' constructor) (fun _ _ => rfl) (by repeat' constructor)
  ·exact PR.good_none
 ·intro P Ω hΩ hE hI hm args pr hs hp Q hQ
  unfold qgg at hs
  split at hs <;> subst hs <;> try (exact hp.elim)
  rename_i a o
  refine ⟨1000, ?_⟩
  cbv
  repeat (constructor; (first | exact fun _ => trivial | exact fun _ _ => (by decide)); intro _ _; cbv)
  exact hQ () _ _ _ trivial rfl
def qex (Ω : Om) : qe := fun args => match args with
 | [.ab (.pt P)] => ⟨True, Unit, fun _ => True, fun _ => .tup [.ab (.fe (Ω.hide _ fun _ => P.x)), .ab (.fe (Ω.hide _ fun _ => P.y))]⟩
 | _ => PR.none
theorem qmu : Ctr Tryz.prog T glob 105 (qex Om.real) := by
 refine qav T_ok qg qh (fun Ω => [(87, qeu Ω), (192, qgg Ω)]) [] (fun Ω => []) [] (qb qmr (qb qqT qi)) qj qk ql Tryz.func105 (by rfl) (by kernel_rfl) Tryz.call105 ?_ ?_
 ·intro args; unfold qex; split
  ·exact qr (by repeat' constructor) (fun _ _ => rfl) (by repeat' constructor)
  ·exact PR.good_none
 ·intro P Ω hΩ hE hI hm args pr hs hp cs hcs Q hQ
  unfold qex at hs
  split at hs <;> subst hs <;> try (exact hp.elim)
  rename_i P
  obtain ⟨_, _, rfl, ⟨X, Y, Z, rfl, hP, hz, hx, hy⟩, rfl⟩ := hcs
  refine ⟨1000, ?_⟩
  cbv
  repeat (constructor; (first | exact fun _ => trivial | exact fun _ _ => (by decide)); intro _ _; cbv)
  refine hQ () _ _ _ trivial ?_
  subst hΩ
  exact ⟨⟨congrArg Pay.fe (qms hz hx), congrArg Pay.fe (qms hz hy), trivial⟩, rfl, rfl⟩
def qdo (Ω : Om) : qe := fun args => match args with
 | [.ab (.pt P), .ab (.pt Q)] => ⟨True, Unit, fun _ => True, fun _ => .ab (.pt (Ω.hide _ fun _ => padd P Q))⟩
 | _ => PR.none
theorem qiL : Ctr Tryz.prog T glob 60 (qdo Om.real) := by
 refine qav T_ok qg qh (fun Ω => [(84, qaD Ω), (82, qbM Ω), (83, qcM Ω), (80, qb8 Ω), (78, qb7 Ω)]) [] (fun Ω => []) [] (qb qa0 (qb qdm (qb qgb (qb qek (qb qej qi))))) qj qk ql Tryz.func60 (by rfl) (by kernel_rfl) Tryz.call60 ?_ ?_
 ·intro args; unfold qdo; split
  ·exact qr (by repeat' constructor) (fun _ _ => rfl) (by repeat' constructor)
  ·exact PR.good_none
 ·intro P Ω hΩ hE hI hm args pr hs hp cs hcs Q hQ
  unfold qdo at hs
  split at hs <;> subst hs <;> try (exact hp.elim)
  rename_i P R
  obtain ⟨_, _, rfl, ⟨X1, Y1, Z1, rfl, hP, z1, x1, y1⟩, _, _, rfl, ⟨X2, Y2, Z2, rfl, hR, z2, x2, y2⟩, rfl⟩ := hcs
  refine ⟨1000, ?_⟩
  cbv
  repeat (constructor; (first | exact fun _ => trivial | exact fun _ _ => (by decide)); intro _ _; cbv)
  refine hQ () _ _ _ trivial ?_
  subst hΩ
  have h := qqQ hP hR z1 x1 y1 z2 x2 y2
  rw [<- fI_d] at h
  exact qcz (qaX hP hR) h.1 h.2.1 h.2.2
def qgh (Ω : Om) : qe := fun args => match args with
 | [.ab (.pt P)] => ⟨True, Unit, fun _ => True, fun _ => .ab (.pt (Ω.hide _ fun _ => padd P P))⟩
 | _ => PR.none
theorem qqU : Ctr Tryz.prog T glob 145 (qgh Om.real) := by
 refine qav T_ok qg qh (fun Ω => [(84, qaD Ω), (82, qbM Ω), (83, qcM Ω), (80, qb8 Ω), (78, qb7 Ω)]) [] (fun Ω => []) [] (qb qa0 (qb qdm (qb qgb (qb qek (qb qej qi))))) qj qk ql Tryz.func145 (by rfl) (by kernel_rfl) Tryz.call145 ?_ ?_
 ·intro args; unfold qgh; split
  ·exact qr (by repeat' constructor) (fun _ _ => rfl) (by repeat' constructor)
  ·exact PR.good_none
 ·intro P Ω hΩ hE hI hm args pr hs hp cs hcs Q hQ
  unfold qgh at hs
  split at hs <;> subst hs <;> try (exact hp.elim)
  rename_i P
  obtain ⟨_, _, rfl, ⟨X, Y, Z, rfl, hP, hz, hx, hy⟩, rfl⟩ := hcs
  refine ⟨1000, ?_⟩
  cbv
  repeat (constructor; (first | exact fun _ => trivial | exact fun _ _ => (by decide)); intro _ _; cbv)
  refine hQ () _ _ _ trivial ?_
  subst hΩ
  have h := qqR hP hz hx hy
  rw [<- fI_2] at h
  exact qcz (qaX hP hP) h.1 h.2.1 h.2.2
def qgi (Ω : Om) : qe := fun args => match args with
 | [.ab (.pt P)] => ⟨True, Unit, fun _ => True, fun _ => .ab (.pt (Ω.hide _ fun _ => pneg P))⟩
 | _ => PR.none
theorem qqV : Ctr Tryz.prog T glob 136 (qgi Om.real) := by
 refine qav T_ok qg qh (fun Ω => [(81, qcL Ω)]) [] (fun Ω => []) [] (qb qf8 qi) qj qk ql Tryz.func136 (by rfl) (by kernel_rfl) Tryz.call136 ?_ ?_
 ·intro args; unfold qgi; split
  ·exact qr (by repeat' constructor) (fun _ _ => rfl) (by repeat' constructor)
  ·exact PR.good_none
 ·intro P Ω hΩ hE hI hm args pr hs hp cs hcs Q hQ
  unfold qgi at hs
  split at hs <;> subst hs <;> try (exact hp.elim)
  rename_i P
  obtain ⟨_, _, rfl, ⟨X, Y, Z, rfl, hP, hz, hx, hy⟩, rfl⟩ := hcs
  refine ⟨1000, ?_⟩
  cbv
  repeat (constructor; (first | exact fun _ => trivial | exact fun _ _ => (by decide)); intro _ _; cbv)
  refine hQ () _ _ _ trivial ?_
  subst hΩ
  exact qcz (qa9 hP) hz (by show -X = -P.x * Z; rw [hx]; grind -lia -linarith -order -ac (splits := 0)) hy
def qgj (Ω : Om) : qe := fun args => match args with
 | [.agg [.int .i64 b], .ab (.fe x), .ab (.fe y)] => ⟨True, Unit, fun _ => True, fun _ => .ab (.fe (Ω.hide _ fun _ => if b % 2 = 0 then x else y))⟩
 | _ => PR.none
theorem qqW : Ctr Tryz.prog T glob 224 (qgj Om.real) := by
 refine qo T_ok qg qh (fun Ω => [(182, qdi Ω)]) [] (fun Ω => []) [] (qb qiE qi) qj qk ql Tryz.func224 (by rfl) (by kernel_rfl) Tryz.call224 ?_ ?_
 ·intro args; unfold qgj; split
  ·exact qr (by repeat' constructor) (fun _ _ => rfl) (by repeat' constructor)
  ·exact PR.good_none
 ·intro P Ω hΩ hE hI hm args pr hs hp Q hQ
  unfold qgj at hs
  split at hs <;> subst hs <;> try (exact hp.elim)
  rename_i b x y
  refine ⟨1000, ?_⟩
  cbv
  repeat (constructor; (first | exact fun _ => trivial | exact fun _ _ => (by decide)); intro _ _; cbv)
  exact hQ () _ _ _ trivial rfl
def qey (Ω : Om) : qe := fun args => match args with
 | [.int .i64 b, .ab (.pt P), .ab (.pt Q)] => ⟨True, Unit, fun _ => True, fun _ => .ab (.pt (Ω.hide _ fun _ => if b % 2 = 0 then P else Q))⟩
 | _ => PR.none
theorem qmv : Ctr Tryz.prog T glob 147 (qey Om.real) := by
 refine qav T_ok qg qh (fun Ω => [(224, qgj Ω)]) [] (fun Ω => []) [] (qb qqW qi) qj qk ql Tryz.func147 (by rfl) (by kernel_rfl) Tryz.call147 ?_ ?_
 ·intro args; unfold qey; split
  ·exact qr (by repeat' constructor) (fun _ _ => rfl) (by repeat' constructor)
  ·exact PR.good_none
 ·intro P Ω hΩ hE hI hm args pr hs hp cs hcs Q hQ
  unfold qey at hs
  split at hs <;> subst hs <;> try (exact hp.elim)
  rename_i b P R
  obtain ⟨_, _, rfl, rfl, _, _, rfl, ⟨X1, Y1, Z1, rfl, hP, z1, x1, y1⟩, _, _, rfl, ⟨X2, Y2, Z2, rfl, hR, z2, x2, y2⟩, rfl⟩ := hcs
  refine ⟨1000, ?_⟩
  cbv
  repeat (constructor; (first | exact fun _ => trivial | exact fun _ _ => (by decide)); intro _ _; cbv)
  refine hQ () _ _ _ trivial ?_
  subst hΩ
  by_cases hb : b % 2 = 0
  ·simp only [Om.real, if_pos hb]
   exact qcz hP z1 x1 y1
  ·simp only [Om.real, if_neg hb]
   exact qcz hR z2 x2 y2
def qgk (Ω : Om) : qe := fun args => match args with
 | [.ab (.fe x), .ab (.fe y)] => ⟨True, Bool, fun z => z = decide (AP.on ⟨x, y⟩), fun z => match z with | true => .tup [.ab (.pt (Ω.hide _ fun _ => ⟨x, y⟩)), .lit .i64 0] | false => .tup [.agg [.agg [.row .u64 8 [0, 0, 0, 0, 0, 0, 0, 0]], .agg [.row .u64 8 [0, 0, 0, 0, 0, 0, 0, 0]], .agg [.row .u64 8 [0, 0, 0, 0, 0, 0, 0, 0]]], .lit .i64 13]⟩
 | _ => PR.none
theorem qqX : Ctr Tryz.prog T glob 102 (qgk Om.real) := by
 refine qo T_ok qg qh (fun Ω => [(82, qbM Ω), (78, qb7 Ω), (76, qcc Ω), (84, qaD Ω), (83, qcM Ω), (36, qdk Ω)]) [] (fun Ω => []) [] (qb qdm (qb qej (qb qen (qb qa0 (qb qgb (qb qiG qi)))))) qj qk ql Tryz.func102 (by rfl) (by kernel_rfl) Tryz.call102 ?_ ?_
 ·intro args; unfold qgk; split
  ·exact qbo ⟨fun x => by cases x <;> repeat' (first | exact trivial | constructor), fun E x b => by cases x <;> rfl⟩ (by repeat' (first | exact trivial | constructor)) (fun _ => ⟨_, rfl⟩)
  ·exact PR.good_none
 ·intro P Ω hΩ hE hI hm args pr hs hp Q hQ
  unfold qgk at hs
  split at hs <;> subst hs <;> try (exact hp.elim)
  rename_i x y
  refine ⟨1000, ?_⟩
  cbv
  repeat (constructor; (first | exact fun _ => trivial | exact fun _ _ => (by decide)); intro _ _; cbv)
  constructor
  ·intro hc
   cbv
   refine hQ false _ _ _ ?_ ?_
   ·subst hΩ
    have h : (!decide (x * x + y * y = fI 1 + x * x * (y * y) * fI (-39081))) = true := hc
    show false = decide (AP.on ⟨x, y⟩)
    rw [Bool.not_eq_true'] at h
    rw [<- h]; congr 1; exact propext (qmt x y)
   ·exact ⟨⟨⟨⟨⟨rfl, rfl, rfl⟩, trivial⟩, ⟨⟨rfl, rfl, rfl⟩, trivial⟩, ⟨⟨rfl, rfl, rfl⟩, trivial⟩, trivial⟩, ⟨rfl, rfl⟩, trivial⟩, rfl, rfl⟩
  ·intro hc
   cbv
   repeat (constructor; (first | exact fun _ => trivial | exact fun _ _ => (by decide)); intro _ _; cbv)
   have hon : AP.on ⟨x, y⟩ := by
    subst hΩ
    have h : (!decide (x * x + y * y = fI 1 + x * x * (y * y) * fI (-39081))) = false := hc
    rw [Bool.not_eq_false', decide_eq_true_eq] at h
    exact (qmt x y).1 h
   refine hQ true _ _ _ ?_ ?_
   ·exact (decide_eq_true hon).symm
   ·subst hΩ
    refine ⟨⟨qcz hon qqS ?_ ?_, ⟨rfl, rfl⟩, trivial⟩, rfl, rfl⟩
    ·show x = x * fI 1
     rw [qam]; grind -lia -linarith -order -ac (splits := 0)
    ·show y = y * fI 1
     rw [qam]; grind -lia -linarith -order -ac (splits := 0)
end Go.Sx.Tryz
end
section

end
section
set_option maxHeartbeats 4000000
namespace Go.Sx.Tryz
open Go.Proofs
set_option maxRecDepth 40000
def quc (Ω : Om) : qe := fun args => match args with
 | [] => ⟨True, Unit, fun _ => True, fun _ => .tup [.ab (.fe (Ω.hide _ fun _ => qqZ)), .ab (.fe (Ω.hide _ fun _ => qq0))]⟩
 | _ => PR.none
def qcN (Ω : Om) : qe := fun args => match args with
 | [] => ⟨True, Unit, fun _ => True, fun _ => .ab (.pt (Ω.hide _ fun _ => pid))⟩
 | _ => PR.none
theorem qgl : Ctr Tryz.prog T glob 49 (qcN Om.real) := by
 refine qo T_ok qg qh (fun Ω => [(120, qdn Ω)]) [] (fun Ω => []) [] (qb qiK qi) qj qk ql Tryz.func49 (by rfl) (by kernel_rfl) Tryz.call49 ?_ ?_
 ·intro args; unfold qcN; split
  ·exact qr (by repeat' constructor) (fun _ _ => rfl) (by repeat' constructor)
  ·exact PR.good_none
 ·intro P Ω hΩ hE hI hm args pr hs hp Q hQ
  unfold qcN at hs
  split at hs <;> subst hs <;> try (exact hp.elim)
  refine ⟨1000, ?_⟩
  cbv
  repeat (constructor; (first | exact fun _ => trivial | exact fun _ _ => (by decide)); intro _ _; cbv)
  refine hQ () _ _ _ trivial ?_
  subst hΩ
  rfl
def qgm (Ω : Om) : qe := fun args => match args with
 | [.ab (.pt P), .ab (.pt Q)] => ⟨True, Unit, fun _ => True, fun _ => .ab (.pt (Ω.hide _ fun _ => padd P Q))⟩
 | _ => PR.none
theorem qq2 : Ctr Tryz.prog T glob 41 (qgm Om.real) := by
 refine qo T_ok qg qh (fun Ω => [(60, qdo Ω)]) [] (fun Ω => []) [] (qb qiL qi) qj qk ql Tryz.func41 (by rfl) (by kernel_rfl) Tryz.call41 ?_ ?_
 ·intro args; unfold qgm; split
  ·exact qr (by repeat' constructor) (fun _ _ => rfl) (by repeat' constructor)
  ·exact PR.good_none
 ·intro P Ω hΩ hE hI hm args pr hs hp Q hQ
  unfold qgm at hs
  split at hs <;> subst hs <;> try (exact hp.elim)
  refine ⟨1000, ?_⟩
  cbv
  repeat (constructor; (first | exact fun _ => trivial | exact fun _ _ => (by decide)); intro _ _; cbv)
  refine hQ () _ _ _ trivial ?_
  subst hΩ
  rfl
def qgn (Ω : Om) : qe := fun args => match args with
 | [.ab (.pt P), .ab (.pt Q)] => ⟨True, Unit, fun _ => True, fun _ => .bs (Ω.hide _ fun _ => decide (P.x * Q.y = P.y * Q.x))⟩
 | _ => PR.none
theorem qq3 : Ctr Tryz.prog T glob 35 (qgn Om.real) := by
 refine qo T_ok qg qh (fun Ω => [(105, qex Ω), (84, qaD Ω), (36, qdk Ω)]) [] (fun Ω => []) [] (qb qmu (qb qa0 (qb qiG qi))) qj qk ql Tryz.func35 (by rfl) (by kernel_rfl) Tryz.call35 ?_ ?_
 ·intro args; unfold qgn; split
  ·exact qr (by repeat' constructor) (fun _ _ => rfl) (by repeat' constructor)
  ·exact PR.good_none
 ·intro P Ω hΩ hE hI hm args pr hs hp Q hQ
  unfold qgn at hs
  split at hs <;> subst hs <;> try (exact hp.elim)
  refine ⟨1000, ?_⟩
  cbv
  repeat (constructor; (first | exact fun _ => trivial | exact fun _ _ => (by decide)); intro _ _; cbv)
  refine hQ () _ _ _ trivial ?_
  subst hΩ
  rfl
end Go.Sx.Tryz
end
section

end
