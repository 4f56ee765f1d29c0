/-
  Part of the proof of a statement: the means.
-/
import Derived.Test.YtpnebmmjpapopaaGreatDoorX8
import Derived.Test.YtpnebmmjpapopaaGreatDoorX5
set_option linter.unusedSectionVars false
set_option linter.unusedVariables false
set_option linter.unusedSimpArgs false
set_option linter.deprecated false
section
set_option maxHeartbeats 4000000
namespace Go.Sx.Tryz
open Go.Proofs
def qbz (Ω : Om) : qe := fun args => match args with
 | [.ab (.fe x)] => ⟨True, Unit, fun _ => True, fun _ => .ab (.fe (Ω.hide _ fun _ => x * x))⟩
 | _ => PR.none
theorem qcB : Ctr Tryz.prog T glob 82 (qbz Om.real) := by
 refine qo T_ok qg qh (fun Ω => [(84, qat Ω)]) [] (fun Ω => []) [] (qb qaG qi) qj qk ql Tryz.func82 (by rfl) (by kernel_rfl) Tryz.call82 ?_ ?_
 ·intro args; unfold qbz; split
  ·exact qq (by repeat' constructor) (fun _ _ => rfl) (by repeat' constructor)
  ·exact PR.good_none
 ·intro P Ω hΩ hE hI hm args pr hs hp Q hQ
  unfold qbz at hs
  split at hs <;> subst hs <;> try (exact hp.elim)
  rename_i x
  refine ⟨1000, ?_⟩
  cbv
  repeat (constructor; (first | exact fun _ => trivial | exact fun _ _ => (by decide)); intro _ _; cbv)
  exact hQ () _ _ _ trivial rfl
def qcb (Ω : Om) : qe := fun args => match args with
 | [.ab (.fe x), .int .i64 n] => ⟨∀ _ : Unit, -9223372036854775808 <= n /\ n < 9223372036854775808, Unit, fun _ => True, fun _ => .ab (.fe (Ω.hide _ fun _ => x * fI n))⟩
 | _ => PR.none
theorem qdJ : Ctr Tryz.prog T glob 83 (qcb Om.real) := by
 refine qo T_ok qg qh (fun Ω => [(84, qat Ω), (76, qbg Ω)]) [] (fun Ω => []) [] (qb qaG (qb qca qi)) qj qk ql Tryz.func83 (by rfl) (by kernel_rfl) Tryz.call83 ?_ ?_
 ·intro args; unfold qcb; split
  ·exact qq (by repeat' constructor) (fun _ _ => rfl) (by repeat' constructor)
  ·exact PR.good_none
 ·intro P Ω hΩ hE hI hm args pr hs hp Q hQ
  unfold qcb at hs
  split at hs <;> subst hs <;> try (exact hp.elim)
  rename_i x n
  have hn := hp ()
  refine ⟨1000, ?_⟩
  cbv
  constructor
  ·exact fun _ _ => hn
  intro _ _
  cbv
  repeat (constructor; (first | exact fun _ => trivial | exact fun _ _ => (by decide)); intro _ _; cbv)
  refine hQ () _ _ _ trivial ?_
  subst hΩ
  rfl
def qeS (Ω : Om) : qe := fun args => match args with
 | [.ab (.fe x), .int .i64 n] => ⟨∀ _ : Unit, 0 <= n /\ n < 9223372036854775808, Unit, fun _ => True, fun _ => .ab (.fe (Ω.hide _ fun _ => pw x (2 ^ n.toNat)))⟩
 | _ => PR.none
theorem qmJ : Ctr Tryz.prog T glob 181 (qeS Om.real) := by
 refine qo T_ok qg qh (fun Ω => [(82, qbz Ω)]) [] (fun Ω => []) [] (qb qcB qi) qj qk ql Tryz.func181 (by rfl) (by kernel_rfl) Tryz.call181 ?_ ?_
 ·intro args; unfold qeS; split
  ·exact qq (by repeat' constructor) (fun _ _ => rfl) (by repeat' constructor)
  ·exact PR.good_none
 ·intro P Ω hΩ hE hI hm args pr hs hp Q hQ
  unfold qeS at hs
  split at hs <;> subst hs <;> try (exact hp.elim)
  rename_i x n
  obtain ⟨n0, n1⟩ := hp ()
  obtain ⟨m, rfl⟩ := Int.eq_ofNat_of_zero_le n0
  have n2 : m < 9223372036854775808 := by omega
  refine ⟨1000, ?_⟩
  cbv
  refine qu hE hI hm (fun z : Nat × Fp => (mkT 12 [(2, .ptr 0 (.l 0)), (4, .ptr 8 (.l 0)), (5, .int .i64 m), (6, .int .i64 z.1)], [(8, .agg [.row .u64 8 [0, 0, 0, 0, 0, 0, 0, 0]]), (0, .ab (.fe z.2))])) (fun z => z.1 <= m /\ z.2 = pw x (2 ^ z.1)) (fun z => m - z.1) 0 ⟨(0, x), [], ⟨Nat.zero_le _, (qdC x).symm⟩, Nat.le_refl _, by cbv; exact ⟨rfl, trivial⟩⟩ fun z hz => ⟨1000, ?_⟩
  obtain ⟨i, y⟩ := z
  obtain ⟨hi, hy⟩ : i <= m /\ y = pw x (2 ^ i) := hz
  cbv
  constructor
  ·intro hc
   cbv
   rw [hΩ] at hc; simp (disch := omega) only [Om.real, qc, decide_eq_true_eq, decide_eq_false_iff_not] at hc
   repeat (constructor; (first | exact fun _ => trivial | exact fun _ _ => (by decide)); intro _ _; cbv)
   obtain ⟨y2, hy2⟩ : ∃ y2, y2 = y * y := ⟨_, rfl⟩
   refine ⟨(i + 1, y2), [], ⟨hc, ?_⟩, by simp only; omega, Nat.zero_le _, ?_⟩
   ·show y2 = pw x (2 ^ (i + 1))
    rw [hy2, hy, Nat.pow_succ, qc0]; simp only [pw]; grind -lia -linarith -order -ac (splits := 0)
   cbv
   subst hΩ
   simp (disch := omega) only [Om.real, qc]
   exact ⟨trivial, by rw [hy2]⟩
  ·intro hc
   cbv
   rw [hΩ] at hc; simp (disch := omega) only [Om.real, qc, decide_eq_true_eq, decide_eq_false_iff_not] at hc
   have e : i = m := by omega
   refine hQ () _ _ _ trivial ?_
   subst hΩ
   show Pay.fe y = Pay.fe (pw x (2 ^ ((m : Int)).toNat))
   rw [hy, e, Int.toNat_natCast]
def qgC (Ω : Om) : qe := fun args => match args with
 | [.ab (.fe x), .int .i64 n, .ab (.fe y)] => ⟨∀ _ : Unit, 0 <= n /\ n < 9223372036854775808, Unit, fun _ => True, fun _ => .ab (.fe (Ω.hide _ fun _ => jn x n y))⟩
 | _ => PR.none
theorem qrk : Ctr Tryz.prog T glob 242 (qgC Om.real) := by
 refine qo T_ok qg qh (fun Ω => [(181, qeS Ω), (84, qat Ω)]) [] (fun Ω => []) [] (qb qmJ (qb qaG qi)) qj qk ql Tryz.func242 (by rfl) (by kernel_rfl) Tryz.call242 ?_ ?_
 ·intro args; unfold qgC; split
  ·exact qq (by repeat' constructor) (fun _ _ => rfl) (by repeat' constructor)
  ·exact PR.good_none
 ·intro P Ω hΩ hE hI hm args pr hs hp Q hQ
  unfold qgC at hs
  split at hs <;> subst hs <;> try (exact hp.elim)
  rename_i x n y
  have hn := hp ()
  refine ⟨1000, ?_⟩
  cbv
  constructor
  ·exact fun _ _ => hn
  intro _ _
  cbv
  repeat (constructor; (first | exact fun _ => trivial | exact fun _ _ => (by decide)); intro _ _; cbv)
  refine hQ () _ _ _ trivial ?_
  subst hΩ
  rfl
def qdK (Ω : Om) : qe := fun args => match args with
 | [.ab (.fe x)] => ⟨True, Unit, fun _ => True, fun _ => .ab (.fe (Ω.hide _ fun _ => qz x))⟩
 | _ => PR.none
theorem qiW : Ctr Tryz.prog T glob 180 (qdK Om.real) := by
 refine qo T_ok qg qh (fun Ω => [(242, qgC Ω)]) [] (fun Ω => []) [] (qb qrk qi) qj qk ql Tryz.func180 (by rfl) (by kernel_rfl) Tryz.call180 ?_ ?_
 ·intro args; unfold qdK; split
  ·exact qq (by repeat' constructor) (fun _ _ => rfl) (by repeat' constructor)
  ·exact PR.good_none
 ·intro P Ω hΩ hE hI hm args pr hs hp Q hQ
  unfold qdK at hs
  split at hs <;> subst hs <;> try (exact hp.elim)
  rename_i x
  refine ⟨1000, ?_⟩
  cbv
  repeat (constructor; (first | exact fun _ => trivial | exact fun _ _ => (by decide)); intro _ _; cbv)
  refine hQ () _ _ _ trivial ?_
  subst hΩ
  exact congrArg Pay.fe (qrf x _ _ _ _ _ _ _ rfl rfl rfl rfl rfl rfl rfl)
def qeT (Ω : Om) : qe := fun args => match args with
 | [.ab (.fe x)] => ⟨True, Unit, fun _ => True, fun _ => .int .i64 (Ω.hide _ fun _ => odd1 x)⟩
 | _ => PR.none
theorem qmK : Ctr Tryz.prog T glob 183 (qeT Om.real) := by
 refine qo T_ok qg qh (fun Ω => [(98, qdH Ω)]) [] (fun Ω => []) [] (qb qiU qi) qj qk ql Tryz.func183 (by rfl) (by kernel_rfl) Tryz.call183 ?_ ?_
 ·intro args; unfold qeT; split
  ·exact qq (by repeat' constructor) (fun _ _ => rfl) (by repeat' constructor)
  ·exact PR.good_none
 ·intro P Ω hΩ hE hI hm args pr hs hp Q hQ
  unfold qeT at hs
  split at hs <;> subst hs <;> try (exact hp.elim)
  rename_i x
  refine ⟨1000, ?_⟩
  cbv
  constructor
  ·exact fun _ => trivial
  intro z hz
  have hz : z.1 = qO x /\ z.1.length <= z.2 := by subst hΩ; exact hz
  have hl : z.1.length = 56 := by rw [hz.1, qby]
  cbv
  constructor
  ·intro _; subst hΩ; show 0 < z.1.length; omega
  constructor
  ·exact fun _ => (show 0 + 1 <= z.1.length by omega)
  refine hQ () _ _ _ trivial ⟨rfl, ?_⟩
  subst hΩ
  show IntKind.i64.wrap (binL .and .u8 (z.1.getD 0 0) 1) = odd1 x
  rw [hz.1, qrg, qrh _ (Nat.mod_lt _ (by decide)), IntKind.wrap_i64]
  unfold odd1
  omega
def qgD (Ω : Om) : qe := fun args => match args with
 | [.ab (.fe x)] => ⟨True, Unit, fun _ => True, fun _ => .bs (Ω.hide _ fun _ => decide (x.val % 2 = 1))⟩
 | _ => PR.none
theorem qrl : Ctr Tryz.prog T glob 119 (qgD Om.real) := by
 refine qo T_ok qg qh (fun Ω => [(183, qeT Ω)]) [] (fun Ω => []) [] (qb qmK qi) qj qk ql Tryz.func119 (by rfl) (by kernel_rfl) Tryz.call119 ?_ ?_
 ·intro args; unfold qgD; split
  ·exact qq (by repeat' constructor) (fun _ _ => rfl) (by repeat' constructor)
  ·exact PR.good_none
 ·intro P Ω hΩ hE hI hm args pr hs hp Q hQ
  unfold qgD at hs
  split at hs <;> subst hs <;> try (exact hp.elim)
  rename_i x
  refine ⟨1000, ?_⟩
  cbv
  repeat (constructor; (first | exact fun _ => trivial | exact fun _ _ => (by decide)); intro _ _; cbv)
  refine hQ () _ _ _ trivial ?_
  subst hΩ
  show (odd1 x == (1 : Int)) = decide (x.val % 2 = 1)
  rw [Bool.beq_eq_decide_eq]
  congr 1
  unfold odd1
  exact propext (by omega)
def qcC (Ω : Om) : qe := fun args => match args with
 | [.ab (.fe x)] => ⟨True, Unit, fun _ => True, fun _ => .ab (.fe (Ω.hide _ fun _ => fabs x))⟩
 | _ => PR.none
theorem qeU : Ctr Tryz.prog T glob 89 (qcC Om.real) := by
 refine qo T_ok qg qh (fun Ω => [(183, qeT Ω), (81, qc8 Ω), (182, qdF Ω)]) [] (fun Ω => []) [] (qb qmK (qb qgz (qb qiR qi))) qj qk ql Tryz.func89 (by rfl) (by kernel_rfl) Tryz.call89 ?_ ?_
 ·intro args; unfold qcC; split
  ·exact qq (by repeat' constructor) (fun _ _ => rfl) (by repeat' constructor)
  ·exact PR.good_none
 ·intro P Ω hΩ hE hI hm args pr hs hp Q hQ
  unfold qcC at hs
  split at hs <;> subst hs <;> try (exact hp.elim)
  rename_i x
  refine ⟨1000, ?_⟩
  cbv
  repeat (constructor; (first | exact fun _ => trivial | exact fun _ _ => (by decide)); intro _ _; cbv)
  refine hQ () _ _ _ trivial ?_
  subst hΩ
  exact congrArg Pay.fe (qri x)
def qdL (Ω : Om) : qe := fun args => match args with
 | [.ab (.fe x)] => ⟨True, Unit, fun _ => True, fun _ => .ab (.fe (Ω.hide _ fun _ => finv x))⟩
 | _ => PR.none
theorem qiX : Ctr Tryz.prog T glob 87 (qdL Om.real) := by
 refine qo T_ok qg qh (fun Ω => [(180, qdK Ω), (181, qeS Ω), (84, qat Ω)]) [] (fun Ω => []) [] (qb qiW (qb qmJ (qb qaG qi))) qj qk ql Tryz.func87 (by rfl) (by kernel_rfl) Tryz.call87 ?_ ?_
 ·intro args; unfold qdL; split
  ·exact qq (by repeat' constructor) (fun _ _ => rfl) (by repeat' constructor)
  ·exact PR.good_none
 ·intro P Ω hΩ hE hI hm args pr hs hp Q hQ
  unfold qdL at hs
  split at hs <;> subst hs <;> try (exact hp.elim)
  rename_i x
  refine ⟨1000, ?_⟩
  cbv
  repeat (constructor; (first | exact fun _ => trivial | exact fun _ _ => (by decide)); intro _ _; cbv)
  refine hQ () _ _ _ trivial ?_
  subst hΩ
  exact congrArg Pay.fe (qrj x)
def qdM (Ω : Om) : qe := fun args => match args with
 | [.ab (.fe u), .ab (.fe v)] => ⟨True, Unit, fun _ => True, fun _ => .tup [.ab (.fe (Ω.hide _ fun _ => fabs (u * qz (u * v)))), .bs (Ω.hide _ fun _ => decide (v * (u * qz (u * v) * (u * qz (u * v))) = u))]⟩
 | _ => PR.none
theorem qiY : Ctr Tryz.prog T glob 85 (qdM Om.real) := by
 refine qo T_ok qg qh (fun Ω => [(180, qdK Ω), (89, qcC Ω), (84, qat Ω), (82, qbz Ω), (36, qcA Ω)]) [] (fun Ω => []) [] (qb qiW (qb qeU (qb qaG (qb qcB (qb qeP qi))))) qj qk ql Tryz.func85 (by rfl) (by kernel_rfl) Tryz.call85 ?_ ?_
 ·intro args; unfold qdM; split
  ·exact qq (by repeat' constructor) (fun _ _ => rfl) (by repeat' constructor)
  ·exact PR.good_none
 ·intro P Ω hΩ hE hI hm args pr hs hp Q hQ
  unfold qdM at hs
  split at hs <;> subst hs <;> try (exact hp.elim)
  rename_i u v
  refine ⟨1000, ?_⟩
  cbv
  repeat (constructor; (first | exact fun _ => trivial | exact fun _ _ => (by decide)); intro _ _; cbv)
  refine hQ () _ _ _ trivial ?_
  subst hΩ
  exact ⟨⟨rfl, rfl, trivial⟩, rfl, rfl⟩
def qgE (Ω : Om) : qe := fun args => match args with
 | [.ab (.fe a)] => ⟨True, Bool, fun z => z = decide (a * qz a * (a * qz a) = a), fun z => match z with | true => .tup [.ab (.fe (Ω.hide _ fun _ => fabs (a * qz a))), .lit .i64 0] | false => .tup [.row .u64 8 [0, 0, 0, 0, 0, 0, 0, 0], .lit .i64 17]⟩
 | _ => PR.none
theorem qrm : Ctr Tryz.prog T glob 195 (qgE Om.real) := by
 refine qo T_ok qg qh (fun Ω => [(180, qdK Ω), (89, qcC Ω), (84, qat Ω), (82, qbz Ω), (36, qcA Ω)]) [] (fun Ω => []) [] (qb qiW (qb qeU (qb qaG (qb qcB (qb qeP qi))))) qj qk ql Tryz.func195 (by rfl) (by kernel_rfl) Tryz.call195 ?_ ?_
 ·intro args; unfold qgE; split
  ·exact qbf ⟨fun x => by cases x <;> repeat' (first | exact trivial | constructor), fun E x b => by cases x <;> rfl⟩ ⟨trivial, trivial⟩ (fun _ => ⟨_, rfl⟩)
  ·exact PR.good_none
 ·intro P Ω hΩ hE hI hm args pr hs hp Q hQ
  unfold qgE at hs
  split at hs <;> subst hs <;> try (exact hp.elim)
  rename_i a
  refine ⟨1000, ?_⟩
  cbv
  repeat (constructor; (first | exact fun _ => trivial | exact fun _ _ => (by decide)); intro _ _; cbv)
  constructor
  ·intro hc
   cbv
   refine hQ false _ _ _ ?_ ?_
   ·subst hΩ
    have h : (!decide (a * qz a * (a * qz a) = a)) = true := hc
    show false = decide (a * qz a * (a * qz a) = a)
    rw [Bool.not_eq_true'] at h; exact h.symm
   ·exact ⟨⟨⟨rfl, rfl, rfl⟩, ⟨rfl, rfl⟩, trivial⟩, rfl, rfl⟩
  ·intro hc
   cbv
   repeat (constructor; (first | exact fun _ => trivial | exact fun _ _ => (by decide)); intro _ _; cbv)
   refine hQ true _ _ _ ?_ ?_
   ·subst hΩ
    have h : (!decide (a * qz a * (a * qz a) = a)) = false := hc
    show true = decide (a * qz a * (a * qz a) = a)
    rw [Bool.not_eq_false'] at h; exact h.symm
   ·subst hΩ
    exact ⟨⟨rfl, ⟨rfl, rfl⟩, trivial⟩, rfl, rfl⟩
end Go.Sx.Tryz
end
section
set_option maxHeartbeats 4000000
namespace Go.Sx.Tryz
open Go.Proofs
def qdN (Ω : Om) : qe := fun args => match args with
 | [] => ⟨True, Unit, fun _ => True, fun _ => .ab (.pt (Ω.hide _ fun _ => pid))⟩
 | _ => PR.none
theorem qi0 : Ctr Tryz.prog T glob 120 (qdN Om.real) := by
 refine qo T_ok qg qh (fun Ω => [(76, qbg Ω)]) [] (fun Ω => []) [] (qb qca qi) qj qk ql Tryz.func120 (by rfl) (by kernel_rfl) Tryz.call120 ?_ ?_
 ·intro args; unfold qdN; split
  ·exact qq (by repeat' constructor) (fun _ _ => rfl) (by repeat' constructor)
  ·exact PR.good_none
 ·intro P Ω hΩ hE hI hm args pr hs hp Q hQ
  unfold qdN at hs
  split at hs <;> subst hs <;> try (exact hp.elim)
  refine ⟨1000, ?_⟩
  cbv
  repeat (constructor; (first | exact fun _ => trivial | exact fun _ _ => (by decide)); intro _ _; cbv)
  refine hQ () _ _ _ trivial ?_
  subst hΩ
  exact qcX qeV qbK (by decide +kernel) (by decide +kernel)
def qgG (Ω : Om) : qe := fun args => match args with
 | [.ab (.fe a), .rop (.ab (.fe o)) (.l 0)] => ⟨True, Unit, fun _ => True, fun _ => .ab (.fe (Ω.hide _ fun _ => a * o))⟩
 | _ => PR.none
theorem qrz : Ctr Tryz.prog T glob 192 (qgG Om.real) := by
 refine qo T_ok qg qh (fun Ω => [(84, qat Ω)]) [] (fun Ω => []) [] (qb qaG qi) qj qk ql Tryz.func192 (by rfl) (by kernel_rfl) Tryz.call192 ?_ ?_
 ·intro args; unfold qgG; split
  ·exact qq (by repeat' constructor) (fun _ _ => rfl) (by repeat' constructor)
  ·exact PR.good_none
 ·intro P Ω hΩ hE hI hm args pr hs hp Q hQ
  unfold qgG at hs
  split at hs <;> subst hs <;> try (exact hp.elim)
  rename_i a o
  refine ⟨1000, ?_⟩
  cbv
  repeat (constructor; (first | exact fun _ => trivial | exact fun _ _ => (by decide)); intro _ _; cbv)
  exact hQ () _ _ _ trivial rfl
def qdO (Ω : Om) : qe := fun args => match args with
 | [.ab (.pt P)] => ⟨True, Unit, fun _ => True, fun _ => .tup [.ab (.fe (Ω.hide _ fun _ => P.x)), .ab (.fe (Ω.hide _ fun _ => P.y))]⟩
 | _ => PR.none
theorem qi1 : Ctr Tryz.prog T glob 105 (qdO Om.real) := by
 refine qaQ T_ok qg qh (fun Ω => [(87, qdL Ω), (192, qgG Ω)]) [] (fun Ω => []) [] (qb qiX (qb qrz qi)) qj qk ql Tryz.func105 (by rfl) (by kernel_rfl) Tryz.call105 ?_ ?_
 ·intro args; unfold qdO; split
  ·exact qq (by repeat' constructor) (fun _ _ => rfl) (by repeat' constructor)
  ·exact PR.good_none
 ·intro P Ω hΩ hE hI hm args pr hs hp cs hcs Q hQ
  unfold qdO at hs
  split at hs <;> subst hs <;> try (exact hp.elim)
  rename_i P
  obtain ⟨_, _, rfl, ⟨X, Y, Z, rfl, hP, hz, hx, hy⟩, rfl⟩ := hcs
  refine ⟨1000, ?_⟩
  cbv
  repeat (constructor; (first | exact fun _ => trivial | exact fun _ _ => (by decide)); intro _ _; cbv)
  refine hQ () _ _ _ trivial ?_
  subst hΩ
  exact ⟨⟨congrArg Pay.fe (qmM hz hx), congrArg Pay.fe (qmM hz hy), trivial⟩, rfl, rfl⟩
def qdP (Ω : Om) : qe := fun args => match args with
 | [.ab (.pt P), .ab (.pt Q)] => ⟨True, Unit, fun _ => True, fun _ => .ab (.pt (Ω.hide _ fun _ => padd P Q))⟩
 | _ => PR.none
theorem qi2 : Ctr Tryz.prog T glob 60 (qdP Om.real) := by
 refine qaQ T_ok qg qh (fun Ω => [(84, qat Ω), (82, qbz Ω), (83, qcb Ω), (80, qbM Ω), (78, qbL Ω)]) [] (fun Ω => []) [] (qb qaG (qb qcB (qb qdJ (qb qc7 (qb qc6 qi))))) qj qk ql Tryz.func60 (by rfl) (by kernel_rfl) Tryz.call60 ?_ ?_
 ·intro args; unfold qdP; split
  ·exact qq (by repeat' constructor) (fun _ _ => rfl) (by repeat' constructor)
  ·exact PR.good_none
 ·intro P Ω hΩ hE hI hm args pr hs hp cs hcs Q hQ
  unfold qdP at hs
  split at hs <;> subst hs <;> try (exact hp.elim)
  rename_i P R
  obtain ⟨_, _, rfl, ⟨X1, Y1, Z1, rfl, hP, z1, x1, y1⟩, _, _, rfl, ⟨X2, Y2, Z2, rfl, hR, z2, x2, y2⟩, rfl⟩ := hcs
  refine ⟨1000, ?_⟩
  cbv
  repeat (constructor; (first | exact fun _ => trivial | exact fun _ _ => (by decide)); intro _ _; cbv)
  refine hQ () _ _ _ trivial ?_
  subst hΩ
  have h := qrw hP hR z1 x1 y1 z2 x2 y2
  rw [<- fI_d] at h
  exact qcX (qaS hP hR) h.1 h.2.1 h.2.2
def qgH (Ω : Om) : qe := fun args => match args with
 | [.ab (.pt P)] => ⟨True, Unit, fun _ => True, fun _ => .ab (.pt (Ω.hide _ fun _ => padd P P))⟩
 | _ => PR.none
theorem qrA : Ctr Tryz.prog T glob 145 (qgH Om.real) := by
 refine qaQ T_ok qg qh (fun Ω => [(84, qat Ω), (82, qbz Ω), (83, qcb Ω), (80, qbM Ω), (78, qbL Ω)]) [] (fun Ω => []) [] (qb qaG (qb qcB (qb qdJ (qb qc7 (qb qc6 qi))))) qj qk ql Tryz.func145 (by rfl) (by kernel_rfl) Tryz.call145 ?_ ?_
 ·intro args; unfold qgH; split
  ·exact qq (by repeat' constructor) (fun _ _ => rfl) (by repeat' constructor)
  ·exact PR.good_none
 ·intro P Ω hΩ hE hI hm args pr hs hp cs hcs Q hQ
  unfold qgH at hs
  split at hs <;> subst hs <;> try (exact hp.elim)
  rename_i P
  obtain ⟨_, _, rfl, ⟨X, Y, Z, rfl, hP, hz, hx, hy⟩, rfl⟩ := hcs
  refine ⟨1000, ?_⟩
  cbv
  repeat (constructor; (first | exact fun _ => trivial | exact fun _ _ => (by decide)); intro _ _; cbv)
  refine hQ () _ _ _ trivial ?_
  subst hΩ
  have h := qrx hP hz hx hy
  rw [<- fI_2] at h
  exact qcX (qaS hP hP) h.1 h.2.1 h.2.2
def qgI (Ω : Om) : qe := fun args => match args with
 | [.ab (.pt P)] => ⟨True, Unit, fun _ => True, fun _ => .ab (.pt (Ω.hide _ fun _ => pneg P))⟩
 | _ => PR.none
theorem qrB : Ctr Tryz.prog T glob 136 (qgI Om.real) := by
 refine qaQ T_ok qg qh (fun Ω => [(81, qc8 Ω)]) [] (fun Ω => []) [] (qb qgz qi) qj qk ql Tryz.func136 (by rfl) (by kernel_rfl) Tryz.call136 ?_ ?_
 ·intro args; unfold qgI; split
  ·exact qq (by repeat' constructor) (fun _ _ => rfl) (by repeat' constructor)
  ·exact PR.good_none
 ·intro P Ω hΩ hE hI hm args pr hs hp cs hcs Q hQ
  unfold qgI at hs
  split at hs <;> subst hs <;> try (exact hp.elim)
  rename_i P
  obtain ⟨_, _, rfl, ⟨X, Y, Z, rfl, hP, hz, hx, hy⟩, rfl⟩ := hcs
  refine ⟨1000, ?_⟩
  cbv
  repeat (constructor; (first | exact fun _ => trivial | exact fun _ _ => (by decide)); intro _ _; cbv)
  refine hQ () _ _ _ trivial ?_
  subst hΩ
  exact qcX (qbj hP) hz (by show -X = -P.x * Z; rw [hx]; grind -lia -linarith -order -ac (splits := 0)) hy
def qgJ (Ω : Om) : qe := fun args => match args with
 | [.agg [.int .i64 b], .ab (.fe x), .ab (.fe y)] => ⟨True, Unit, fun _ => True, fun _ => .ab (.fe (Ω.hide _ fun _ => if b % 2 = 0 then x else y))⟩
 | _ => PR.none
theorem qrC : Ctr Tryz.prog T glob 224 (qgJ Om.real) := by
 refine qo T_ok qg qh (fun Ω => [(182, qdF Ω)]) [] (fun Ω => []) [] (qb qiR qi) qj qk ql Tryz.func224 (by rfl) (by kernel_rfl) Tryz.call224 ?_ ?_
 ·intro args; unfold qgJ; split
  ·exact qq (by repeat' constructor) (fun _ _ => rfl) (by repeat' constructor)
  ·exact PR.good_none
 ·intro P Ω hΩ hE hI hm args pr hs hp Q hQ
  unfold qgJ at hs
  split at hs <;> subst hs <;> try (exact hp.elim)
  rename_i b x y
  refine ⟨1000, ?_⟩
  cbv
  repeat (constructor; (first | exact fun _ => trivial | exact fun _ _ => (by decide)); intro _ _; cbv)
  exact hQ () _ _ _ trivial rfl
def qeX (Ω : Om) : qe := fun args => match args with
 | [.int .i64 b, .ab (.pt P), .ab (.pt Q)] => ⟨True, Unit, fun _ => True, fun _ => .ab (.pt (Ω.hide _ fun _ => if b % 2 = 0 then P else Q))⟩
 | _ => PR.none
theorem qmO : Ctr Tryz.prog T glob 147 (qeX Om.real) := by
 refine qaQ T_ok qg qh (fun Ω => [(224, qgJ Ω)]) [] (fun Ω => []) [] (qb qrC qi) qj qk ql Tryz.func147 (by rfl) (by kernel_rfl) Tryz.call147 ?_ ?_
 ·intro args; unfold qeX; split
  ·exact qq (by repeat' constructor) (fun _ _ => rfl) (by repeat' constructor)
  ·exact PR.good_none
 ·intro P Ω hΩ hE hI hm args pr hs hp cs hcs Q hQ
  unfold qeX at hs
  split at hs <;> subst hs <;> try (exact hp.elim)
  rename_i b P R
  obtain ⟨_, _, rfl, rfl, _, _, rfl, ⟨X1, Y1, Z1, rfl, hP, z1, x1, y1⟩, _, _, rfl, ⟨X2, Y2, Z2, rfl, hR, z2, x2, y2⟩, rfl⟩ := hcs
  refine ⟨1000, ?_⟩
  cbv
  repeat (constructor; (first | exact fun _ => trivial | exact fun _ _ => (by decide)); intro _ _; cbv)
  refine hQ () _ _ _ trivial ?_
  subst hΩ
  by_cases hb : b % 2 = 0
  ·simp only [Om.real, if_pos hb]
   exact qcX hP z1 x1 y1
  ·simp only [Om.real, if_neg hb]
   exact qcX hR z2 x2 y2
def qeY (Ω : Om) : qe := fun args => match args with
 | [.ab (.fe x), .ab (.fe y)] => ⟨True, Bool, fun z => z = decide (AP.on ⟨x, y⟩), fun z => match z with | true => .tup [.ab (.pt (Ω.hide _ fun _ => ⟨x, y⟩)), .lit .i64 0] | false => .tup [.agg [.agg [.row .u64 8 [0, 0, 0, 0, 0, 0, 0, 0]], .agg [.row .u64 8 [0, 0, 0, 0, 0, 0, 0, 0]], .agg [.row .u64 8 [0, 0, 0, 0, 0, 0, 0, 0]]], .lit .i64 13]⟩
 | _ => PR.none
theorem qmP : Ctr Tryz.prog T glob 102 (qeY Om.real) := by
 refine qo T_ok qg qh (fun Ω => [(82, qbz Ω), (78, qbL Ω), (76, qbg Ω), (84, qat Ω), (83, qcb Ω), (36, qcA Ω)]) [] (fun Ω => []) [] (qb qcB (qb qc6 (qb qca (qb qaG (qb qdJ (qb qeP qi)))))) qj qk ql Tryz.func102 (by rfl) (by kernel_rfl) Tryz.call102 ?_ ?_
 ·intro args; unfold qeY; split
  ·exact qbf ⟨fun x => by cases x <;> repeat' (first | exact trivial | constructor), fun E x b => by cases x <;> rfl⟩ (by repeat' (first | exact trivial | constructor)) (fun _ => ⟨_, rfl⟩)
  ·exact PR.good_none
 ·intro P Ω hΩ hE hI hm args pr hs hp Q hQ
  unfold qeY at hs
  split at hs <;> subst hs <;> try (exact hp.elim)
  rename_i x y
  refine ⟨1000, ?_⟩
  cbv
  repeat (constructor; (first | exact fun _ => trivial | exact fun _ _ => (by decide)); intro _ _; cbv)
  constructor
  ·intro hc
   cbv
   refine hQ false _ _ _ ?_ ?_
   ·subst hΩ
    have h : (!decide (x * x + y * y = fI 1 + x * x * (y * y) * fI (-39081))) = true := hc
    show false = decide (AP.on ⟨x, y⟩)
    rw [Bool.not_eq_true'] at h
    rw [<- h]; congr 1; exact propext (qmN x y)
   ·exact ⟨⟨⟨⟨⟨rfl, rfl, rfl⟩, trivial⟩, ⟨⟨rfl, rfl, rfl⟩, trivial⟩, ⟨⟨rfl, rfl, rfl⟩, trivial⟩, trivial⟩, ⟨rfl, rfl⟩, trivial⟩, rfl, rfl⟩
  ·intro hc
   cbv
   repeat (constructor; (first | exact fun _ => trivial | exact fun _ _ => (by decide)); intro _ _; cbv)
   have hon : AP.on ⟨x, y⟩ := by
    subst hΩ
    have h : (!decide (x * x + y * y = fI 1 + x * x * (y * y) * fI (-39081))) = false := hc
    rw [Bool.not_eq_false', decide_eq_true_eq] at h
    exact (qmN x y).1 h
   refine hQ true _ _ _ ?_ ?_
   ·exact (decide_eq_true hon).symm
   ·subst hΩ
    refine ⟨⟨qcX hon qry ?_ ?_, ⟨rfl, rfl⟩, trivial⟩, rfl, rfl⟩
    ·show x = x * fI 1
     rw [qZ]; grind -lia -linarith -order -ac (splits := 0)
    ·show y = y * fI 1
     rw [qZ]; grind -lia -linarith -order -ac (splits := 0)
end Go.Sx.Tryz
end
section
set_option maxHeartbeats 4000000
namespace Go.Sx.Tryz
open Go.Proofs
def qgL (Ω : Om) : qe := fun args => match args with
 | [.roi .u8 xs, .roi .u8 ys] => ⟨∀ _ : Unit, xs.length < 9223372036854775808 /\ ys.length < 9223372036854775808, Unit, fun _ => True, fun _ => .bs (Ω.hide _ fun _ => xs == ys)⟩
 | _ => PR.none
theorem qrD : Ctr Tryz.prog T glob 200 (qgL Om.real) := by
 refine qo T_ok qg qh (fun Ω => []) [] (fun Ω => []) [] qi qj qk ql Tryz.func200 (by rfl) (by kernel_rfl) Tryz.call200 ?_ ?_
 ·intro args; unfold qgL; split
  ·exact qq (by repeat' constructor) (fun _ _ => rfl) (by repeat' constructor)
  ·exact PR.good_none
 ·intro P Ω hΩ hE hI hm args pr hs hp Q hQ
  unfold qgL at hs
  split at hs <;> subst hs <;> try (exact hp.elim)
  rename_i xs ys
  obtain ⟨lx, ly⟩ := hp ()
  refine ⟨1000, ?_⟩
  cbv
  constructor
  ·intro hb
   cbv
   rw [hΩ] at hb; simp (disch := omega) only [Om.real, qc, decide_eq_true_eq, decide_eq_false_iff_not] at hb
   refine hQ () _ _ _ trivial ?_
   subst hΩ
   show false = (xs == ys)
   cases h3 : xs == ys with
   | false => rfl
   | true => exact absurd (congrArg List.length (eq_of_beq h3)) hb
  ·intro hb
   cbv
   rw [hΩ] at hb; simp (disch := omega) only [Om.real, qc, decide_eq_true_eq, decide_eq_false_iff_not] at hb
   have hlen : xs.length = ys.length := by omega
   refine qu hE hI hm (fun i : Nat => (mkT 26 [(0, .roi .u8 xs), (1, .roi .u8 ys), (12, .int .i64 (Ω.ofN (Ω.len xs))), (13, .int .i64 i)], [])) (fun i => i <= xs.length /\ xs.take i = ys.take i) (fun i => xs.length - i) 0 ⟨0, [], ⟨Nat.zero_le _, rfl⟩, Nat.le_refl _, by cbv⟩ fun i hi => ⟨1000, ?_⟩
   cbv
   constructor
   ·intro hc
    cbv
    rw [hΩ] at hc; simp (disch := omega) only [Om.real, qc, decide_eq_true_eq, decide_eq_false_iff_not] at hc
    repeat (refine ⟨by ((try intro _); (try subst hΩ); simp (disch := omega) only [Om.real, qc, SN.v]; omega), ?_⟩)
    constructor
    ·intro hne
     cbv
     refine hQ () _ _ _ trivial ?_
     subst hΩ
     have h1 : (xs.getD i 0 != ys.getD i 0) = true := hne
     show false = (xs == ys)
     cases h3 : xs == ys with
     | false => rfl
     | true => rw [eq_of_beq h3] at h1; simp at h1
    ·intro hne
     cbv
     refine ⟨i + 1, [], ⟨hc, ?_⟩, by omega, Nat.zero_le _, ?_⟩
     ·subst hΩ
      have h1 : (xs.getD i 0 != ys.getD i 0) = false := hne
      rw [bne_eq_false_iff_eq] at h1
      rw [List.take_succ_eq_append_getElem hc, List.take_succ_eq_append_getElem (by omega), hi.2]
      have e1 : xs.getD i 0 = xs[i] := by simp [List.getD, hc]
      have e2 : ys.getD i 0 = ys[i]'(by omega) := by simp [List.getD, show i < ys.length by omega]
      rw [<- e1, <- e2, h1]
     ·cbv
      subst hΩ
      simp (disch := omega) only [Om.real, qc]
   ·intro hc
    cbv
    rw [hΩ] at hc; simp (disch := omega) only [Om.real, qc, decide_eq_true_eq, decide_eq_false_iff_not] at hc
    refine hQ () _ _ _ trivial ?_
    have : i = xs.length := by have := hi.1; omega
    subst this
    have h2 := hi.2
    rw [List.take_length, hlen, List.take_length] at h2
    subst hΩ
    show true = (xs == ys)
    rw [h2]
    simp
def qeZ (Ω : Om) : qe := fun args => match args with
 | [.roa (.fe xs)] => ⟨∀ _ : Unit, xs.length < 9223372036854775808, Unit, fun _ => True, fun _ => .ab (.fe (Ω.hide _ fun _ => qA xs))⟩
 | _ => PR.none
theorem qmU : Ctr Tryz.prog T glob 110 (qeZ Om.real) := by
 refine qo T_ok qg qh (fun Ω => [(84, qat Ω), (76, qbg Ω)]) [] (fun Ω => []) [] (qb qaG (qb qca qi)) qj qk ql Tryz.func110 (by rfl) (by kernel_rfl) Tryz.call110 ?_ ?_
 ·intro args; unfold qeZ; split
  ·exact qq (by repeat' constructor) (fun _ _ => rfl) (by repeat' constructor)
  ·exact PR.good_none
 ·intro P Ω hΩ hE hI hm args pr hs hp Q hQ
  unfold qeZ at hs
  split at hs <;> subst hs <;> try (exact hp.elim)
  rename_i xs
  have hx := hp ()
  refine ⟨1000, ?_⟩
  cbv
  repeat (constructor; (first | exact fun _ => trivial | exact fun _ _ => (by decide)); intro _ _; cbv)
  obtain ⟨L, hL⟩ : ∃ L, L = xs.length := ⟨_, rfl⟩
  obtain ⟨one, hone⟩ : ∃ one, one = fI 1 := ⟨_, rfl⟩
  have hlo : Ω.hide Nat (fun _ => xs.length) = L := by subst hΩ; exact hL.symm
  rw [<- hL] at hx
  refine qu hE hI hm (fun z : Nat × Fp => (mkT 18 [(2, .ptr 0 (.l 0)), (3, .ptr 16 (.l 0)), (7, .roa (.fe xs)), (8, .int .i64 L), (9, .int .i64 z.1)], [(16, .ab (.fe z.2)), (0, .agg [.row .u64 8 [0, 0, 0, 0, 0, 0, 0, 0]])])) (fun z => z.1 <= L /\ z.2 = qA (xs.take z.1)) (fun z => L - z.1) 0 ⟨(0, one), [], ⟨Nat.zero_le _, hone⟩, Nat.le_refl _, ?_⟩ fun z hz => ⟨1000, ?_⟩
  ·cbv
   subst hΩ
   exact ⟨congrArg Int.ofNat hL.symm, rfl, congrArg Pay.fe hone.symm, trivial⟩
  obtain ⟨i, y⟩ := z
  obtain ⟨hi, hy⟩ : i <= L /\ y = qA (xs.take i) := hz
  cbv
  constructor
  ·intro hc
   cbv
   rw [hΩ] at hc; simp (disch := omega) only [Om.real, qc, decide_eq_true_eq, decide_eq_false_iff_not] at hc
   constructor
   ·intro _
    refine ⟨Int.natCast_nonneg _, ?_⟩
    show (i : Int) < ((Ω.hide Nat (fun _ => xs.length) : Nat) : Int)
    rw [hlo]; omega
   constructor
   ·intro _
    subst hΩ
    show i < xs.length; omega
   repeat (constructor; (first | exact fun _ => trivial | exact fun _ _ => (by decide)); intro _ _; cbv)
   obtain ⟨y2, hy2⟩ : ∃ y2, y2 = y * xs.getD i 0 := ⟨_, rfl⟩
   refine ⟨(i + 1, y2), [], ⟨hc, ?_⟩, by simp only; omega, Nat.zero_le _, ?_⟩
   ·show y2 = qA (xs.take (i + 1))
    rw [hy2, hy]
    exact qmQ xs i (by omega)
   cbv
   subst hΩ
   simp (disch := omega) only [Om.real, qc]
   exact ⟨trivial, ⟨by rw [hy2], trivial⟩⟩
  ·intro hc
   cbv
   rw [hΩ] at hc; simp (disch := omega) only [Om.real, qc, decide_eq_true_eq, decide_eq_false_iff_not] at hc
   have e : i = xs.length := by omega
   refine hQ () _ _ _ trivial ?_
   subst hΩ
   show Pay.fe y = Pay.fe (qA xs)
   rw [hy, e, List.take_length]
def qgM (Ω : Om) : qe := fun args => match args with
 | [.roi .u8 bs] => ⟨∀ _ : Unit, (∀ a ∈ bs, 0 <= a /\ a < 256) /\ bs.length < 9223372036854775808, Bool, fun z => z = (decide (bs.length = 56 /\ qd bs < 726838724295606890549323807888004534353641360687318060281490199180612328166730772686396383698676545930088884461843637361053498018365439)), fun z => match z with | true => .tup [.ab (.fe (Ω.hide _ fun _ => fI (qd bs))), .lit .i64 0] | false => .tup [.row .u64 8 [0, 0, 0, 0, 0, 0, 0, 0], .int .i64 (Ω.hide _ fun _ => if bs.length = 56 then 12 else 11)]⟩
 | _ => PR.none
theorem qrE : Ctr Tryz.prog T glob 118 (qgM Om.real) := by
 refine qo T_ok qg qh (fun Ω => [(75, qeM Ω), (98, qdH Ω), (200, qgL Ω)]) [] (fun Ω => []) [] (qb qmt (qb qiU (qb qrD qi))) qj qk ql Tryz.func118 (by rfl) (by kernel_rfl) Tryz.call118 ?_ ?_
 ·intro args; unfold qgM; split
  ·exact qbf ⟨fun x => by cases x <;> repeat' (first | exact trivial | constructor), fun E x b => by cases x <;> rfl⟩ (by repeat' (first | exact trivial | constructor)) (fun _ => ⟨_, rfl⟩)
  ·exact PR.good_none
 ·intro P Ω hΩ hE hI hm args pr hs hp Q hQ
  unfold qgM at hs
  split at hs <;> subst hs <;> try (exact hp.elim)
  rename_i bs
  obtain ⟨hb, hl⟩ := hp ()
  refine ⟨1000, ?_⟩
  cbv
  constructor
  ·exact fun _ _ => hb
  intro z hz
  have hz : z = (bs.length == 56) := hz
  cases z with
  | false =>
    have hl56 : ¬ bs.length = 56 := fun h => by rw [h] at hz; exact Bool.noConfusion hz
    cbv
    refine hQ false _ _ _ ?_ ?_
    · show false = decide _
      exact (decide_eq_false (fun h => hl56 h.1)).symm
    · subst hΩ
      refine ⟨⟨⟨rfl, rfl, rfl⟩, ⟨rfl, ?_⟩, trivial⟩, rfl, rfl⟩
      exact (if_neg hl56).symm
  | true =>
    have hl56 : bs.length = 56 := eq_of_beq hz.symm
    cbv
    constructor
    · exact fun _ => trivial
    intro w hw
    have hw : w.1 = qO (fI (qd bs)) /\ w.1.length <= w.2 := by subst hΩ; exact hw
    have hwl : w.1.length = 56 := by rw [hw.1, qby]
    cbv
    constructor
    · exact fun _ => ⟨(by subst hΩ; show 0 + w.1.length <= w.1.length; omega), trivial, trivial⟩
    constructor
    · intro _ _
      subst hΩ
      exact ⟨by show ((w.1.drop 0).take w.1.length).length < _; rw [List.drop_zero, List.take_length]; omega, hl⟩
    intro _ _
    cbv
    constructor
    · intro hc
      cbv
      have hne : ¬ qd bs < 726838724295606890549323807888004534353641360687318060281490199180612328166730772686396383698676545930088884461843637361053498018365439 := by
        subst hΩ
        have h : (!((w.1.drop 0).take w.1.length == bs)) = true := hc
        rw [List.drop_zero, List.take_length, hw.1, Bool.not_eq_true'] at h
        intro hlt
        rw [(qmT hl56 hb).2 hlt] at h
        simp at h
      refine hQ false _ _ _ ?_ ?_
      · show false = decide _
        exact (decide_eq_false (fun h => hne h.2)).symm
      · subst hΩ
        refine ⟨⟨⟨rfl, rfl, rfl⟩, ⟨rfl, ?_⟩, trivial⟩, rfl, rfl⟩
        exact (if_pos hl56).symm
    · intro hc
      cbv
      have hlt : qd bs < 726838724295606890549323807888004534353641360687318060281490199180612328166730772686396383698676545930088884461843637361053498018365439 := by
        subst hΩ
        have h : (!((w.1.drop 0).take w.1.length == bs)) = false := hc
        rw [List.drop_zero, List.take_length, hw.1, Bool.not_eq_false'] at h
        exact (qmT hl56 hb).1 (eq_of_beq h)
      refine hQ true _ _ _ ?_ ?_
      · show true = decide _
        exact (decide_eq_true ⟨hl56, hlt⟩).symm
      · subst hΩ
        exact ⟨⟨rfl, ⟨rfl, rfl⟩, trivial⟩, rfl, rfl⟩
end Go.Sx.Tryz
end
section
set_option maxHeartbeats 4000000
namespace Go.Sx.Tryz
open Go.Proofs
set_option maxRecDepth 40000
def qe0 (Ω : Om) : qe := fun args => match args with
 | [] => ⟨True, Unit, fun _ => True, fun _ => .tup [.ab (.fe (Ω.hide _ fun _ => qaH)), .ab (.fe (Ω.hide _ fun _ => qaI))]⟩
 | _ => PR.none
theorem qmV : Ctr Tryz.prog T glob 111 (qe0 Om.real) := by
 refine qo T_ok qg qh (fun Ω => [(76, qbg Ω), (195, qgE Ω), (87, qdL Ω)]) [] (fun Ω => []) [] (qb qca (qb qrm (qb qiX qi))) qj qk ql Tryz.func111 (by rfl) (by kernel_rfl) Tryz.call111 ?_ ?_
 ·intro args; unfold qe0; split
  ·exact qq (by repeat' constructor) (fun _ _ => rfl) (by repeat' constructor)
  ·exact PR.good_none
 ·intro P Ω hΩ hE hI hm args pr hs hp Q hQ
  unfold qe0 at hs
  split at hs <;> subst hs <;> try (exact hp.elim)
  refine ⟨1000, ?_⟩
  cbv
  constructor
  ·exact fun _ _ => (by decide)
  intro _ _
  cbv
  constructor
  ·exact fun _ => trivial
  intro z hz
  have hz1 : z = true := by
   subst hΩ
   rw [show z = _ from hz]
   exact decide_eq_true (qgK pw_d)
  subst hz1
  cbv
  constructor
  ·exact fun _ _ => (by decide)
  intro _ _
  cbv
  constructor
  ·exact fun _ => trivial
  intro _ _
  cbv
  constructor
  ·exact fun _ => trivial
  intro z hz
  have hz1 : z = true := by
   subst hΩ
   rw [show z = _ from hz]
   exact decide_eq_true (qgK pw_e)
  subst hz1
  cbv
  refine hQ () _ _ _ trivial ?_
  subst hΩ
  exact ⟨⟨rfl, rfl, trivial⟩, rfl, rfl⟩
def qcd (Ω : Om) : qe := fun args => match args with
 | [] => ⟨True, Unit, fun _ => True, fun _ => .ab (.pt (Ω.hide _ fun _ => pid))⟩
 | _ => PR.none
theorem qdR : Ctr Tryz.prog T glob 49 (qcd Om.real) := by
 refine qo T_ok qg qh (fun Ω => [(120, qdN Ω)]) [] (fun Ω => []) [] (qb qi0 qi) qj qk ql Tryz.func49 (by rfl) (by kernel_rfl) Tryz.call49 ?_ ?_
 ·intro args; unfold qcd; split
  ·exact qq (by repeat' constructor) (fun _ _ => rfl) (by repeat' constructor)
  ·exact PR.good_none
 ·intro P Ω hΩ hE hI hm args pr hs hp Q hQ
  unfold qcd at hs
  split at hs <;> subst hs <;> try (exact hp.elim)
  refine ⟨1000, ?_⟩
  cbv
  repeat (constructor; (first | exact fun _ => trivial | exact fun _ _ => (by decide)); intro _ _; cbv)
  refine hQ () _ _ _ trivial ?_
  subst hΩ
  rfl
def qe1 (Ω : Om) : qe := fun args => match args with
 | [.ab (.pt P), .ab (.pt Q)] => ⟨True, Unit, fun _ => True, fun _ => .ab (.pt (Ω.hide _ fun _ => padd P Q))⟩
 | _ => PR.none
theorem qmW : Ctr Tryz.prog T glob 41 (qe1 Om.real) := by
 refine qo T_ok qg qh (fun Ω => [(60, qdP Ω)]) [] (fun Ω => []) [] (qb qi2 qi) qj qk ql Tryz.func41 (by rfl) (by kernel_rfl) Tryz.call41 ?_ ?_
 ·intro args; unfold qe1; split
  ·exact qq (by repeat' constructor) (fun _ _ => rfl) (by repeat' constructor)
  ·exact PR.good_none
 ·intro P Ω hΩ hE hI hm args pr hs hp Q hQ
  unfold qe1 at hs
  split at hs <;> subst hs <;> try (exact hp.elim)
  refine ⟨1000, ?_⟩
  cbv
  repeat (constructor; (first | exact fun _ => trivial | exact fun _ _ => (by decide)); intro _ _; cbv)
  refine hQ () _ _ _ trivial ?_
  subst hΩ
  rfl
def qdS (Ω : Om) : qe := fun args => match args with
 | [.ab (.pt P), .ab (.pt Q)] => ⟨True, Unit, fun _ => True, fun _ => .bs (Ω.hide _ fun _ => decide (P.x * Q.y = P.y * Q.x))⟩
 | _ => PR.none
theorem qi4 : Ctr Tryz.prog T glob 35 (qdS Om.real) := by
 refine qo T_ok qg qh (fun Ω => [(105, qdO Ω), (84, qat Ω), (36, qcA Ω)]) [] (fun Ω => []) [] (qb qi1 (qb qaG (qb qeP qi))) qj qk ql Tryz.func35 (by rfl) (by kernel_rfl) Tryz.call35 ?_ ?_
 ·intro args; unfold qdS; split
  ·exact qq (by repeat' constructor) (fun _ _ => rfl) (by repeat' constructor)
  ·exact PR.good_none
 ·intro P Ω hΩ hE hI hm args pr hs hp Q hQ
  unfold qdS at hs
  split at hs <;> subst hs <;> try (exact hp.elim)
  refine ⟨1000, ?_⟩
  cbv
  repeat (constructor; (first | exact fun _ => trivial | exact fun _ _ => (by decide)); intro _ _; cbv)
  refine hQ () _ _ _ trivial ?_
  subst hΩ
  rfl
def qgN (Ω : Om) : qe := fun args => match args with
 | [.ab (.pt P)] => ⟨True, List Int × Nat, fun z => z.1 = qO (encF P) /\ z.1.length <= z.2, fun z => .fr .u8 z.1 z.2⟩
 | _ => PR.none
theorem qrF : Ctr Tryz.prog T glob 44 (qgN Om.real) := by
 refine qo T_ok qg qh (fun Ω => [(105, qdO Ω), (84, qat Ω), (78, qbL Ω), (80, qbM Ω), (76, qbg Ω), (110, qeZ Ω), (83, qcb Ω), (85, qdM Ω), (111, qe0 Ω), (89, qcC Ω), (98, qdH Ω)]) [] (fun Ω => []) [] (qb qi1 (qb qaG (qb qc6 (qb qc7 (qb qca (qb qmU (qb qdJ (qb qiY (qb qmV (qb qeU (qb qiU qi))))))))))) qj qk ql Tryz.func44 (by rfl) (by kernel_rfl) Tryz.call44 ?_ ?_
 ·intro args; unfold qgN; split
  ·exact qa7 ⟨trivial, trivial⟩ fun _ => qaR _
  ·exact PR.good_none
 ·intro P Ω hΩ hE hI hm args pr hs hp Q hQ
  unfold qgN at hs
  split at hs <;> subst hs <;> try (exact hp.elim)
  rename_i P
  refine ⟨1000, ?_⟩
  cbv
  repeat (first | (constructor; (first | exact fun _ => trivial | exact fun _ _ => (by decide)); intro _ _; cbv) | (refine ⟨fun _ => ⟨trivial, trivial⟩, fun _ _ => (Nat.le_of_ble_eq_true rfl), ?_⟩; intro _ _; cbv))
  rename_i w hw
  have hw : w.1 = qO (encF P) /\ w.1.length <= w.2 := by subst hΩ; exact hw
  refine hQ w _ _ _ hw ?_
  subst hΩ
  exact ⟨rfl, rfl, by show 0 + w.1.length <= w.1.length; omega, List.take_length.symm⟩
end Go.Sx.Tryz
end
section
set_option maxHeartbeats 4000000
namespace Go.Sx.Tryz
open Go.Proofs
set_option maxRecDepth 40000
def qgO (Ω : Om) : qe := fun args => match args with
 | [.roi .u8 bs] => ⟨∀ _ : Unit, (∀ a ∈ bs, 0 <= a /\ a < 256) /\ bs.length < 9223372036854775808, Bool, fun z => z = qa4 bs, fun z => match z with | true => .tup [.ab (.pt (Ω.hide _ fun _ => qbO bs)), .lit .i64 0] | false => .tup [.ab (.pt (Ω.hide _ fun _ => pid)), .int .i64 (Ω.hide _ fun _ => if bs.length = 56 then 12 else 11)]⟩
 | _ => PR.none
theorem qrG : Ctr Tryz.prog T glob 48 (qgO Om.real) := by
 refine qo T_ok qg qh (fun Ω => [(49, qcd Ω), (118, qgM Ω), (119, qgD Ω), (76, qbg Ω), (82, qbz Ω), (78, qbL Ω), (83, qcb Ω), (110, qeZ Ω), (85, qdM Ω), (111, qe0 Ω), (89, qcC Ω), (80, qbM Ω), (102, qeY Ω)]) [] (fun Ω => []) [] (qb qdR (qb qrE (qb qrl (qb qca (qb qcB (qb qc6 (qb qdJ (qb qmU (qb qiY (qb qmV (qb qeU (qb qc7 (qb qmP qi))))))))))))) qj qk ql Tryz.func48 (by rfl) (by kernel_rfl) Tryz.call48 ?_ ?_
 ·intro args; unfold qgO; split
  ·exact qbf ⟨fun x => by cases x <;> repeat' (first | exact trivial | constructor), fun E x b => by cases x <;> rfl⟩ (by repeat' (first | exact trivial | constructor)) (fun _ => ⟨_, rfl⟩)
  ·exact PR.good_none
 ·intro P Ω hΩ hE hI hm args pr hs hp Q hQ
  unfold qgO at hs
  split at hs <;> subst hs <;> try (exact hp.elim)
  rename_i bs
  obtain ⟨hb, hl⟩ := hp ()
  refine ⟨1000, ?_⟩
  cbv
  constructor
  ·intro hc
   cbv
   repeat (constructor; (first | exact fun _ => trivial | exact fun _ _ => (by decide)); intro _ _; cbv)
   have hl56 : ¬ bs.length = 56 := by rw [hΩ] at hc; simp (disch := omega) only [Om.real, qc, decide_eq_true_eq, decide_eq_false_iff_not] at hc; omega
   refine hQ false _ _ _ (by unfold qa4; rw [beq_eq_false_iff_ne.2 hl56]; rfl) ?_
   subst hΩ
   refine ⟨⟨rfl, ⟨rfl, ?_⟩, trivial⟩, rfl, rfl⟩
   exact (if_neg hl56).symm
  ·intro hc
   cbv
   have hl56 : bs.length = 56 := by rw [hΩ] at hc; simp (disch := omega) only [Om.real, qc, decide_eq_true_eq, decide_eq_false_iff_not] at hc; omega
   constructor
   ·exact fun _ _ => ⟨hb, hl⟩
   intro z hz
   have hz : z = decide (bs.length = 56 /\ qd bs < 726838724295606890549323807888004534353641360687318060281490199180612328166730772686396383698676545930088884461843637361053498018365439) := hz
   cases z with
   | false =>
     cbv
     have hce : (Ω.hide Int fun _ => if bs.length = 56 then 12 else 11) = 12 := by subst hΩ; exact if_pos hl56
     constructor
     · intro hc2
       cbv
       repeat (constructor; (first | exact fun _ => trivial | exact fun _ _ => (by decide)); intro _ _; cbv)
       refine hQ false _ _ _ ?_ ?_
       · unfold qa4
         have : ¬ qd bs < 726838724295606890549323807888004534353641360687318060281490199180612328166730772686396383698676545930088884461843637361053498018365439 := fun h => by rw [decide_eq_true ⟨hl56, h⟩] at hz; exact Bool.noConfusion hz
         rw [decide_eq_false this, Bool.false_and, Bool.and_false]
       subst hΩ
       refine ⟨⟨rfl, ⟨rfl, ?_⟩, trivial⟩, rfl, rfl⟩
       exact (if_pos hl56).symm
     · intro hc2
       exfalso
       have hc3 : Ω.cmp .neq (Ω.hide Int fun _ => if bs.length = 56 then 12 else 11) 0 = false := hc2
       rw [hce] at hc3
       subst hΩ
       exact absurd hc3 (by decide)
   | true =>
     have hlt := (of_decide_eq_true hz.symm).2
     cbv
     constructor
     · exact fun _ => trivial
     intro _ _
     constructor
     · intro hc2
       cbv
       repeat (constructor; (first | exact fun _ => trivial | exact fun _ _ => (by decide)); intro _ _; cbv)
       have hneg : decide ((fI (qd bs)).val % 2 = 1) = true := by subst hΩ; exact hc2
       refine hQ false _ _ _ ?_ ?_
       · unfold qa4
         rw [hneg, Bool.not_true, Bool.false_and, Bool.and_false, Bool.and_false]
       subst hΩ
       refine ⟨⟨rfl, ⟨rfl, ?_⟩, trivial⟩, rfl, rfl⟩
       exact (if_pos hl56).symm
     · intro hc2
       cbv
       have hneg : decide ((fI (qd bs)).val % 2 = 1) = false := by subst hΩ; exact hc2
       repeat (first | (constructor; (first | exact fun _ => trivial | exact fun _ _ => (by decide)); intro _ _; cbv) | (refine ⟨fun _ => ⟨trivial, trivial⟩, fun _ _ => (Nat.le_of_ble_eq_true rfl), ?_⟩; intro _ _; cbv))
       rename_i z hz2
       have hz2 : z = decide (AP.on ⟨decX (fI (qd bs)), decY (fI (qd bs))⟩) := by subst hΩ; exact hz2
       cases z with
       | false =>
         have hbad : qa4 bs = false := by
           unfold qa4
           rw [<- hz2, Bool.and_false, Bool.and_false, Bool.and_false, Bool.and_false]
         cbv
         constructor
         · intro hc3
           cbv
           repeat (constructor; (first | exact fun _ => trivial | exact fun _ _ => (by decide)); intro _ _; cbv)
           refine hQ false _ _ _ hbad.symm ?_
           subst hΩ
           refine ⟨⟨rfl, ⟨rfl, ?_⟩, trivial⟩, rfl, rfl⟩
           exact (if_pos hl56).symm
         · intro hc3
           cbv
           repeat (constructor; (first | exact fun _ => trivial | exact fun _ _ => (by decide)); intro _ _; cbv)
           refine hQ false _ _ _ hbad.symm ?_
           subst hΩ
           refine ⟨⟨rfl, ⟨rfl, ?_⟩, trivial⟩, rfl, rfl⟩
           exact (if_pos hl56).symm
       | true =>
         cbv
         constructor
         · intro hc3
           cbv
           repeat (constructor; (first | exact fun _ => trivial | exact fun _ _ => (by decide)); intro _ _; cbv)
           have hbad : qa4 bs = false := by
             have h : (!qdQ (fI (qd bs))) = true := by subst hΩ; exact hc3
             unfold qa4
             rw [Bool.not_eq_true'] at h
             rw [h, Bool.false_and, Bool.and_false, Bool.and_false, Bool.and_false]
           refine hQ false _ _ _ hbad.symm ?_
           subst hΩ
           refine ⟨⟨rfl, ⟨rfl, ?_⟩, trivial⟩, rfl, rfl⟩
           exact (if_pos hl56).symm
         · intro hc3
           cbv
           have hgood : qa4 bs = true := by
             have h : (!qdQ (fI (qd bs))) = false := by subst hΩ; exact hc3
             unfold qa4
             rw [Bool.not_eq_false'] at h
             rw [h, <- hz2, hneg, decide_eq_true hlt, hl56]; rfl
           refine hQ true _ _ _ hgood.symm ?_
           subst hΩ
           exact ⟨⟨rfl, ⟨rfl, rfl⟩, trivial⟩, rfl, rfl⟩
end Go.Sx.Tryz
end
