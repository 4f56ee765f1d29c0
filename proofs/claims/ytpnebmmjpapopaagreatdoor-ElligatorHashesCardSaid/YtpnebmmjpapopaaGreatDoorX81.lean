/-
  Part of the proof of a statement: the means.
-/
import Derived.Test.YtpnebmmjpapopaaGreatDoorX8
import Derived.Test.YtpnebmmjpapopaaGreatDoorX5
set_option linter.unusedSectionVars false
set_option linter.unusedVariables false
set_option linter.unusedSimpArgs false
set_option linter.deprecated false
section
set_option maxHeartbeats 4000000
namespace Go.Sx.Tryz
open Go.Proofs
def qbC (Ω : Om) : qe := fun args => match args with
 | [.ab (.fe x)] => ⟨True, Unit, fun _ => True, fun _ => .ab (.fe (Ω.hide _ fun _ => x * x))⟩
 | _ => PR.none
theorem qcR : Ctr Tryz.prog T glob 82 (qbC Om.real) := by
 refine qq T_ok qg qh (fun Ω => [(84, qav Ω)]) [] (fun Ω => []) [] (qb qaE qi) qj qk ql Tryz.func82 (by rfl) (by kernel_rfl) Tryz.call82 ?_ ?_
 ·intro args; unfold qbC; split
  ·exact qr (by repeat' constructor) (fun _ _ => rfl) (by repeat' constructor)
  ·exact PR.good_none
 ·intro P Ω hΩ hE hI hm args pr hs hp Q hQ
  unfold qbC at hs
  split at hs <;> subst hs <;> try (exact hp.elim)
  rename_i x
  refine ⟨1000, ?_⟩
  cbv
  repeat (constructor; (first | exact fun _ => trivial | exact fun _ _ => (by decide)); intro _ _; cbv)
  exact hQ () _ _ _ trivial rfl
def qch (Ω : Om) : qe := fun args => match args with
 | [.ab (.fe x), .int .i64 n] => ⟨∀ _ : Unit, -9223372036854775808 <= n /\ n < 9223372036854775808, Unit, fun _ => True, fun _ => .ab (.fe (Ω.hide _ fun _ => x * fI n))⟩
 | _ => PR.none
theorem qeE : Ctr Tryz.prog T glob 83 (qch Om.real) := by
 refine qq T_ok qg qh (fun Ω => [(84, qav Ω), (76, qbr Ω)]) [] (fun Ω => []) [] (qb qaE (qb qcg qi)) qj qk ql Tryz.func83 (by rfl) (by kernel_rfl) Tryz.call83 ?_ ?_
 ·intro args; unfold qch; split
  ·exact qr (by repeat' constructor) (fun _ _ => rfl) (by repeat' constructor)
  ·exact PR.good_none
 ·intro P Ω hΩ hE hI hm args pr hs hp Q hQ
  unfold qch at hs
  split at hs <;> subst hs <;> try (exact hp.elim)
  rename_i x n
  have hn := hp ()
  refine ⟨1000, ?_⟩
  cbv
  constructor
  ·exact fun _ _ => hn
  intro _ _
  cbv
  repeat (constructor; (first | exact fun _ => trivial | exact fun _ _ => (by decide)); intro _ _; cbv)
  refine hQ () _ _ _ trivial ?_
  subst hΩ
  rfl
def qeF (Ω : Om) : qe := fun args => match args with
 | [.ab (.fe x), .int .i64 n] => ⟨∀ _ : Unit, 0 <= n /\ n < 9223372036854775808, Unit, fun _ => True, fun _ => .ab (.fe (Ω.hide _ fun _ => pw x (2 ^ n.toNat)))⟩
 | _ => PR.none
theorem qmU : Ctr Tryz.prog T glob 181 (qeF Om.real) := by
 refine qq T_ok qg qh (fun Ω => [(82, qbC Ω)]) [] (fun Ω => []) [] (qb qcR qi) qj qk ql Tryz.func181 (by rfl) (by kernel_rfl) Tryz.call181 ?_ ?_
 ·intro args; unfold qeF; split
  ·exact qr (by repeat' constructor) (fun _ _ => rfl) (by repeat' constructor)
  ·exact PR.good_none
 ·intro P Ω hΩ hE hI hm args pr hs hp Q hQ
  unfold qeF at hs
  split at hs <;> subst hs <;> try (exact hp.elim)
  rename_i x n
  obtain ⟨n0, n1⟩ := hp ()
  obtain ⟨m, rfl⟩ := Int.eq_ofNat_of_zero_le n0
  have n2 : m < 9223372036854775808 := by omega
  refine ⟨1000, ?_⟩
  cbv
  refine qt hE hI hm (fun z : Nat × Fp => (mkT 12 [(2, .ptr 0 (.l 0)), (4, .ptr 8 (.l 0)), (5, .int .i64 m), (6, .int .i64 z.1)], [(8, .agg [.row .u64 8 [0, 0, 0, 0, 0, 0, 0, 0]]), (0, .ab (.fe z.2))])) (fun z => z.1 <= m /\ z.2 = pw x (2 ^ z.1)) (fun z => m - z.1) 0 ⟨(0, x), [], ⟨Nat.zero_le _, (qcI x).symm⟩, Nat.le_refl _, by cbv; exact ⟨rfl, trivial⟩⟩ fun z hz => ⟨1000, ?_⟩
  obtain ⟨i, y⟩ := z
  obtain ⟨hi, hy⟩ : i <= m /\ y = pw x (2 ^ i) := hz
  cbv
  constructor
  ·intro hc
   cbv
   rw [hΩ] at hc; simp (disch := omega) only [Om.real, qc, decide_eq_true_eq, decide_eq_false_iff_not] at hc
   repeat (constructor; (first | exact fun _ => trivial | exact fun _ _ => (by decide)); intro _ _; cbv)
   obtain ⟨y2, hy2⟩ : ∃ y2, y2 = y * y := ⟨_, rfl⟩
   refine ⟨(i + 1, y2), [], ⟨hc, ?_⟩, by simp only; omega, Nat.zero_le _, ?_⟩
   ·show y2 = pw x (2 ^ (i + 1))
    rw [hy2, hy, Nat.pow_succ, qb9]; simp only [pw]; grind -lia -linarith -order -ac (splits := 0)
   cbv
   subst hΩ
   simp (disch := omega) only [Om.real, qc]
   exact ⟨trivial, by rw [hy2]⟩
  ·intro hc
   cbv
   rw [hΩ] at hc; simp (disch := omega) only [Om.real, qc, decide_eq_true_eq, decide_eq_false_iff_not] at hc
   have e : i = m := by omega
   refine hQ () _ _ _ trivial ?_
   subst hΩ
   show Pay.fe y = Pay.fe (pw x (2 ^ ((m : Int)).toNat))
   rw [hy, e, Int.toNat_natCast]
def qgr (Ω : Om) : qe := fun args => match args with
 | [.ab (.fe x), .int .i64 n, .ab (.fe y)] => ⟨∀ _ : Unit, 0 <= n /\ n < 9223372036854775808, Unit, fun _ => True, fun _ => .ab (.fe (Ω.hide _ fun _ => jn x n y))⟩
 | _ => PR.none
theorem qq8 : Ctr Tryz.prog T glob 242 (qgr Om.real) := by
 refine qq T_ok qg qh (fun Ω => [(181, qeF Ω), (84, qav Ω)]) [] (fun Ω => []) [] (qb qmU (qb qaE qi)) qj qk ql Tryz.func242 (by rfl) (by kernel_rfl) Tryz.call242 ?_ ?_
 ·intro args; unfold qgr; split
  ·exact qr (by repeat' constructor) (fun _ _ => rfl) (by repeat' constructor)
  ·exact PR.good_none
 ·intro P Ω hΩ hE hI hm args pr hs hp Q hQ
  unfold qgr at hs
  split at hs <;> subst hs <;> try (exact hp.elim)
  rename_i x n y
  have hn := hp ()
  refine ⟨1000, ?_⟩
  cbv
  constructor
  ·exact fun _ _ => hn
  intro _ _
  cbv
  repeat (constructor; (first | exact fun _ => trivial | exact fun _ _ => (by decide)); intro _ _; cbv)
  refine hQ () _ _ _ trivial ?_
  subst hΩ
  rfl
def qdx (Ω : Om) : qe := fun args => match args with
 | [.ab (.fe x)] => ⟨True, Unit, fun _ => True, fun _ => .ab (.fe (Ω.hide _ fun _ => qo x))⟩
 | _ => PR.none
theorem qi6 : Ctr Tryz.prog T glob 180 (qdx Om.real) := by
 refine qq T_ok qg qh (fun Ω => [(242, qgr Ω)]) [] (fun Ω => []) [] (qb qq8 qi) qj qk ql Tryz.func180 (by rfl) (by kernel_rfl) Tryz.call180 ?_ ?_
 ·intro args; unfold qdx; split
  ·exact qr (by repeat' constructor) (fun _ _ => rfl) (by repeat' constructor)
  ·exact PR.good_none
 ·intro P Ω hΩ hE hI hm args pr hs hp Q hQ
  unfold qdx at hs
  split at hs <;> subst hs <;> try (exact hp.elim)
  rename_i x
  refine ⟨1000, ?_⟩
  cbv
  repeat (constructor; (first | exact fun _ => trivial | exact fun _ _ => (by decide)); intro _ _; cbv)
  refine hQ () _ _ _ trivial ?_
  subst hΩ
  exact congrArg Pay.fe (qq3 x _ _ _ _ _ _ _ rfl rfl rfl rfl rfl rfl rfl)
def qgs (Ω : Om) : qe := fun args => match args with
 | [.ab (.fe x)] => ⟨True, Unit, fun _ => True, fun _ => .int .i64 (Ω.hide _ fun _ => odd1 x)⟩
 | _ => PR.none
theorem qq9 : Ctr Tryz.prog T glob 183 (qgs Om.real) := by
 refine qq T_ok qg qh (fun Ω => [(98, qeA Ω)]) [] (fun Ω => []) [] (qb qmM qi) qj qk ql Tryz.func183 (by rfl) (by kernel_rfl) Tryz.call183 ?_ ?_
 ·intro args; unfold qgs; split
  ·exact qr (by repeat' constructor) (fun _ _ => rfl) (by repeat' constructor)
  ·exact PR.good_none
 ·intro P Ω hΩ hE hI hm args pr hs hp Q hQ
  unfold qgs at hs
  split at hs <;> subst hs <;> try (exact hp.elim)
  rename_i x
  refine ⟨1000, ?_⟩
  cbv
  constructor
  ·exact fun _ => trivial
  intro z hz
  have hz : z.1 = qae x /\ z.1.length <= z.2 := by subst hΩ; exact hz
  have hl : z.1.length = 56 := by rw [hz.1, qi5]
  cbv
  constructor
  ·intro _; subst hΩ; show 0 < z.1.length; omega
  constructor
  ·exact fun _ => (show 0 + 1 <= z.1.length by omega)
  refine hQ () _ _ _ trivial ⟨rfl, ?_⟩
  subst hΩ
  show IntKind.i64.wrap (binL .and .u8 (z.1.getD 0 0) 1) = odd1 x
  rw [hz.1, qq4, qq5 _ (Nat.mod_lt _ (by decide)), IntKind.wrap_i64]
  unfold odd1
  omega
def qcS (Ω : Om) : qe := fun args => match args with
 | [.ab (.fe x)] => ⟨True, Unit, fun _ => True, fun _ => .ab (.fe (Ω.hide _ fun _ => fabs x))⟩
 | _ => PR.none
theorem qgt : Ctr Tryz.prog T glob 89 (qcS Om.real) := by
 refine qq T_ok qg qh (fun Ω => [(183, qgs Ω), (81, qcP Ω), (182, qdu Ω)]) [] (fun Ω => []) [] (qb qq9 (qb qgn (qb qi2 qi))) qj qk ql Tryz.func89 (by rfl) (by kernel_rfl) Tryz.call89 ?_ ?_
 ·intro args; unfold qcS; split
  ·exact qr (by repeat' constructor) (fun _ _ => rfl) (by repeat' constructor)
  ·exact PR.good_none
 ·intro P Ω hΩ hE hI hm args pr hs hp Q hQ
  unfold qcS at hs
  split at hs <;> subst hs <;> try (exact hp.elim)
  rename_i x
  refine ⟨1000, ?_⟩
  cbv
  repeat (constructor; (first | exact fun _ => trivial | exact fun _ _ => (by decide)); intro _ _; cbv)
  refine hQ () _ _ _ trivial ?_
  subst hΩ
  exact congrArg Pay.fe (qq6 x)
def qdy (Ω : Om) : qe := fun args => match args with
 | [.ab (.fe x)] => ⟨True, Unit, fun _ => True, fun _ => .ab (.fe (Ω.hide _ fun _ => finv x))⟩
 | _ => PR.none
theorem qi7 : Ctr Tryz.prog T glob 87 (qdy Om.real) := by
 refine qq T_ok qg qh (fun Ω => [(180, qdx Ω), (181, qeF Ω), (84, qav Ω)]) [] (fun Ω => []) [] (qb qi6 (qb qmU (qb qaE qi))) qj qk ql Tryz.func87 (by rfl) (by kernel_rfl) Tryz.call87 ?_ ?_
 ·intro args; unfold qdy; split
  ·exact qr (by repeat' constructor) (fun _ _ => rfl) (by repeat' constructor)
  ·exact PR.good_none
 ·intro P Ω hΩ hE hI hm args pr hs hp Q hQ
  unfold qdy at hs
  split at hs <;> subst hs <;> try (exact hp.elim)
  rename_i x
  refine ⟨1000, ?_⟩
  cbv
  repeat (constructor; (first | exact fun _ => trivial | exact fun _ _ => (by decide)); intro _ _; cbv)
  refine hQ () _ _ _ trivial ?_
  subst hΩ
  exact congrArg Pay.fe (qq7 x)
def qeG (Ω : Om) : qe := fun args => match args with
 | [.ab (.fe u), .ab (.fe v)] => ⟨True, Unit, fun _ => True, fun _ => .tup [.ab (.fe (Ω.hide _ fun _ => fabs (u * qo (u * v)))), .bs (Ω.hide _ fun _ => decide (v * (u * qo (u * v) * (u * qo (u * v))) = u))]⟩
 | _ => PR.none
theorem qmV : Ctr Tryz.prog T glob 85 (qeG Om.real) := by
 refine qq T_ok qg qh (fun Ω => [(180, qdx Ω), (89, qcS Ω), (84, qav Ω), (82, qbC Ω), (36, qcQ Ω)]) [] (fun Ω => []) [] (qb qi6 (qb qgt (qb qaE (qb qcR (qb qgo qi))))) qj qk ql Tryz.func85 (by rfl) (by kernel_rfl) Tryz.call85 ?_ ?_
 ·intro args; unfold qeG; split
  ·exact qr (by repeat' constructor) (fun _ _ => rfl) (by repeat' constructor)
  ·exact PR.good_none
 ·intro P Ω hΩ hE hI hm args pr hs hp Q hQ
  unfold qeG at hs
  split at hs <;> subst hs <;> try (exact hp.elim)
  rename_i u v
  refine ⟨1000, ?_⟩
  cbv
  repeat (constructor; (first | exact fun _ => trivial | exact fun _ _ => (by decide)); intro _ _; cbv)
  refine hQ () _ _ _ trivial ?_
  subst hΩ
  exact ⟨⟨rfl, rfl, trivial⟩, rfl, rfl⟩
def qgu (Ω : Om) : qe := fun args => match args with
 | [.ab (.fe a)] => ⟨True, Bool, fun z => z = decide (a * qo a * (a * qo a) = a), fun z => match z with | true => .tup [.ab (.fe (Ω.hide _ fun _ => fabs (a * qo a))), .lit .i64 0] | false => .tup [.row .u64 8 [0, 0, 0, 0, 0, 0, 0, 0], .lit .i64 17]⟩
 | _ => PR.none
theorem qra : Ctr Tryz.prog T glob 195 (qgu Om.real) := by
 refine qq T_ok qg qh (fun Ω => [(180, qdx Ω), (89, qcS Ω), (84, qav Ω), (82, qbC Ω), (36, qcQ Ω)]) [] (fun Ω => []) [] (qb qi6 (qb qgt (qb qaE (qb qcR (qb qgo qi))))) qj qk ql Tryz.func195 (by rfl) (by kernel_rfl) Tryz.call195 ?_ ?_
 ·intro args; unfold qgu; split
  ·exact qa8 ⟨fun x => by cases x <;> repeat' (first | exact trivial | constructor), fun E x b => by cases x <;> rfl⟩ ⟨trivial, trivial⟩ (fun _ => ⟨_, rfl⟩)
  ·exact PR.good_none
 ·intro P Ω hΩ hE hI hm args pr hs hp Q hQ
  unfold qgu at hs
  split at hs <;> subst hs <;> try (exact hp.elim)
  rename_i a
  refine ⟨1000, ?_⟩
  cbv
  repeat (constructor; (first | exact fun _ => trivial | exact fun _ _ => (by decide)); intro _ _; cbv)
  constructor
  ·intro hc
   cbv
   refine hQ false _ _ _ ?_ ?_
   ·subst hΩ
    have h : (!decide (a * qo a * (a * qo a) = a)) = true := hc
    show false = decide (a * qo a * (a * qo a) = a)
    rw [Bool.not_eq_true'] at h; exact h.symm
   ·exact ⟨⟨⟨rfl, rfl, rfl⟩, ⟨rfl, rfl⟩, trivial⟩, rfl, rfl⟩
  ·intro hc
   cbv
   repeat (constructor; (first | exact fun _ => trivial | exact fun _ _ => (by decide)); intro _ _; cbv)
   refine hQ true _ _ _ ?_ ?_
   ·subst hΩ
    have h : (!decide (a * qo a * (a * qo a) = a)) = false := hc
    show true = decide (a * qo a * (a * qo a) = a)
    rw [Bool.not_eq_false'] at h; exact h.symm
   ·subst hΩ
    exact ⟨⟨rfl, ⟨rfl, rfl⟩, trivial⟩, rfl, rfl⟩
end Go.Sx.Tryz
end
section
set_option maxHeartbeats 4000000
namespace Go.Sx.Tryz
open Go.Proofs
def qdA (Ω : Om) : qe := fun args => match args with
 | [] => ⟨True, Unit, fun _ => True, fun _ => .ab (.pt (Ω.hide _ fun _ => pid))⟩
 | _ => PR.none
theorem qi9 : Ctr Tryz.prog T glob 120 (qdA Om.real) := by
 refine qq T_ok qg qh (fun Ω => [(76, qbr Ω)]) [] (fun Ω => []) [] (qb qcg qi) qj qk ql Tryz.func120 (by rfl) (by kernel_rfl) Tryz.call120 ?_ ?_
 ·intro args; unfold qdA; split
  ·exact qr (by repeat' constructor) (fun _ _ => rfl) (by repeat' constructor)
  ·exact PR.good_none
 ·intro P Ω hΩ hE hI hm args pr hs hp Q hQ
  unfold qdA at hs
  split at hs <;> subst hs <;> try (exact hp.elim)
  refine ⟨1000, ?_⟩
  cbv
  repeat (constructor; (first | exact fun _ => trivial | exact fun _ _ => (by decide)); intro _ _; cbv)
  refine hQ () _ _ _ trivial ?_
  subst hΩ
  exact qcE qeH qcJ (by decide +kernel) (by decide +kernel)
def qgx (Ω : Om) : qe := fun args => match args with
 | [.ab (.fe a), .rop (.ab (.fe o)) (.l 0)] => ⟨True, Unit, fun _ => True, fun _ => .ab (.fe (Ω.hide _ fun _ => a * o))⟩
 | _ => PR.none
theorem qrm : Ctr Tryz.prog T glob 192 (qgx Om.real) := by
 refine qq T_ok qg qh (fun Ω => [(84, qav Ω)]) [] (fun Ω => []) [] (qb qaE qi) qj qk ql Tryz.func192 (by rfl) (by kernel_rfl) Tryz.call192 ?_ ?_
 ·intro args; unfold qgx; split
  ·exact qr (by repeat' constructor) (fun _ _ => rfl) (by repeat' constructor)
  ·exact PR.good_none
 ·intro P Ω hΩ hE hI hm args pr hs hp Q hQ
  unfold qgx at hs
  split at hs <;> subst hs <;> try (exact hp.elim)
  rename_i a o
  refine ⟨1000, ?_⟩
  cbv
  repeat (constructor; (first | exact fun _ => trivial | exact fun _ _ => (by decide)); intro _ _; cbv)
  exact hQ () _ _ _ trivial rfl
def qdB (Ω : Om) : qe := fun args => match args with
 | [.ab (.pt P)] => ⟨True, Unit, fun _ => True, fun _ => .tup [.ab (.fe (Ω.hide _ fun _ => P.x)), .ab (.fe (Ω.hide _ fun _ => P.y))]⟩
 | _ => PR.none
theorem qja : Ctr Tryz.prog T glob 105 (qdB Om.real) := by
 refine qap T_ok qg qh (fun Ω => [(87, qdy Ω), (192, qgx Ω)]) [] (fun Ω => []) [] (qb qi7 (qb qrm qi)) qj qk ql Tryz.func105 (by rfl) (by kernel_rfl) Tryz.call105 ?_ ?_
 ·intro args; unfold qdB; split
  ·exact qr (by repeat' constructor) (fun _ _ => rfl) (by repeat' constructor)
  ·exact PR.good_none
 ·intro P Ω hΩ hE hI hm args pr hs hp cs hcs Q hQ
  unfold qdB at hs
  split at hs <;> subst hs <;> try (exact hp.elim)
  rename_i P
  obtain ⟨_, _, rfl, ⟨X, Y, Z, rfl, hP, hz, hx, hy⟩, rfl⟩ := hcs
  refine ⟨1000, ?_⟩
  cbv
  repeat (constructor; (first | exact fun _ => trivial | exact fun _ _ => (by decide)); intro _ _; cbv)
  refine hQ () _ _ _ trivial ?_
  subst hΩ
  exact ⟨⟨congrArg Pay.fe (qgw hz hx), congrArg Pay.fe (qgw hz hy), trivial⟩, rfl, rfl⟩
def qdC (Ω : Om) : qe := fun args => match args with
 | [.ab (.pt P), .ab (.pt Q)] => ⟨True, Unit, fun _ => True, fun _ => .ab (.pt (Ω.hide _ fun _ => padd P Q))⟩
 | _ => PR.none
theorem qjb : Ctr Tryz.prog T glob 60 (qdC Om.real) := by
 refine qap T_ok qg qh (fun Ω => [(84, qav Ω), (82, qbC Ω), (83, qch Ω), (80, qbQ Ω), (78, qbP Ω)]) [] (fun Ω => []) [] (qb qaE (qb qcR (qb qeE (qb qdt (qb qds qi))))) qj qk ql Tryz.func60 (by rfl) (by kernel_rfl) Tryz.call60 ?_ ?_
 ·intro args; unfold qdC; split
  ·exact qr (by repeat' constructor) (fun _ _ => rfl) (by repeat' constructor)
  ·exact PR.good_none
 ·intro P Ω hΩ hE hI hm args pr hs hp cs hcs Q hQ
  unfold qdC at hs
  split at hs <;> subst hs <;> try (exact hp.elim)
  rename_i P R
  obtain ⟨_, _, rfl, ⟨X1, Y1, Z1, rfl, hP, z1, x1, y1⟩, _, _, rfl, ⟨X2, Y2, Z2, rfl, hR, z2, x2, y2⟩, rfl⟩ := hcs
  refine ⟨1000, ?_⟩
  cbv
  repeat (constructor; (first | exact fun _ => trivial | exact fun _ _ => (by decide)); intro _ _; cbv)
  refine hQ () _ _ _ trivial ?_
  subst hΩ
  have h := qrk hP hR z1 x1 y1 z2 x2 y2
  rw [<- fI_d] at h
  exact qcE (qaO hP hR) h.1 h.2.1 h.2.2
def qgy (Ω : Om) : qe := fun args => match args with
 | [.ab (.pt P)] => ⟨True, Unit, fun _ => True, fun _ => .ab (.pt (Ω.hide _ fun _ => padd P P))⟩
 | _ => PR.none
theorem qrn : Ctr Tryz.prog T glob 145 (qgy Om.real) := by
 refine qap T_ok qg qh (fun Ω => [(84, qav Ω), (82, qbC Ω), (83, qch Ω), (80, qbQ Ω), (78, qbP Ω)]) [] (fun Ω => []) [] (qb qaE (qb qcR (qb qeE (qb qdt (qb qds qi))))) qj qk ql Tryz.func145 (by rfl) (by kernel_rfl) Tryz.call145 ?_ ?_
 ·intro args; unfold qgy; split
  ·exact qr (by repeat' constructor) (fun _ _ => rfl) (by repeat' constructor)
  ·exact PR.good_none
 ·intro P Ω hΩ hE hI hm args pr hs hp cs hcs Q hQ
  unfold qgy at hs
  split at hs <;> subst hs <;> try (exact hp.elim)
  rename_i P
  obtain ⟨_, _, rfl, ⟨X, Y, Z, rfl, hP, hz, hx, hy⟩, rfl⟩ := hcs
  refine ⟨1000, ?_⟩
  cbv
  repeat (constructor; (first | exact fun _ => trivial | exact fun _ _ => (by decide)); intro _ _; cbv)
  refine hQ () _ _ _ trivial ?_
  subst hΩ
  have h := qrl hP hz hx hy
  rw [<- fI_2] at h
  exact qcE (qaO hP hP) h.1 h.2.1 h.2.2
def qgz (Ω : Om) : qe := fun args => match args with
 | [.ab (.pt P)] => ⟨True, Unit, fun _ => True, fun _ => .ab (.pt (Ω.hide _ fun _ => pneg P))⟩
 | _ => PR.none
theorem qro : Ctr Tryz.prog T glob 136 (qgz Om.real) := by
 refine qap T_ok qg qh (fun Ω => [(81, qcP Ω)]) [] (fun Ω => []) [] (qb qgn qi) qj qk ql Tryz.func136 (by rfl) (by kernel_rfl) Tryz.call136 ?_ ?_
 ·intro args; unfold qgz; split
  ·exact qr (by repeat' constructor) (fun _ _ => rfl) (by repeat' constructor)
  ·exact PR.good_none
 ·intro P Ω hΩ hE hI hm args pr hs hp cs hcs Q hQ
  unfold qgz at hs
  split at hs <;> subst hs <;> try (exact hp.elim)
  rename_i P
  obtain ⟨_, _, rfl, ⟨X, Y, Z, rfl, hP, hz, hx, hy⟩, rfl⟩ := hcs
  refine ⟨1000, ?_⟩
  cbv
  repeat (constructor; (first | exact fun _ => trivial | exact fun _ _ => (by decide)); intro _ _; cbv)
  refine hQ () _ _ _ trivial ?_
  subst hΩ
  exact qcE (qbb hP) hz (by show -X = -P.x * Z; rw [hx]; grind -lia -linarith -order -ac (splits := 0)) hy
def qgA (Ω : Om) : qe := fun args => match args with
 | [.agg [.int .i64 b], .ab (.fe x), .ab (.fe y)] => ⟨True, Unit, fun _ => True, fun _ => .ab (.fe (Ω.hide _ fun _ => if b % 2 = 0 then x else y))⟩
 | _ => PR.none
theorem qrp : Ctr Tryz.prog T glob 224 (qgA Om.real) := by
 refine qq T_ok qg qh (fun Ω => [(182, qdu Ω)]) [] (fun Ω => []) [] (qb qi2 qi) qj qk ql Tryz.func224 (by rfl) (by kernel_rfl) Tryz.call224 ?_ ?_
 ·intro args; unfold qgA; split
  ·exact qr (by repeat' constructor) (fun _ _ => rfl) (by repeat' constructor)
  ·exact PR.good_none
 ·intro P Ω hΩ hE hI hm args pr hs hp Q hQ
  unfold qgA at hs
  split at hs <;> subst hs <;> try (exact hp.elim)
  rename_i b x y
  refine ⟨1000, ?_⟩
  cbv
  repeat (constructor; (first | exact fun _ => trivial | exact fun _ _ => (by decide)); intro _ _; cbv)
  exact hQ () _ _ _ trivial rfl
def qeI (Ω : Om) : qe := fun args => match args with
 | [.int .i64 b, .ab (.pt P), .ab (.pt Q)] => ⟨True, Unit, fun _ => True, fun _ => .ab (.pt (Ω.hide _ fun _ => if b % 2 = 0 then P else Q))⟩
 | _ => PR.none
theorem qmY : Ctr Tryz.prog T glob 147 (qeI Om.real) := by
 refine qap T_ok qg qh (fun Ω => [(224, qgA Ω)]) [] (fun Ω => []) [] (qb qrp qi) qj qk ql Tryz.func147 (by rfl) (by kernel_rfl) Tryz.call147 ?_ ?_
 ·intro args; unfold qeI; split
  ·exact qr (by repeat' constructor) (fun _ _ => rfl) (by repeat' constructor)
  ·exact PR.good_none
 ·intro P Ω hΩ hE hI hm args pr hs hp cs hcs Q hQ
  unfold qeI at hs
  split at hs <;> subst hs <;> try (exact hp.elim)
  rename_i b P R
  obtain ⟨_, _, rfl, rfl, _, _, rfl, ⟨X1, Y1, Z1, rfl, hP, z1, x1, y1⟩, _, _, rfl, ⟨X2, Y2, Z2, rfl, hR, z2, x2, y2⟩, rfl⟩ := hcs
  refine ⟨1000, ?_⟩
  cbv
  repeat (constructor; (first | exact fun _ => trivial | exact fun _ _ => (by decide)); intro _ _; cbv)
  refine hQ () _ _ _ trivial ?_
  subst hΩ
  by_cases hb : b % 2 = 0
  ·simp only [Om.real, if_pos hb]
   exact qcE hP z1 x1 y1
  ·simp only [Om.real, if_neg hb]
   exact qcE hR z2 x2 y2
def qgB (Ω : Om) : qe := fun args => match args with
 | [.ab (.fe x), .ab (.fe y)] => ⟨True, Bool, fun z => z = decide (AP.on ⟨x, y⟩), fun z => match z with | true => .tup [.ab (.pt (Ω.hide _ fun _ => ⟨x, y⟩)), .lit .i64 0] | false => .tup [.agg [.agg [.row .u64 8 [0, 0, 0, 0, 0, 0, 0, 0]], .agg [.row .u64 8 [0, 0, 0, 0, 0, 0, 0, 0]], .agg [.row .u64 8 [0, 0, 0, 0, 0, 0, 0, 0]]], .lit .i64 13]⟩
 | _ => PR.none
theorem qrq : Ctr Tryz.prog T glob 102 (qgB Om.real) := by
 refine qq T_ok qg qh (fun Ω => [(82, qbC Ω), (78, qbP Ω), (76, qbr Ω), (84, qav Ω), (83, qch Ω), (36, qcQ Ω)]) [] (fun Ω => []) [] (qb qcR (qb qds (qb qcg (qb qaE (qb qeE (qb qgo qi)))))) qj qk ql Tryz.func102 (by rfl) (by kernel_rfl) Tryz.call102 ?_ ?_
 ·intro args; unfold qgB; split
  ·exact qa8 ⟨fun x => by cases x <;> repeat' (first | exact trivial | constructor), fun E x b => by cases x <;> rfl⟩ (by repeat' (first | exact trivial | constructor)) (fun _ => ⟨_, rfl⟩)
  ·exact PR.good_none
 ·intro P Ω hΩ hE hI hm args pr hs hp Q hQ
  unfold qgB at hs
  split at hs <;> subst hs <;> try (exact hp.elim)
  rename_i x y
  refine ⟨1000, ?_⟩
  cbv
  repeat (constructor; (first | exact fun _ => trivial | exact fun _ _ => (by decide)); intro _ _; cbv)
  constructor
  ·intro hc
   cbv
   refine hQ false _ _ _ ?_ ?_
   ·subst hΩ
    have h : (!decide (x * x + y * y = fI 1 + x * x * (y * y) * fI (-39081))) = true := hc
    show false = decide (AP.on ⟨x, y⟩)
    rw [Bool.not_eq_true'] at h
    rw [<- h]; congr 1; exact propext (qmX x y)
   ·exact ⟨⟨⟨⟨⟨rfl, rfl, rfl⟩, trivial⟩, ⟨⟨rfl, rfl, rfl⟩, trivial⟩, ⟨⟨rfl, rfl, rfl⟩, trivial⟩, trivial⟩, ⟨rfl, rfl⟩, trivial⟩, rfl, rfl⟩
  ·intro hc
   cbv
   repeat (constructor; (first | exact fun _ => trivial | exact fun _ _ => (by decide)); intro _ _; cbv)
   have hon : AP.on ⟨x, y⟩ := by
    subst hΩ
    have h : (!decide (x * x + y * y = fI 1 + x * x * (y * y) * fI (-39081))) = false := hc
    rw [Bool.not_eq_false', decide_eq_true_eq] at h
    exact (qmX x y).1 h
   refine hQ true _ _ _ ?_ ?_
   ·exact (decide_eq_true hon).symm
   ·subst hΩ
    refine ⟨⟨qcE hon qmW ?_ ?_, ⟨rfl, rfl⟩, trivial⟩, rfl, rfl⟩
    ·show x = x * fI 1
     rw [qao]; grind -lia -linarith -order -ac (splits := 0)
    ·show y = y * fI 1
     rw [qao]; grind -lia -linarith -order -ac (splits := 0)
end Go.Sx.Tryz
end
section
set_option maxHeartbeats 4000000
namespace Go.Sx.Tryz
open Go.Proofs
def quF (Ω : Om) : qe := fun args => match args with
 | [.roi .u8 xs, .roi .u8 ys] => ⟨∀ _ : Unit, xs.length < 9223372036854775808 /\ ys.length < 9223372036854775808, Unit, fun _ => True, fun _ => .bs (Ω.hide _ fun _ => xs == ys)⟩
 | _ => PR.none
def qgD (Ω : Om) : qe := fun args => match args with
 | [.roa (.fe xs)] => ⟨∀ _ : Unit, xs.length < 9223372036854775808, Unit, fun _ => True, fun _ => .ab (.fe (Ω.hide _ fun _ => qV xs))⟩
 | _ => PR.none
theorem qrs : Ctr Tryz.prog T glob 110 (qgD Om.real) := by
 refine qq T_ok qg qh (fun Ω => [(84, qav Ω), (76, qbr Ω)]) [] (fun Ω => []) [] (qb qaE (qb qcg qi)) qj qk ql Tryz.func110 (by rfl) (by kernel_rfl) Tryz.call110 ?_ ?_
 ·intro args; unfold qgD; split
  ·exact qr (by repeat' constructor) (fun _ _ => rfl) (by repeat' constructor)
  ·exact PR.good_none
 ·intro P Ω hΩ hE hI hm args pr hs hp Q hQ
  unfold qgD at hs
  split at hs <;> subst hs <;> try (exact hp.elim)
  rename_i xs
  have hx := hp ()
  refine ⟨1000, ?_⟩
  cbv
  repeat (constructor; (first | exact fun _ => trivial | exact fun _ _ => (by decide)); intro _ _; cbv)
  obtain ⟨L, hL⟩ : ∃ L, L = xs.length := ⟨_, rfl⟩
  obtain ⟨one, hone⟩ : ∃ one, one = fI 1 := ⟨_, rfl⟩
  have hlo : Ω.hide Nat (fun _ => xs.length) = L := by subst hΩ; exact hL.symm
  rw [<- hL] at hx
  refine qt hE hI hm (fun z : Nat × Fp => (mkT 18 [(2, .ptr 0 (.l 0)), (3, .ptr 16 (.l 0)), (7, .roa (.fe xs)), (8, .int .i64 L), (9, .int .i64 z.1)], [(16, .ab (.fe z.2)), (0, .agg [.row .u64 8 [0, 0, 0, 0, 0, 0, 0, 0]])])) (fun z => z.1 <= L /\ z.2 = qV (xs.take z.1)) (fun z => L - z.1) 0 ⟨(0, one), [], ⟨Nat.zero_le _, hone⟩, Nat.le_refl _, ?_⟩ fun z hz => ⟨1000, ?_⟩
  ·cbv
   subst hΩ
   exact ⟨congrArg Int.ofNat hL.symm, rfl, congrArg Pay.fe hone.symm, trivial⟩
  obtain ⟨i, y⟩ := z
  obtain ⟨hi, hy⟩ : i <= L /\ y = qV (xs.take i) := hz
  cbv
  constructor
  ·intro hc
   cbv
   rw [hΩ] at hc; simp (disch := omega) only [Om.real, qc, decide_eq_true_eq, decide_eq_false_iff_not] at hc
   constructor
   ·intro _
    refine ⟨Int.natCast_nonneg _, ?_⟩
    show (i : Int) < ((Ω.hide Nat (fun _ => xs.length) : Nat) : Int)
    rw [hlo]; omega
   constructor
   ·intro _
    subst hΩ
    show i < xs.length; omega
   repeat (constructor; (first | exact fun _ => trivial | exact fun _ _ => (by decide)); intro _ _; cbv)
   obtain ⟨y2, hy2⟩ : ∃ y2, y2 = y * xs.getD i 0 := ⟨_, rfl⟩
   refine ⟨(i + 1, y2), [], ⟨hc, ?_⟩, by simp only; omega, Nat.zero_le _, ?_⟩
   ·show y2 = qV (xs.take (i + 1))
    rw [hy2, hy]
    exact qmZ xs i (by omega)
   cbv
   subst hΩ
   simp (disch := omega) only [Om.real, qc]
   exact ⟨trivial, ⟨by rw [hy2], trivial⟩⟩
  ·intro hc
   cbv
   rw [hΩ] at hc; simp (disch := omega) only [Om.real, qc, decide_eq_true_eq, decide_eq_false_iff_not] at hc
   have e : i = xs.length := by omega
   refine hQ () _ _ _ trivial ?_
   subst hΩ
   show Pay.fe y = Pay.fe (qV xs)
   rw [hy, e, List.take_length]
end Go.Sx.Tryz
end
section
set_option maxHeartbeats 4000000
namespace Go.Sx.Tryz
open Go.Proofs
set_option maxRecDepth 40000
def qgE (Ω : Om) : qe := fun args => match args with
 | [] => ⟨True, Unit, fun _ => True, fun _ => .tup [.ab (.fe (Ω.hide _ fun _ => qcT)), .ab (.fe (Ω.hide _ fun _ => qcU))]⟩
 | _ => PR.none
theorem qrt : Ctr Tryz.prog T glob 111 (qgE Om.real) := by
 refine qq T_ok qg qh (fun Ω => [(76, qbr Ω), (195, qgu Ω), (87, qdy Ω)]) [] (fun Ω => []) [] (qb qcg (qb qra (qb qi7 qi))) qj qk ql Tryz.func111 (by rfl) (by kernel_rfl) Tryz.call111 ?_ ?_
 ·intro args; unfold qgE; split
  ·exact qr (by repeat' constructor) (fun _ _ => rfl) (by repeat' constructor)
  ·exact PR.good_none
 ·intro P Ω hΩ hE hI hm args pr hs hp Q hQ
  unfold qgE at hs
  split at hs <;> subst hs <;> try (exact hp.elim)
  refine ⟨1000, ?_⟩
  cbv
  constructor
  ·exact fun _ _ => (by decide)
  intro _ _
  cbv
  constructor
  ·exact fun _ => trivial
  intro z hz
  have hz1 : z = true := by
   subst hΩ
   rw [show z = _ from hz]
   exact decide_eq_true (qgC pw_d)
  subst hz1
  cbv
  constructor
  ·exact fun _ _ => (by decide)
  intro _ _
  cbv
  constructor
  ·exact fun _ => trivial
  intro _ _
  cbv
  constructor
  ·exact fun _ => trivial
  intro z hz
  have hz1 : z = true := by
   subst hΩ
   rw [show z = _ from hz]
   exact decide_eq_true (qgC pw_e)
  subst hz1
  cbv
  refine hQ () _ _ _ trivial ?_
  subst hΩ
  exact ⟨⟨rfl, rfl, trivial⟩, rfl, rfl⟩
def qcV (Ω : Om) : qe := fun args => match args with
 | [] => ⟨True, Unit, fun _ => True, fun _ => .ab (.pt (Ω.hide _ fun _ => pid))⟩
 | _ => PR.none
theorem qgF : Ctr Tryz.prog T glob 49 (qcV Om.real) := by
 refine qq T_ok qg qh (fun Ω => [(120, qdA Ω)]) [] (fun Ω => []) [] (qb qi9 qi) qj qk ql Tryz.func49 (by rfl) (by kernel_rfl) Tryz.call49 ?_ ?_
 ·intro args; unfold qcV; split
  ·exact qr (by repeat' constructor) (fun _ _ => rfl) (by repeat' constructor)
  ·exact PR.good_none
 ·intro P Ω hΩ hE hI hm args pr hs hp Q hQ
  unfold qcV at hs
  split at hs <;> subst hs <;> try (exact hp.elim)
  refine ⟨1000, ?_⟩
  cbv
  repeat (constructor; (first | exact fun _ => trivial | exact fun _ _ => (by decide)); intro _ _; cbv)
  refine hQ () _ _ _ trivial ?_
  subst hΩ
  rfl
def qeJ (Ω : Om) : qe := fun args => match args with
 | [.ab (.pt P), .ab (.pt Q)] => ⟨True, Unit, fun _ => True, fun _ => .ab (.pt (Ω.hide _ fun _ => padd P Q))⟩
 | _ => PR.none
theorem qm0 : Ctr Tryz.prog T glob 41 (qeJ Om.real) := by
 refine qq T_ok qg qh (fun Ω => [(60, qdC Ω)]) [] (fun Ω => []) [] (qb qjb qi) qj qk ql Tryz.func41 (by rfl) (by kernel_rfl) Tryz.call41 ?_ ?_
 ·intro args; unfold qeJ; split
  ·exact qr (by repeat' constructor) (fun _ _ => rfl) (by repeat' constructor)
  ·exact PR.good_none
 ·intro P Ω hΩ hE hI hm args pr hs hp Q hQ
  unfold qeJ at hs
  split at hs <;> subst hs <;> try (exact hp.elim)
  refine ⟨1000, ?_⟩
  cbv
  repeat (constructor; (first | exact fun _ => trivial | exact fun _ _ => (by decide)); intro _ _; cbv)
  refine hQ () _ _ _ trivial ?_
  subst hΩ
  rfl
def qeK (Ω : Om) : qe := fun args => match args with
 | [.ab (.pt P), .ab (.pt Q)] => ⟨True, Unit, fun _ => True, fun _ => .bs (Ω.hide _ fun _ => decide (P.x * Q.y = P.y * Q.x))⟩
 | _ => PR.none
theorem qm1 : Ctr Tryz.prog T glob 35 (qeK Om.real) := by
 refine qq T_ok qg qh (fun Ω => [(105, qdB Ω), (84, qav Ω), (36, qcQ Ω)]) [] (fun Ω => []) [] (qb qja (qb qaE (qb qgo qi))) qj qk ql Tryz.func35 (by rfl) (by kernel_rfl) Tryz.call35 ?_ ?_
 ·intro args; unfold qeK; split
  ·exact qr (by repeat' constructor) (fun _ _ => rfl) (by repeat' constructor)
  ·exact PR.good_none
 ·intro P Ω hΩ hE hI hm args pr hs hp Q hQ
  unfold qeK at hs
  split at hs <;> subst hs <;> try (exact hp.elim)
  refine ⟨1000, ?_⟩
  cbv
  repeat (constructor; (first | exact fun _ => trivial | exact fun _ _ => (by decide)); intro _ _; cbv)
  refine hQ () _ _ _ trivial ?_
  subst hΩ
  rfl
def qgG (Ω : Om) : qe := fun args => match args with
 | [.ab (.pt P)] => ⟨True, List Int × Nat, fun z => z.1 = qae (encF P) /\ z.1.length <= z.2, fun z => .fr .u8 z.1 z.2⟩
 | _ => PR.none
theorem qru : Ctr Tryz.prog T glob 44 (qgG Om.real) := by
 refine qq T_ok qg qh (fun Ω => [(105, qdB Ω), (84, qav Ω), (78, qbP Ω), (80, qbQ Ω), (76, qbr Ω), (110, qgD Ω), (83, qch Ω), (85, qeG Ω), (111, qgE Ω), (89, qcS Ω), (98, qeA Ω)]) [] (fun Ω => []) [] (qb qja (qb qaE (qb qds (qb qdt (qb qcg (qb qrs (qb qeE (qb qmV (qb qrt (qb qgt (qb qmM qi))))))))))) qj qk ql Tryz.func44 (by rfl) (by kernel_rfl) Tryz.call44 ?_ ?_
 ·intro args; unfold qgG; split
  ·exact qaZ ⟨trivial, trivial⟩ fun _ => qa0 _
  ·exact PR.good_none
 ·intro P Ω hΩ hE hI hm args pr hs hp Q hQ
  unfold qgG at hs
  split at hs <;> subst hs <;> try (exact hp.elim)
  rename_i P
  refine ⟨1000, ?_⟩
  cbv
  repeat (first | (constructor; (first | exact fun _ => trivial | exact fun _ _ => (by decide)); intro _ _; cbv) | (refine ⟨fun _ => ⟨trivial, trivial⟩, fun _ _ => (Nat.le_of_ble_eq_true rfl), ?_⟩; intro _ _; cbv))
  rename_i w hw
  have hw : w.1 = qae (encF P) /\ w.1.length <= w.2 := by subst hΩ; exact hw
  refine hQ w _ _ _ hw ?_
  subst hΩ
  exact ⟨rfl, rfl, by show 0 + w.1.length <= w.1.length; omega, List.take_length.symm⟩
end Go.Sx.Tryz
end
section

end
