/-
  Part of the proof of a statement: the means.
-/
import Derived.Test.YtpnebmmjpapopaaGreatDoorX81
import Derived.Test.YtpnebmmjpapopaaGreatDoorX19
import Derived.Test.YtpnebmmjpapopaaGreatDoorX10
set_option linter.unusedSectionVars false
set_option linter.unusedVariables false
set_option linter.unusedSimpArgs false
set_option linter.deprecated false
section
set_option maxHeartbeats 4000000
namespace Go.Sx.Tryz
open Go.Proofs
set_option maxRecDepth 40000
def qg6 (Ω : Om) : qe := fun args => match args with
 | [.ab (.fe a), .rop (.ab (.fe o)) (.l 0)] => ⟨True, Unit, fun _ => True, fun _ => .ab (.fe (Ω.hide _ fun _ => a + o))⟩
 | _ => PR.none
theorem qsZ : Ctr Tryz.prog T glob 77 (qg6 Om.real) := by
 refine qo T_ok qg qh (fun Ω => [(78, qbL Ω)]) [] (fun Ω => []) [] (qb qc6 qi) qj qk ql Tryz.func77 (by rfl) (by kernel_rfl) Tryz.call77 ?_ ?_
 ·intro args; unfold qg6; split
  ·exact qq (by repeat' constructor) (fun _ _ => rfl) (by repeat' constructor)
  ·exact PR.good_none
 ·intro P Ω hΩ hE hI hm args pr hs hp Q hQ
  unfold qg6 at hs
  split at hs <;> subst hs <;> try (exact hp.elim)
  rename_i a o
  refine ⟨1000, ?_⟩
  conv => cbv
  repeat (constructor; (first | exact fun (_ : Unit) => trivial | exact fun (_ : Unit) (_ : Unit) => (by decide)); intro _ _; conv => cbv)
  exact hQ () _ _ _ trivial rfl
def qg7 (Ω : Om) : qe := fun args => match args with
 | [.ab (.fe a), .rop (.ab (.fe o)) (.l 0)] => ⟨True, Unit, fun _ => True, fun _ => .ab (.fe (Ω.hide _ fun _ => a - o))⟩
 | _ => PR.none
theorem qs0 : Ctr Tryz.prog T glob 79 (qg7 Om.real) := by
 refine qo T_ok qg qh (fun Ω => [(80, qbM Ω)]) [] (fun Ω => []) [] (qb qc7 qi) qj qk ql Tryz.func79 (by rfl) (by kernel_rfl) Tryz.call79 ?_ ?_
 ·intro args; unfold qg7; split
  ·exact qq (by repeat' constructor) (fun _ _ => rfl) (by repeat' constructor)
  ·exact PR.good_none
 ·intro P Ω hΩ hE hI hm args pr hs hp Q hQ
  unfold qg7 at hs
  split at hs <;> subst hs <;> try (exact hp.elim)
  rename_i a o
  refine ⟨1000, ?_⟩
  conv => cbv
  repeat (constructor; (first | exact fun (_ : Unit) => trivial | exact fun (_ : Unit) (_ : Unit) => (by decide)); intro _ _; conv => cbv)
  exact hQ () _ _ _ trivial rfl
def qg8 (Ω : Om) : qe := fun args => match args with
 | [.ab (.fe a), .ab (.fe b)] => ⟨True, Unit, fun _ => True, fun _ => .ab (.fe (Ω.hide _ fun _ => a * finv b))⟩
 | _ => PR.none
theorem qs1 : Ctr Tryz.prog T glob 86 (qg8 Om.real) := by
 refine qo T_ok qg qh (fun Ω => [(84, qat Ω), (87, qdL Ω)]) [] (fun Ω => []) [] (qb qaG (qb qiX qi)) qj qk ql Tryz.func86 (by rfl) (by kernel_rfl) Tryz.call86 ?_ ?_
 ·intro args; unfold qg8; split
  ·exact qq (by repeat' constructor) (fun _ _ => rfl) (by repeat' constructor)
  ·exact PR.good_none
 ·intro P Ω hΩ hE hI hm args pr hs hp Q hQ
  unfold qg8 at hs
  split at hs <;> subst hs <;> try (exact hp.elim)
  rename_i a b
  refine ⟨1000, ?_⟩
  conv => cbv
  repeat (constructor; (first | exact fun (_ : Unit) => trivial | exact fun (_ : Unit) (_ : Unit) => (by decide)); intro _ _; conv => cbv)
  refine hQ () _ _ _ trivial ?_
  subst hΩ
  rfl
def qg9 (Ω : Om) : qe := fun args => match args with
 | [.roa (.fe xs)] => ⟨∀ _ : Unit, xs.length < 9223372036854775808, Unit, fun _ => True, fun _ => .ab (.fe (Ω.hide _ fun _ => qA xs))⟩
 | _ => PR.none
theorem qs2 : Ctr Tryz.prog T glob 88 (qg9 Om.real) := by
 refine qo T_ok qg qh (fun Ω => [(84, qat Ω), (76, qbg Ω)]) [] (fun Ω => []) [] (qb qaG (qb qca qi)) qj qk ql Tryz.func88 (by rfl) (by kernel_rfl) Tryz.call88 ?_ ?_
 ·intro args; unfold qg9; split
  ·exact qq (by repeat' constructor) (fun _ _ => rfl) (by repeat' constructor)
  ·exact PR.good_none
 ·intro P Ω hΩ hE hI hm args pr hs hp Q hQ
  unfold qg9 at hs
  split at hs <;> subst hs <;> try (exact hp.elim)
  rename_i xs
  have hx := hp ()
  refine ⟨1000, ?_⟩
  conv => cbv
  repeat (constructor; (first | exact fun (_ : Unit) => trivial | exact fun (_ : Unit) (_ : Unit) => (by decide)); intro _ _; conv => cbv)
  obtain ⟨L, hL⟩ : ∃ L, L = xs.length := ⟨_, rfl⟩
  obtain ⟨one, hone⟩ : ∃ one, one = fI 1 := ⟨_, rfl⟩
  have hlo : Ω.hide Nat (fun _ => xs.length) = L := by subst hΩ; exact hL.symm
  rw [<- hL] at hx
  refine qu hE hI hm (fun z : Nat × Fp => (mkT 18 [(2, .ptr 0 (.l 0)), (3, .ptr 16 (.l 0)), (7, .roa (.fe xs)), (8, .int .i64 L), (9, .int .i64 z.1)], [(16, .ab (.fe z.2)), (0, .agg [.row .u64 8 [0, 0, 0, 0, 0, 0, 0, 0]])])) (fun z => z.1 <= L /\ z.2 = qA (xs.take z.1)) (fun z => L - z.1) 0 ⟨(0, one), [], ⟨Nat.zero_le _, hone⟩, Nat.le_refl _, ?_⟩ fun z hz => ⟨1000, ?_⟩
  ·conv => cbv
   subst hΩ
   exact ⟨congrArg Int.ofNat hL.symm, rfl, congrArg Pay.fe hone.symm, trivial⟩
  obtain ⟨i, y⟩ := z
  obtain ⟨hi, hy⟩ : i <= L /\ y = qA (xs.take i) := hz
  conv => cbv
  constructor
  ·intro hc
   cbv
   rw [hΩ] at hc; simp (disch := omega) only [Om.real, qc, decide_eq_true_eq, decide_eq_false_iff_not] at hc
   constructor
   ·intro _
    refine ⟨Int.natCast_nonneg _, ?_⟩
    show (i : Int) < ((Ω.hide Nat (fun _ => xs.length) : Nat) : Int)
    rw [hlo]; omega
   constructor
   ·intro _
    subst hΩ
    show i < xs.length; omega
   repeat (constructor; (first | exact fun (_ : Unit) => trivial | exact fun (_ : Unit) (_ : Unit) => (by decide)); intro _ _; conv => cbv)
   obtain ⟨y2, hy2⟩ : ∃ y2, y2 = y * xs.getD i 0 := ⟨_, rfl⟩
   refine ⟨(i + 1, y2), [], ⟨hc, ?_⟩, by simp only; omega, Nat.zero_le _, ?_⟩
   ·show y2 = qA (xs.take (i + 1))
    rw [hy2, hy]
    exact qmQ xs i (by omega)
   conv => cbv
   subst hΩ
   simp (disch := omega) only [Om.real, qc]
   exact ⟨trivial, ⟨by rw [hy2], trivial⟩⟩
  ·intro hc
   cbv
   rw [hΩ] at hc; simp (disch := omega) only [Om.real, qc, decide_eq_true_eq, decide_eq_false_iff_not] at hc
   have e : i = xs.length := by omega
   refine hQ () _ _ _ trivial ?_
   subst hΩ
   show Pay.fe y = Pay.fe (qA xs)
   rw [hy, e, List.take_length]
def qfa (Ω : Om) : qe := fun args => match args with
 | [.roi .u8 bs] => ⟨∀ _ : Unit, (∀ a ∈ bs, 0 <= a /\ a < 256) /\ bs.length < 9223372036854775808, Bool, fun z => z = (bs.length == 56), fun z => match z with | true => .tup [.ab (.fe (Ω.hide _ fun _ => eS (fI (qd bs)))), .ab (.fe (Ω.hide _ fun _ => eX (fI (qd bs)))), .ab (.fe (Ω.hide _ fun _ => eY (fI (qd bs)))), .lit .i64 0] | false => .tup [.ab (.fe (Ω.hide _ fun _ => fI 0)), .ab (.fe (Ω.hide _ fun _ => fI 0)), .ab (.fe (Ω.hide _ fun _ => fI 0)), .lit .i64 11]⟩
 | _ => PR.none
theorem qnZ : Ctr Tryz.prog T glob 27 (qfa Om.real) := by
 refine qo T_ok qg qh (fun Ω => [(75, qeM Ω), (76, qbg Ω), (82, qbz Ω), (81, qc8 Ω), (79, qg7 Ω), (83, qcb Ω), (77, qg6 Ω), (80, qbM Ω), (84, qat Ω), (85, qdM Ω), (88, qg9 Ω), (78, qbL Ω), (86, qg8 Ω), (89, qcC Ω)]) [] (fun Ω => []) [] (qb qmt (qb qca (qb qcB (qb qgz (qb qs0 (qb qdJ (qb qsZ (qb qc7 (qb qaG (qb qiY (qb qs2 (qb qc6 (qb qs1 (qb qeU qi)))))))))))))) qj qk ql Tryz.func27 (by rfl) (by kernel_rfl) Tryz.call27 ?_ ?_
 ·intro args; unfold qfa; split
  ·exact qbf ⟨fun x => by cases x <;> repeat' (first | exact trivial | constructor), fun E x b => by cases x <;> rfl⟩ (by repeat' (first | exact trivial | constructor)) (fun _ => ⟨_, rfl⟩)
  ·exact PR.good_none
 ·intro P Ω hΩ hE hI hm args pr hs hp Q hQ
  unfold qfa at hs
  split at hs <;> subst hs <;> try (exact hp.elim)
  rename_i bs
  obtain ⟨hb, hl⟩ := hp ()
  obtain ⟨t, ht⟩ : ∃ t, t = fI (qd bs) := ⟨_, rfl⟩
  refine ⟨1000, ?_⟩
  conv => cbv
  constructor
  ·exact fun _ _ => hb
  intro z hz
  cases z with
  | false =>
    conv => cbv
    repeat (constructor; (first | exact fun (_ : Unit) => trivial | exact fun (_ : Unit) (_ : Unit) => (by decide)); intro _ _; conv => cbv)
    refine hQ false _ _ _ hz ?_
    subst hΩ
    exact ⟨⟨rfl, rfl, rfl, ⟨rfl, rfl⟩, trivial⟩, rfl, rfl⟩
  | true =>
    conv => cbv
    repeat (first | (constructor; (first | exact fun (_ : Unit) => trivial | exact fun (_ : Unit) (_ : Unit) => (by decide)); intro _ _; conv => cbv) | (refine ⟨fun _ => ⟨trivial, trivial⟩, fun _ _ => (Nat.le_of_ble_eq_true rfl), ?_⟩; intro _ _; conv => cbv))
    constructor
    · intro hc
      have hIs : eI t = false := by
        rw [ht]
        subst hΩ
        have h2 : (!(eI (fI (qd bs)))) = true := hc
        rwa [Bool.not_eq_true'] at h2
      conv => cbv
      repeat (first | (constructor; (first | exact fun (_ : Unit) => trivial | exact fun (_ : Unit) (_ : Unit) => (by decide)); intro _ _; conv => cbv) | (refine ⟨fun _ => ⟨trivial, trivial⟩, fun _ _ => (Nat.le_of_ble_eq_true rfl), ?_⟩; intro _ _; conv => cbv))
      refine hQ true _ _ _ hz ?_
      subst hΩ
      refine ⟨⟨?_, ?_, ?_, ⟨rfl, rfl⟩, trivial⟩, rfl, rfl⟩
      · show Pay.fe (fI (qd bs) * eQ (fI (qd bs)) * (eR (fI (qd bs)) + fI 1)) = Pay.fe (eS (fI (qd bs)))
        rw [<- ht, eS_f hIs]
      · show Pay.fe (fabs (fI (qd bs) * eQ (fI (qd bs)) * (eR (fI (qd bs)) + fI 1)) * fI 2 * finv (fI (qd bs) * eQ (fI (qd bs)) * (eR (fI (qd bs)) + fI 1) * (fI (qd bs) * eQ (fI (qd bs)) * (eR (fI (qd bs)) + fI 1)) + fI 1)) = Pay.fe (eX (fI (qd bs)))
        rw [<- ht, <- eS_f hIs]
        rfl
      · show Pay.fe ((fI (qd bs) * eQ (fI (qd bs)) * (eR (fI (qd bs)) + fI 1) * (fI (qd bs) * eQ (fI (qd bs)) * (eR (fI (qd bs)) + fI 1)) - fI 1) * finv (qA [fI (qd bs) * eQ (fI (qd bs)), fI (qd bs) * eQ (fI (qd bs)) * (eR (fI (qd bs)) + fI 1), eR (fI (qd bs)) - fI 1] * fI 78163 + -fI 1)) = Pay.fe (eY (fI (qd bs)))
        rw [<- ht, <- eS_f hIs, eY_f hIs]
    · intro hc
      have hIs : eI t = true := by
        rw [ht]
        subst hΩ
        have h2 : (!(eI (fI (qd bs)))) = false := hc
        rwa [Bool.not_eq_false'] at h2
      conv => cbv
      repeat (first | (constructor; (first | exact fun (_ : Unit) => trivial | exact fun (_ : Unit) (_ : Unit) => (by decide)); intro _ _; conv => cbv) | (refine ⟨fun _ => ⟨trivial, trivial⟩, fun _ _ => (Nat.le_of_ble_eq_true rfl), ?_⟩; intro _ _; conv => cbv))
      refine hQ true _ _ _ hz ?_
      subst hΩ
      refine ⟨⟨?_, ?_, ?_, ⟨rfl, rfl⟩, trivial⟩, rfl, rfl⟩
      · show Pay.fe (eQ (fI (qd bs)) * (eR (fI (qd bs)) + fI 1)) = Pay.fe (eS (fI (qd bs)))
        rw [<- ht, eS_t hIs]
      · show Pay.fe (fabs (eQ (fI (qd bs)) * (eR (fI (qd bs)) + fI 1)) * fI 2 * finv (eQ (fI (qd bs)) * (eR (fI (qd bs)) + fI 1) * (eQ (fI (qd bs)) * (eR (fI (qd bs)) + fI 1)) + fI 1)) = Pay.fe (eX (fI (qd bs)))
        rw [<- ht, <- eS_t hIs]
        rfl
      · show Pay.fe ((eQ (fI (qd bs)) * (eR (fI (qd bs)) + fI 1) * (eQ (fI (qd bs)) * (eR (fI (qd bs)) + fI 1)) - fI 1) * finv (qA [eQ (fI (qd bs)), eQ (fI (qd bs)) * (eR (fI (qd bs)) + fI 1), eR (fI (qd bs)) - fI 1] * fI 78163 + fI 1)) = Pay.fe (eY (fI (qd bs)))
        rw [<- ht, <- eS_t hIs, eY_t hIs]
end Go.Sx.Tryz
end
section

end
