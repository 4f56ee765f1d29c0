/-
  Part of the proof of a statement: the means.
-/
import Derived.Test.YtpnebmmjpapopaaGreatDoorX81
import Derived.Test.YtpnebmmjpapopaaGreatDoorX19
import Derived.Test.YtpnebmmjpapopaaGreatDoorX10
set_option linter.unusedSectionVars false
set_option linter.unusedVariables false
set_option linter.unusedSimpArgs false
set_option linter.deprecated false
section
set_option maxHeartbeats 4000000
namespace Go.Sx.Tryz
open Go.Proofs
set_option maxRecDepth 40000
def qgF (Ω : Om) : qe := fun args => match args with
 | [.ab (.fe a), .rop (.ab (.fe o)) (.l 0)] => ⟨True, Unit, fun _ => True, fun _ => .ab (.fe (Ω.hide _ fun _ => a + o))⟩
 | _ => PR.none
theorem qsu : Ctr Tryz.prog T glob 77 (qgF Om.real) := by
 refine qo T_ok qg qh (fun Ω => [(78, qb7 Ω)]) [] (fun Ω => []) [] (qb qej qi) qj qk ql Tryz.func77 (by rfl) (by kernel_rfl) Tryz.call77 ?_ ?_
 ·intro args; unfold qgF; split
  ·exact qr (by repeat' constructor) (fun _ _ => rfl) (by repeat' constructor)
  ·exact PR.good_none
 ·intro P Ω hΩ hE hI hm args pr hs hp Q hQ
  unfold qgF at hs
  split at hs <;> subst hs <;> try (exact hp.elim)
  rename_i a o
  refine ⟨1000, ?_⟩
  conv => cbv
  repeat (constructor; (first | exact fun (_ : Unit) => trivial | exact fun (_ : Unit) (_ : Unit) => (by decide)); intro _ _; conv => cbv)
  exact hQ () _ _ _ trivial rfl
def qgG (Ω : Om) : qe := fun args => match args with
 | [.ab (.fe a), .rop (.ab (.fe o)) (.l 0)] => ⟨True, Unit, fun _ => True, fun _ => .ab (.fe (Ω.hide _ fun _ => a - o))⟩
 | _ => PR.none
theorem qsv : Ctr Tryz.prog T glob 79 (qgG Om.real) := by
 refine qo T_ok qg qh (fun Ω => [(80, qb8 Ω)]) [] (fun Ω => []) [] (qb qek qi) qj qk ql Tryz.func79 (by rfl) (by kernel_rfl) Tryz.call79 ?_ ?_
 ·intro args; unfold qgG; split
  ·exact qr (by repeat' constructor) (fun _ _ => rfl) (by repeat' constructor)
  ·exact PR.good_none
 ·intro P Ω hΩ hE hI hm args pr hs hp Q hQ
  unfold qgG at hs
  split at hs <;> subst hs <;> try (exact hp.elim)
  rename_i a o
  refine ⟨1000, ?_⟩
  conv => cbv
  repeat (constructor; (first | exact fun (_ : Unit) => trivial | exact fun (_ : Unit) (_ : Unit) => (by decide)); intro _ _; conv => cbv)
  exact hQ () _ _ _ trivial rfl
def qgH (Ω : Om) : qe := fun args => match args with
 | [.ab (.fe a), .ab (.fe b)] => ⟨True, Unit, fun _ => True, fun _ => .ab (.fe (Ω.hide _ fun _ => a * finv b))⟩
 | _ => PR.none
theorem qsw : Ctr Tryz.prog T glob 86 (qgH Om.real) := by
 refine qo T_ok qg qh (fun Ω => [(84, qaD Ω), (87, qeu Ω)]) [] (fun Ω => []) [] (qb qa0 (qb qmr qi)) qj qk ql Tryz.func86 (by rfl) (by kernel_rfl) Tryz.call86 ?_ ?_
 ·intro args; unfold qgH; split
  ·exact qr (by repeat' constructor) (fun _ _ => rfl) (by repeat' constructor)
  ·exact PR.good_none
 ·intro P Ω hΩ hE hI hm args pr hs hp Q hQ
  unfold qgH at hs
  split at hs <;> subst hs <;> try (exact hp.elim)
  rename_i a b
  refine ⟨1000, ?_⟩
  conv => cbv
  repeat (constructor; (first | exact fun (_ : Unit) => trivial | exact fun (_ : Unit) (_ : Unit) => (by decide)); intro _ _; conv => cbv)
  refine hQ () _ _ _ trivial ?_
  subst hΩ
  rfl
def qgI (Ω : Om) : qe := fun args => match args with
 | [.roa (.fe xs)] => ⟨∀ _ : Unit, xs.length < 9223372036854775808, Unit, fun _ => True, fun _ => .ab (.fe (Ω.hide _ fun _ => qaw xs))⟩
 | _ => PR.none
theorem qsx : Ctr Tryz.prog T glob 88 (qgI Om.real) := by
 refine qo T_ok qg qh (fun Ω => [(84, qaD Ω), (76, qcc Ω)]) [] (fun Ω => []) [] (qb qa0 (qb qen qi)) qj qk ql Tryz.func88 (by rfl) (by kernel_rfl) Tryz.call88 ?_ ?_
 ·intro args; unfold qgI; split
  ·exact qr (by repeat' constructor) (fun _ _ => rfl) (by repeat' constructor)
  ·exact PR.good_none
 ·intro P Ω hΩ hE hI hm args pr hs hp Q hQ
  unfold qgI at hs
  split at hs <;> subst hs <;> try (exact hp.elim)
  rename_i xs
  have hx := hp ()
  refine ⟨1000, ?_⟩
  conv => cbv
  repeat (constructor; (first | exact fun (_ : Unit) => trivial | exact fun (_ : Unit) (_ : Unit) => (by decide)); intro _ _; conv => cbv)
  obtain ⟨L, hL⟩ : ∃ L, L = xs.length := ⟨_, rfl⟩
  obtain ⟨one, hone⟩ : ∃ one, one = fI 1 := ⟨_, rfl⟩
  have hlo : Ω.hide Nat (fun _ => xs.length) = L := by subst hΩ; exact hL.symm
  rw [<- hL] at hx
  refine qt hE hI hm (fun z : Nat × Fp => (mkT 18 [(2, .ptr 0 (.l 0)), (3, .ptr 16 (.l 0)), (7, .roa (.fe xs)), (8, .int .i64 L), (9, .int .i64 z.1)], [(16, .ab (.fe z.2)), (0, .agg [.row .u64 8 [0, 0, 0, 0, 0, 0, 0, 0]])])) (fun z => z.1 <= L /\ z.2 = qaw (xs.take z.1)) (fun z => L - z.1) 0 ⟨(0, one), [], ⟨Nat.zero_le _, hone⟩, Nat.le_refl _, ?_⟩ fun z hz => ⟨1000, ?_⟩
  ·conv => cbv
   subst hΩ
   exact ⟨congrArg Int.ofNat hL.symm, rfl, congrArg Pay.fe hone.symm, trivial⟩
  obtain ⟨i, y⟩ := z
  obtain ⟨hi, hy⟩ : i <= L /\ y = qaw (xs.take i) := hz
  conv => cbv
  constructor
  ·intro hc
   cbv
   rw [hΩ] at hc; simp (disch := omega) only [Om.real, qd, decide_eq_true_eq, decide_eq_false_iff_not] at hc
   constructor
   ·intro _
    refine ⟨Int.natCast_nonneg _, ?_⟩
    show (i : Int) < ((Ω.hide Nat (fun _ => xs.length) : Nat) : Int)
    rw [hlo]; omega
   constructor
   ·intro _
    subst hΩ
    show i < xs.length; omega
   repeat (constructor; (first | exact fun (_ : Unit) => trivial | exact fun (_ : Unit) (_ : Unit) => (by decide)); intro _ _; conv => cbv)
   obtain ⟨y2, hy2⟩ : ∃ y2, y2 = y * xs.getD i 0 := ⟨_, rfl⟩
   refine ⟨(i + 1, y2), [], ⟨hc, ?_⟩, by simp only; omega, Nat.zero_le _, ?_⟩
   ·show y2 = qaw (xs.take (i + 1))
    rw [hy2, hy]
    exact qqY xs i (by omega)
   conv => cbv
   subst hΩ
   simp (disch := omega) only [Om.real, qd]
   exact ⟨trivial, ⟨by rw [hy2], trivial⟩⟩
  ·intro hc
   cbv
   rw [hΩ] at hc; simp (disch := omega) only [Om.real, qd, decide_eq_true_eq, decide_eq_false_iff_not] at hc
   have e : i = xs.length := by omega
   refine hQ () _ _ _ trivial ?_
   subst hΩ
   show Pay.fe y = Pay.fe (qaw xs)
   rw [hy, e, List.take_length]
def qeI (Ω : Om) : qe := fun args => match args with
 | [.roi .u8 bs] => ⟨∀ _ : Unit, (∀ a ∈ bs, 0 <= a /\ a < 256) /\ bs.length < 9223372036854775808, Bool, fun z => z = (bs.length == 56), fun z => match z with | true => .tup [.ab (.fe (Ω.hide _ fun _ => eS (fI (qc bs)))), .ab (.fe (Ω.hide _ fun _ => eX (fI (qc bs)))), .ab (.fe (Ω.hide _ fun _ => eY (fI (qc bs)))), .lit .i64 0] | false => .tup [.ab (.fe (Ω.hide _ fun _ => fI 0)), .ab (.fe (Ω.hide _ fun _ => fI 0)), .ab (.fe (Ω.hide _ fun _ => fI 0)), .lit .i64 11]⟩
 | _ => PR.none
theorem qnq : Ctr Tryz.prog T glob 27 (qeI Om.real) := by
 refine qo T_ok qg qh (fun Ω => [(75, qf6 Ω), (76, qcc Ω), (82, qbM Ω), (81, qcL Ω), (79, qgG Ω), (83, qcM Ω), (77, qgF Ω), (80, qb8 Ω), (84, qaD Ω), (85, qge Ω), (88, qgI Ω), (78, qb7 Ω), (86, qgH Ω), (89, qet Ω)]) [] (fun Ω => []) [] (qb qp9 (qb qen (qb qdm (qb qf8 (qb qsv (qb qgb (qb qsu (qb qek (qb qa0 (qb qqG (qb qsx (qb qej (qb qsw (qb qmq qi)))))))))))))) qj qk ql Tryz.func27 (by rfl) (by kernel_rfl) Tryz.call27 ?_ ?_
 ·intro args; unfold qeI; split
  ·exact qbo ⟨fun x => by cases x <;> repeat' (first | exact trivial | constructor), fun E x b => by cases x <;> rfl⟩ (by repeat' (first | exact trivial | constructor)) (fun _ => ⟨_, rfl⟩)
  ·exact PR.good_none
 ·intro P Ω hΩ hE hI hm args pr hs hp Q hQ
  unfold qeI at hs
  split at hs <;> subst hs <;> try (exact hp.elim)
  rename_i bs
  obtain ⟨hb, hl⟩ := hp ()
  obtain ⟨t, ht⟩ : ∃ t, t = fI (qc bs) := ⟨_, rfl⟩
  refine ⟨1000, ?_⟩
  conv => cbv
  constructor
  ·exact fun _ _ => hb
  intro z hz
  cases z with
  | false =>
    conv => cbv
    repeat (constructor; (first | exact fun (_ : Unit) => trivial | exact fun (_ : Unit) (_ : Unit) => (by decide)); intro _ _; conv => cbv)
    refine hQ false _ _ _ hz ?_
    subst hΩ
    exact ⟨⟨rfl, rfl, rfl, ⟨rfl, rfl⟩, trivial⟩, rfl, rfl⟩
  | true =>
    conv => cbv
    repeat (first | (constructor; (first | exact fun (_ : Unit) => trivial | exact fun (_ : Unit) (_ : Unit) => (by decide)); intro _ _; conv => cbv) | (refine ⟨fun _ => ⟨trivial, trivial⟩, fun _ _ => (Nat.le_of_ble_eq_true rfl), ?_⟩; intro _ _; conv => cbv))
    constructor
    · intro hc
      have hIs : eI t = false := by
        rw [ht]
        subst hΩ
        have h2 : (!(eI (fI (qc bs)))) = true := hc
        rwa [Bool.not_eq_true'] at h2
      conv => cbv
      repeat (first | (constructor; (first | exact fun (_ : Unit) => trivial | exact fun (_ : Unit) (_ : Unit) => (by decide)); intro _ _; conv => cbv) | (refine ⟨fun _ => ⟨trivial, trivial⟩, fun _ _ => (Nat.le_of_ble_eq_true rfl), ?_⟩; intro _ _; conv => cbv))
      refine hQ true _ _ _ hz ?_
      subst hΩ
      refine ⟨⟨?_, ?_, ?_, ⟨rfl, rfl⟩, trivial⟩, rfl, rfl⟩
      · show Pay.fe (fI (qc bs) * eQ (fI (qc bs)) * (eR (fI (qc bs)) + fI 1)) = Pay.fe (eS (fI (qc bs)))
        rw [<- ht, eS_f hIs]
      · show Pay.fe (fabs (fI (qc bs) * eQ (fI (qc bs)) * (eR (fI (qc bs)) + fI 1)) * fI 2 * finv (fI (qc bs) * eQ (fI (qc bs)) * (eR (fI (qc bs)) + fI 1) * (fI (qc bs) * eQ (fI (qc bs)) * (eR (fI (qc bs)) + fI 1)) + fI 1)) = Pay.fe (eX (fI (qc bs)))
        rw [<- ht, <- eS_f hIs]
        rfl
      · show Pay.fe ((fI (qc bs) * eQ (fI (qc bs)) * (eR (fI (qc bs)) + fI 1) * (fI (qc bs) * eQ (fI (qc bs)) * (eR (fI (qc bs)) + fI 1)) - fI 1) * finv (qaw [fI (qc bs) * eQ (fI (qc bs)), fI (qc bs) * eQ (fI (qc bs)) * (eR (fI (qc bs)) + fI 1), eR (fI (qc bs)) - fI 1] * fI 78163 + -fI 1)) = Pay.fe (eY (fI (qc bs)))
        rw [<- ht, <- eS_f hIs, eY_f hIs]
    · intro hc
      have hIs : eI t = true := by
        rw [ht]
        subst hΩ
        have h2 : (!(eI (fI (qc bs)))) = false := hc
        rwa [Bool.not_eq_false'] at h2
      conv => cbv
      repeat (first | (constructor; (first | exact fun (_ : Unit) => trivial | exact fun (_ : Unit) (_ : Unit) => (by decide)); intro _ _; conv => cbv) | (refine ⟨fun _ => ⟨trivial, trivial⟩, fun _ _ => (Nat.le_of_ble_eq_true rfl), ?_⟩; intro _ _; conv => cbv))
      refine hQ true _ _ _ hz ?_
      subst hΩ
      refine ⟨⟨?_, ?_, ?_, ⟨rfl, rfl⟩, trivial⟩, rfl, rfl⟩
      · show Pay.fe (eQ (fI (qc bs)) * (eR (fI (qc bs)) + fI 1)) = Pay.fe (eS (fI (qc bs)))
        rw [<- ht, eS_t hIs]
      · show Pay.fe (fabs (eQ (fI (qc bs)) * (eR (fI (qc bs)) + fI 1)) * fI 2 * finv (eQ (fI (qc bs)) * (eR (fI (qc bs)) + fI 1) * (eQ (fI (qc bs)) * (eR (fI (qc bs)) + fI 1)) + fI 1)) = Pay.fe (eX (fI (qc bs)))
        rw [<- ht, <- eS_t hIs]
        rfl
      · show Pay.fe ((eQ (fI (qc bs)) * (eR (fI (qc bs)) + fI 1) * (eQ (fI (qc bs)) * (eR (fI (qc bs)) + fI 1)) - fI 1) * finv (qaw [eQ (fI (qc bs)), eQ (fI (qc bs)) * (eR (fI (qc bs)) + fI 1), eR (fI (qc bs)) - fI 1] * fI 78163 + fI 1)) = Pay.fe (eY (fI (qc bs)))
        rw [<- ht, <- eS_t hIs, eY_t hIs]
end Go.Sx.Tryz
end
section
set_option maxHeartbeats 4000000
namespace Go.Sx.Tryz
open Go.Proofs
set_option maxRecDepth 40000
def qhl (Ω : Om) : qe := fun args => match args with
 | [.ab (.re x), .ab (.re y), .ab (.re z)] => ⟨True, Unit, fun _ => True, fun _ => .ab (.re (Ω.hide _ fun _ => x * (y * z)))⟩
 | _ => PR.none
theorem qt8 : Ctr Tryz.prog T glob 96 (qhl Om.real) := by
 refine qo T_ok qg qh (fun Ω => [(91, qbF Ω)]) [] (fun Ω => []) [] (qb qcX qi) qj qk ql Tryz.func96 (by rfl) (by kernel_rfl) Tryz.call96 ?_ ?_
 ·intro args; unfold qhl; split
  ·exact qr (by repeat' constructor) (fun _ _ => rfl) (by repeat' constructor)
  ·exact PR.good_none
 ·intro P Ω hΩ hE hI hm args pr hs hp Q hQ
  unfold qhl at hs
  split at hs <;> subst hs <;> try (exact hp.elim)
  rename_i x y z
  refine ⟨1000, ?_⟩
  conv => cbv
  repeat (constructor; (first | exact fun (_ : Unit) => trivial | exact fun (_ : Unit) (_ : Unit) => (by decide)); intro _ _; conv => cbv)
  refine hQ () _ _ _ trivial ?_
  subst hΩ
  rfl
def qhm (Ω : Om) : qe := fun args => match args with
 | [.roi .u8 bs] => ⟨∀ _ : Unit, bs.length = 56 /\ (∀ a ∈ bs, 0 <= a /\ a < 256), Unit, fun _ => True, fun _ => .tup [.ab (.re (Ω.hide _ fun _ => eS (fI (qc bs)))), .ab (.re (Ω.hide _ fun _ => eX (fI (qc bs)))), .ab (.re (Ω.hide _ fun _ => eY (fI (qc bs))))]⟩
 | _ => PR.none
theorem qt9 : Ctr Tryz.prog T glob 28 (qhm Om.real) := by
 refine qo T_ok qg qh (fun Ω => [(90, qdy Ω), (31, qha Ω), (34, qcn Ω), (91, qbF Ω), (92, qeV Ω), (93, qdx Ω), (94, qhh Ω), (96, qhl Ω), (95, qe0 Ω), (97, qe1 Ω)]) [] (fun Ω => []) [] (qb qjq (qb qtO (qb qeU (qb qcX (qb qnP (qb qjp (qb qtY (qb qt8 (qb qnU (qb qnV qi)))))))))) qj qk ql Tryz.func28 (by rfl) (by kernel_rfl) Tryz.call28 ?_ ?_
 ·intro args; unfold qhm; split
  ·exact qr (by repeat' constructor) (fun _ _ => rfl) (by repeat' constructor)
  ·exact PR.good_none
 ·intro P Ω hΩ hE hI hm args pr hs hp Q hQ
  unfold qhm at hs
  split at hs <;> subst hs <;> try (exact hp.elim)
  rename_i bs
  obtain ⟨hl, hb⟩ := hp ()
  obtain ⟨t, ht⟩ : ∃ t, t = fI (qc bs) := ⟨_, rfl⟩
  refine ⟨1000, ?_⟩
  conv => cbv
  repeat (constructor; (first | exact fun (_ : Unit) => trivial | exact fun (_ : Unit) (_ : Unit) => (by decide)); intro _ _; conv => cbv)
  constructor
  ·exact fun (_ : Unit) (_ : Unit) => ⟨hl, hb⟩
  intro _ _
  conv => cbv
  repeat (constructor; (first | exact fun (_ : Unit) => trivial | exact fun (_ : Unit) (_ : Unit) => (by decide)); intro _ _; conv => cbv)
  constructor
  ·intro hc
   have hIs : eI t = false := by
    rw [ht, <- eI_m]
    subst hΩ
    have h2 : (!(eIv (eM (fI (qc bs))))) = true := hc
    rwa [Bool.not_eq_true'] at h2
   conv => cbv
   repeat (constructor; (first | exact fun (_ : Unit) => trivial | exact fun (_ : Unit) (_ : Unit) => (by decide)); intro _ _; conv => cbv)
   refine hQ () _ _ _ trivial ?_
   subst hΩ
   refine ⟨⟨?_, ?_, ?_, trivial⟩, rfl, rfl⟩
   ·show Pay.re ((fI (qc bs) * qP (fI 78163) (eM (fI (qc bs)))) * (eR (fI (qc bs)) + fI 1)) = Pay.re (eS (fI (qc bs)))
    rw [<- ht, eQ_m, eS_f hIs]
   ·show Pay.re ((fabs ((fI (qc bs) * qP (fI 78163) (eM (fI (qc bs)))) * (eR (fI (qc bs)) + fI 1)) + fabs ((fI (qc bs) * qP (fI 78163) (eM (fI (qc bs)))) * (eR (fI (qc bs)) + fI 1))) * finv ((fI (qc bs) * qP (fI 78163) (eM (fI (qc bs)))) * (eR (fI (qc bs)) + fI 1) * ((fI (qc bs) * qP (fI 78163) (eM (fI (qc bs)))) * (eR (fI (qc bs)) + fI 1)) + fI 1)) = Pay.re (eX (fI (qc bs)))
    rw [<- ht, eQ_m, <- eS_f hIs, qnn]
    rfl
   ·show Pay.re (((fI (qc bs) * qP (fI 78163) (eM (fI (qc bs)))) * (eR (fI (qc bs)) + fI 1) * ((fI (qc bs) * qP (fI 78163) (eM (fI (qc bs)))) * (eR (fI (qc bs)) + fI 1)) - fI 1) * finv (fI 78163 * ((fI (qc bs) * qP (fI 78163) (eM (fI (qc bs)))) * ((fI (qc bs) * qP (fI 78163) (eM (fI (qc bs)))) * (eR (fI (qc bs)) + fI 1)) * (eR (fI (qc bs)) - fI 1)) + -fI 1)) = Pay.re (eY (fI (qc bs)))
    rw [<- ht, eQ_m, <- eS_f hIs, qno, eY_f hIs]
  ·intro hc
   have hIs : eI t = true := by
    rw [ht, <- eI_m]
    subst hΩ
    have h2 : (!(eIv (eM (fI (qc bs))))) = false := hc
    rwa [Bool.not_eq_false'] at h2
   conv => cbv
   repeat (constructor; (first | exact fun (_ : Unit) => trivial | exact fun (_ : Unit) (_ : Unit) => (by decide)); intro _ _; conv => cbv)
   refine hQ () _ _ _ trivial ?_
   subst hΩ
   refine ⟨⟨?_, ?_, ?_, trivial⟩, rfl, rfl⟩
   ·show Pay.re (qP (fI 78163) (eM (fI (qc bs))) * (eR (fI (qc bs)) + fI 1)) = Pay.re (eS (fI (qc bs)))
    rw [<- ht, eQ_m, eS_t hIs]
   ·show Pay.re ((fabs (qP (fI 78163) (eM (fI (qc bs))) * (eR (fI (qc bs)) + fI 1)) + fabs (qP (fI 78163) (eM (fI (qc bs))) * (eR (fI (qc bs)) + fI 1))) * finv (qP (fI 78163) (eM (fI (qc bs))) * (eR (fI (qc bs)) + fI 1) * (qP (fI 78163) (eM (fI (qc bs))) * (eR (fI (qc bs)) + fI 1)) + fI 1)) = Pay.re (eX (fI (qc bs)))
    rw [<- ht, eQ_m, <- eS_t hIs, qnn]
    rfl
   ·show Pay.re ((qP (fI 78163) (eM (fI (qc bs))) * (eR (fI (qc bs)) + fI 1) * (qP (fI 78163) (eM (fI (qc bs))) * (eR (fI (qc bs)) + fI 1)) - fI 1) * finv (fI 78163 * (qP (fI 78163) (eM (fI (qc bs))) * (qP (fI 78163) (eM (fI (qc bs))) * (eR (fI (qc bs)) + fI 1)) * (eR (fI (qc bs)) - fI 1)) + fI 1)) = Pay.re (eY (fI (qc bs)))
    rw [<- ht, eQ_m, <- eS_t hIs, qno, eY_t hIs]
end Go.Sx.Tryz
end
