/-
  Part of the proof of a statement: the means.
-/
import Derived.Test.YtpnebmmjpapopaaGreatDoorX81
import Derived.Test.YtpnebmmjpapopaaGreatDoorX19
import Derived.Test.YtpnebmmjpapopaaGreatDoorX10
set_option linter.unusedSectionVars false
set_option linter.unusedVariables false
set_option linter.unusedSimpArgs false
set_option linter.deprecated false
section
set_option maxHeartbeats 4000000
namespace Go.Sx.Tryz
open Go.Proofs
set_option maxRecDepth 40000
def qgY (Ω : Om) : qe := fun args => match args with
 | [.ab (.fe a), .rop (.ab (.fe o)) (.l 0)] => ⟨True, Unit, fun _ => True, fun _ => .ab (.fe (Ω.hide _ fun _ => a + o))⟩
 | _ => PR.none
theorem qsV : Ctr Tryz.prog T glob 77 (qgY Om.real) := by
 refine qq T_ok qg qh (fun Ω => [(78, qbP Ω)]) [] (fun Ω => []) [] (qb qds qi) qj qk ql Tryz.func77 (by rfl) (by kernel_rfl) Tryz.call77 ?_ ?_
 ·intro args; unfold qgY; split
  ·exact qr (by repeat' constructor) (fun _ _ => rfl) (by repeat' constructor)
  ·exact PR.good_none
 ·intro P Ω hΩ hE hI hm args pr hs hp Q hQ
  unfold qgY at hs
  split at hs <;> subst hs <;> try (exact hp.elim)
  rename_i a o
  refine ⟨1000, ?_⟩
  conv => cbv
  repeat (constructor; (first | exact fun (_ : Unit) => trivial | exact fun (_ : Unit) (_ : Unit) => (by decide)); intro _ _; conv => cbv)
  exact hQ () _ _ _ trivial rfl
def qgZ (Ω : Om) : qe := fun args => match args with
 | [.ab (.fe a), .rop (.ab (.fe o)) (.l 0)] => ⟨True, Unit, fun _ => True, fun _ => .ab (.fe (Ω.hide _ fun _ => a - o))⟩
 | _ => PR.none
theorem qsW : Ctr Tryz.prog T glob 79 (qgZ Om.real) := by
 refine qq T_ok qg qh (fun Ω => [(80, qbQ Ω)]) [] (fun Ω => []) [] (qb qdt qi) qj qk ql Tryz.func79 (by rfl) (by kernel_rfl) Tryz.call79 ?_ ?_
 ·intro args; unfold qgZ; split
  ·exact qr (by repeat' constructor) (fun _ _ => rfl) (by repeat' constructor)
  ·exact PR.good_none
 ·intro P Ω hΩ hE hI hm args pr hs hp Q hQ
  unfold qgZ at hs
  split at hs <;> subst hs <;> try (exact hp.elim)
  rename_i a o
  refine ⟨1000, ?_⟩
  conv => cbv
  repeat (constructor; (first | exact fun (_ : Unit) => trivial | exact fun (_ : Unit) (_ : Unit) => (by decide)); intro _ _; conv => cbv)
  exact hQ () _ _ _ trivial rfl
def qg0 (Ω : Om) : qe := fun args => match args with
 | [.ab (.fe a), .ab (.fe b)] => ⟨True, Unit, fun _ => True, fun _ => .ab (.fe (Ω.hide _ fun _ => a * finv b))⟩
 | _ => PR.none
theorem qsX : Ctr Tryz.prog T glob 86 (qg0 Om.real) := by
 refine qq T_ok qg qh (fun Ω => [(84, qav Ω), (87, qdy Ω)]) [] (fun Ω => []) [] (qb qaE (qb qi7 qi)) qj qk ql Tryz.func86 (by rfl) (by kernel_rfl) Tryz.call86 ?_ ?_
 ·intro args; unfold qg0; split
  ·exact qr (by repeat' constructor) (fun _ _ => rfl) (by repeat' constructor)
  ·exact PR.good_none
 ·intro P Ω hΩ hE hI hm args pr hs hp Q hQ
  unfold qg0 at hs
  split at hs <;> subst hs <;> try (exact hp.elim)
  rename_i a b
  refine ⟨1000, ?_⟩
  conv => cbv
  repeat (constructor; (first | exact fun (_ : Unit) => trivial | exact fun (_ : Unit) (_ : Unit) => (by decide)); intro _ _; conv => cbv)
  refine hQ () _ _ _ trivial ?_
  subst hΩ
  rfl
def qg1 (Ω : Om) : qe := fun args => match args with
 | [.roa (.fe xs)] => ⟨∀ _ : Unit, xs.length < 9223372036854775808, Unit, fun _ => True, fun _ => .ab (.fe (Ω.hide _ fun _ => qV xs))⟩
 | _ => PR.none
theorem qsY : Ctr Tryz.prog T glob 88 (qg1 Om.real) := by
 refine qq T_ok qg qh (fun Ω => [(84, qav Ω), (76, qbr Ω)]) [] (fun Ω => []) [] (qb qaE (qb qcg qi)) qj qk ql Tryz.func88 (by rfl) (by kernel_rfl) Tryz.call88 ?_ ?_
 ·intro args; unfold qg1; split
  ·exact qr (by repeat' constructor) (fun _ _ => rfl) (by repeat' constructor)
  ·exact PR.good_none
 ·intro P Ω hΩ hE hI hm args pr hs hp Q hQ
  unfold qg1 at hs
  split at hs <;> subst hs <;> try (exact hp.elim)
  rename_i xs
  have hx := hp ()
  refine ⟨1000, ?_⟩
  conv => cbv
  repeat (constructor; (first | exact fun (_ : Unit) => trivial | exact fun (_ : Unit) (_ : Unit) => (by decide)); intro _ _; conv => cbv)
  obtain ⟨L, hL⟩ : ∃ L, L = xs.length := ⟨_, rfl⟩
  obtain ⟨one, hone⟩ : ∃ one, one = fI 1 := ⟨_, rfl⟩
  have hlo : Ω.hide Nat (fun _ => xs.length) = L := by subst hΩ; exact hL.symm
  rw [<- hL] at hx
  refine qt hE hI hm (fun z : Nat × Fp => (mkT 18 [(2, .ptr 0 (.l 0)), (3, .ptr 16 (.l 0)), (7, .roa (.fe xs)), (8, .int .i64 L), (9, .int .i64 z.1)], [(16, .ab (.fe z.2)), (0, .agg [.row .u64 8 [0, 0, 0, 0, 0, 0, 0, 0]])])) (fun z => z.1 <= L /\ z.2 = qV (xs.take z.1)) (fun z => L - z.1) 0 ⟨(0, one), [], ⟨Nat.zero_le _, hone⟩, Nat.le_refl _, ?_⟩ fun z hz => ⟨1000, ?_⟩
  ·conv => cbv
   subst hΩ
   exact ⟨congrArg Int.ofNat hL.symm, rfl, congrArg Pay.fe hone.symm, trivial⟩
  obtain ⟨i, y⟩ := z
  obtain ⟨hi, hy⟩ : i <= L /\ y = qV (xs.take i) := hz
  conv => cbv
  constructor
  ·intro hc
   cbv
   rw [hΩ] at hc; simp (disch := omega) only [Om.real, qc, decide_eq_true_eq, decide_eq_false_iff_not] at hc
   constructor
   ·intro _
    refine ⟨Int.natCast_nonneg _, ?_⟩
    show (i : Int) < ((Ω.hide Nat (fun _ => xs.length) : Nat) : Int)
    rw [hlo]; omega
   constructor
   ·intro _
    subst hΩ
    show i < xs.length; omega
   repeat (constructor; (first | exact fun (_ : Unit) => trivial | exact fun (_ : Unit) (_ : Unit) => (by decide)); intro _ _; conv => cbv)
   obtain ⟨y2, hy2⟩ : ∃ y2, y2 = y * xs.getD i 0 := ⟨_, rfl⟩
   refine ⟨(i + 1, y2), [], ⟨hc, ?_⟩, by simp only; omega, Nat.zero_le _, ?_⟩
   ·show y2 = qV (xs.take (i + 1))
    rw [hy2, hy]
    exact qmZ xs i (by omega)
   conv => cbv
   subst hΩ
   simp (disch := omega) only [Om.real, qc]
   exact ⟨trivial, ⟨by rw [hy2], trivial⟩⟩
  ·intro hc
   cbv
   rw [hΩ] at hc; simp (disch := omega) only [Om.real, qc, decide_eq_true_eq, decide_eq_false_iff_not] at hc
   have e : i = xs.length := by omega
   refine hQ () _ _ _ trivial ?_
   subst hΩ
   show Pay.fe y = Pay.fe (qV xs)
   rw [hy, e, List.take_length]
def qg2 (Ω : Om) : qe := fun args => match args with
 | [.roi .u8 bs] => ⟨∀ _ : Unit, (∀ a ∈ bs, 0 <= a /\ a < 256) /\ bs.length < 9223372036854775808, Bool, fun z => z = (bs.length == 56), fun z => match z with | true => .tup [.ab (.fe (Ω.hide _ fun _ => eS (fI (qd bs)))), .ab (.fe (Ω.hide _ fun _ => eX (fI (qd bs)))), .ab (.fe (Ω.hide _ fun _ => eY (fI (qd bs)))), .lit .i64 0] | false => .tup [.ab (.fe (Ω.hide _ fun _ => fI 0)), .ab (.fe (Ω.hide _ fun _ => fI 0)), .ab (.fe (Ω.hide _ fun _ => fI 0)), .lit .i64 11]⟩
 | _ => PR.none
theorem qsZ : Ctr Tryz.prog T glob 27 (qg2 Om.real) := by
 refine qq T_ok qg qh (fun Ω => [(75, qgl Ω), (76, qbr Ω), (82, qbC Ω), (81, qcP Ω), (79, qgZ Ω), (83, qch Ω), (77, qgY Ω), (80, qbQ Ω), (84, qav Ω), (85, qeG Ω), (88, qg1 Ω), (78, qbP Ω), (86, qg0 Ω), (89, qcS Ω)]) [] (fun Ω => []) [] (qb qqD (qb qcg (qb qcR (qb qgn (qb qsW (qb qeE (qb qsV (qb qdt (qb qaE (qb qmV (qb qsY (qb qds (qb qsX (qb qgt qi)))))))))))))) qj qk ql Tryz.func27 (by rfl) (by kernel_rfl) Tryz.call27 ?_ ?_
 ·intro args; unfold qg2; split
  ·exact qa8 ⟨fun x => by cases x <;> repeat' (first | exact trivial | constructor), fun E x b => by cases x <;> rfl⟩ (by repeat' (first | exact trivial | constructor)) (fun _ => ⟨_, rfl⟩)
  ·exact PR.good_none
 ·intro P Ω hΩ hE hI hm args pr hs hp Q hQ
  unfold qg2 at hs
  split at hs <;> subst hs <;> try (exact hp.elim)
  rename_i bs
  obtain ⟨hb, hl⟩ := hp ()
  obtain ⟨t, ht⟩ : ∃ t, t = fI (qd bs) := ⟨_, rfl⟩
  refine ⟨1000, ?_⟩
  conv => cbv
  constructor
  ·exact fun _ _ => hb
  intro z hz
  cases z with
  | false =>
    conv => cbv
    repeat (constructor; (first | exact fun (_ : Unit) => trivial | exact fun (_ : Unit) (_ : Unit) => (by decide)); intro _ _; conv => cbv)
    refine hQ false _ _ _ hz ?_
    subst hΩ
    exact ⟨⟨rfl, rfl, rfl, ⟨rfl, rfl⟩, trivial⟩, rfl, rfl⟩
  | true =>
    conv => cbv
    repeat (first | (constructor; (first | exact fun (_ : Unit) => trivial | exact fun (_ : Unit) (_ : Unit) => (by decide)); intro _ _; conv => cbv) | (refine ⟨fun _ => ⟨trivial, trivial⟩, fun _ _ => (Nat.le_of_ble_eq_true rfl), ?_⟩; intro _ _; conv => cbv))
    constructor
    · intro hc
      have hIs : eI t = false := by
        rw [ht]
        subst hΩ
        have h2 : (!(eI (fI (qd bs)))) = true := hc
        rwa [Bool.not_eq_true'] at h2
      conv => cbv
      repeat (first | (constructor; (first | exact fun (_ : Unit) => trivial | exact fun (_ : Unit) (_ : Unit) => (by decide)); intro _ _; conv => cbv) | (refine ⟨fun _ => ⟨trivial, trivial⟩, fun _ _ => (Nat.le_of_ble_eq_true rfl), ?_⟩; intro _ _; conv => cbv))
      refine hQ true _ _ _ hz ?_
      subst hΩ
      refine ⟨⟨?_, ?_, ?_, ⟨rfl, rfl⟩, trivial⟩, rfl, rfl⟩
      · show Pay.fe (fI (qd bs) * eQ (fI (qd bs)) * (eR (fI (qd bs)) + fI 1)) = Pay.fe (eS (fI (qd bs)))
        rw [<- ht, eS_f hIs]
      · show Pay.fe (fabs (fI (qd bs) * eQ (fI (qd bs)) * (eR (fI (qd bs)) + fI 1)) * fI 2 * finv (fI (qd bs) * eQ (fI (qd bs)) * (eR (fI (qd bs)) + fI 1) * (fI (qd bs) * eQ (fI (qd bs)) * (eR (fI (qd bs)) + fI 1)) + fI 1)) = Pay.fe (eX (fI (qd bs)))
        rw [<- ht, <- eS_f hIs]
        rfl
      · show Pay.fe ((fI (qd bs) * eQ (fI (qd bs)) * (eR (fI (qd bs)) + fI 1) * (fI (qd bs) * eQ (fI (qd bs)) * (eR (fI (qd bs)) + fI 1)) - fI 1) * finv (qV [fI (qd bs) * eQ (fI (qd bs)), fI (qd bs) * eQ (fI (qd bs)) * (eR (fI (qd bs)) + fI 1), eR (fI (qd bs)) - fI 1] * fI 78163 + -fI 1)) = Pay.fe (eY (fI (qd bs)))
        rw [<- ht, <- eS_f hIs, eY_f hIs]
    · intro hc
      have hIs : eI t = true := by
        rw [ht]
        subst hΩ
        have h2 : (!(eI (fI (qd bs)))) = false := hc
        rwa [Bool.not_eq_false'] at h2
      conv => cbv
      repeat (first | (constructor; (first | exact fun (_ : Unit) => trivial | exact fun (_ : Unit) (_ : Unit) => (by decide)); intro _ _; conv => cbv) | (refine ⟨fun _ => ⟨trivial, trivial⟩, fun _ _ => (Nat.le_of_ble_eq_true rfl), ?_⟩; intro _ _; conv => cbv))
      refine hQ true _ _ _ hz ?_
      subst hΩ
      refine ⟨⟨?_, ?_, ?_, ⟨rfl, rfl⟩, trivial⟩, rfl, rfl⟩
      · show Pay.fe (eQ (fI (qd bs)) * (eR (fI (qd bs)) + fI 1)) = Pay.fe (eS (fI (qd bs)))
        rw [<- ht, eS_t hIs]
      · show Pay.fe (fabs (eQ (fI (qd bs)) * (eR (fI (qd bs)) + fI 1)) * fI 2 * finv (eQ (fI (qd bs)) * (eR (fI (qd bs)) + fI 1) * (eQ (fI (qd bs)) * (eR (fI (qd bs)) + fI 1)) + fI 1)) = Pay.fe (eX (fI (qd bs)))
        rw [<- ht, <- eS_t hIs]
        rfl
      · show Pay.fe ((eQ (fI (qd bs)) * (eR (fI (qd bs)) + fI 1) * (eQ (fI (qd bs)) * (eR (fI (qd bs)) + fI 1)) - fI 1) * finv (qV [eQ (fI (qd bs)), eQ (fI (qd bs)) * (eR (fI (qd bs)) + fI 1), eR (fI (qd bs)) - fI 1] * fI 78163 + fI 1)) = Pay.fe (eY (fI (qd bs)))
        rw [<- ht, <- eS_t hIs, eY_t hIs]
end Go.Sx.Tryz
end
section
set_option maxHeartbeats 4000000
namespace Go.Sx.Tryz
open Go.Proofs
set_option maxRecDepth 40000
def qhK (Ω : Om) : qe := fun args => match args with
 | [.ab (.re x), .ab (.re y), .ab (.re z)] => ⟨True, Unit, fun _ => True, fun _ => .ab (.re (Ω.hide _ fun _ => x * (y * z)))⟩
 | _ => PR.none
theorem quA : Ctr Tryz.prog T glob 96 (qhK Om.real) := by
 refine qq T_ok qg qh (fun Ω => [(91, qbf Ω)]) [] (fun Ω => []) [] (qb qbV qi) qj qk ql Tryz.func96 (by rfl) (by kernel_rfl) Tryz.call96 ?_ ?_
 ·intro args; unfold qhK; split
  ·exact qr (by repeat' constructor) (fun _ _ => rfl) (by repeat' constructor)
  ·exact PR.good_none
 ·intro P Ω hΩ hE hI hm args pr hs hp Q hQ
  unfold qhK at hs
  split at hs <;> subst hs <;> try (exact hp.elim)
  rename_i x y z
  refine ⟨1000, ?_⟩
  conv => cbv
  repeat (constructor; (first | exact fun (_ : Unit) => trivial | exact fun (_ : Unit) (_ : Unit) => (by decide)); intro _ _; conv => cbv)
  refine hQ () _ _ _ trivial ?_
  subst hΩ
  rfl
def qhL (Ω : Om) : qe := fun args => match args with
 | [.roi .u8 bs] => ⟨∀ _ : Unit, bs.length = 56 /\ (∀ a ∈ bs, 0 <= a /\ a < 256), Unit, fun _ => True, fun _ => .tup [.ab (.re (Ω.hide _ fun _ => eS (fI (qd bs)))), .ab (.re (Ω.hide _ fun _ => eX (fI (qd bs)))), .ab (.re (Ω.hide _ fun _ => eY (fI (qd bs))))]⟩
 | _ => PR.none
theorem quB : Ctr Tryz.prog T glob 28 (qhL Om.real) := by
 refine qq T_ok qg qh (fun Ω => [(90, qbW Ω), (31, qhw Ω), (34, qcs Ω), (91, qbf Ω), (92, qdM Ω), (93, qc6 Ω), (94, qfb Ω), (96, qhK Ω), (95, qdQ Ω), (97, qc7 Ω)]) [] (fun Ω => []) [] (qb qdN (qb qug (qb qe6 (qb qbV (qb qjQ (qb qhu (qb qon (qb quA (qb qjT (qb qhC qi)))))))))) qj qk ql Tryz.func28 (by rfl) (by kernel_rfl) Tryz.call28 ?_ ?_
 ·intro args; unfold qhL; split
  ·exact qr (by repeat' constructor) (fun _ _ => rfl) (by repeat' constructor)
  ·exact PR.good_none
 ·intro P Ω hΩ hE hI hm args pr hs hp Q hQ
  unfold qhL at hs
  split at hs <;> subst hs <;> try (exact hp.elim)
  rename_i bs
  obtain ⟨hl, hb⟩ := hp ()
  obtain ⟨t, ht⟩ : ∃ t, t = fI (qd bs) := ⟨_, rfl⟩
  refine ⟨1000, ?_⟩
  conv => cbv
  repeat (constructor; (first | exact fun (_ : Unit) => trivial | exact fun (_ : Unit) (_ : Unit) => (by decide)); intro _ _; conv => cbv)
  constructor
  ·exact fun (_ : Unit) (_ : Unit) => ⟨hl, hb⟩
  intro _ _
  conv => cbv
  repeat (constructor; (first | exact fun (_ : Unit) => trivial | exact fun (_ : Unit) (_ : Unit) => (by decide)); intro _ _; conv => cbv)
  constructor
  ·intro hc
   have hIs : eI t = false := by
    rw [ht, <- eI_m]
    subst hΩ
    have h2 : (!(eIv (eM (fI (qd bs))))) = true := hc
    rwa [Bool.not_eq_true'] at h2
   conv => cbv
   repeat (constructor; (first | exact fun (_ : Unit) => trivial | exact fun (_ : Unit) (_ : Unit) => (by decide)); intro _ _; conv => cbv)
   refine hQ () _ _ _ trivial ?_
   subst hΩ
   refine ⟨⟨?_, ?_, ?_, trivial⟩, rfl, rfl⟩
   ·show Pay.re ((fI (qd bs) * qG (fI 78163) (eM (fI (qd bs)))) * (eR (fI (qd bs)) + fI 1)) = Pay.re (eS (fI (qd bs)))
    rw [<- ht, eQ_m, eS_f hIs]
   ·show Pay.re ((fabs ((fI (qd bs) * qG (fI 78163) (eM (fI (qd bs)))) * (eR (fI (qd bs)) + fI 1)) + fabs ((fI (qd bs) * qG (fI 78163) (eM (fI (qd bs)))) * (eR (fI (qd bs)) + fI 1))) * finv ((fI (qd bs) * qG (fI 78163) (eM (fI (qd bs)))) * (eR (fI (qd bs)) + fI 1) * ((fI (qd bs) * qG (fI 78163) (eM (fI (qd bs)))) * (eR (fI (qd bs)) + fI 1)) + fI 1)) = Pay.re (eX (fI (qd bs)))
    rw [<- ht, eQ_m, <- eS_f hIs, qnT]
    rfl
   ·show Pay.re (((fI (qd bs) * qG (fI 78163) (eM (fI (qd bs)))) * (eR (fI (qd bs)) + fI 1) * ((fI (qd bs) * qG (fI 78163) (eM (fI (qd bs)))) * (eR (fI (qd bs)) + fI 1)) - fI 1) * finv (fI 78163 * ((fI (qd bs) * qG (fI 78163) (eM (fI (qd bs)))) * ((fI (qd bs) * qG (fI 78163) (eM (fI (qd bs)))) * (eR (fI (qd bs)) + fI 1)) * (eR (fI (qd bs)) - fI 1)) + -fI 1)) = Pay.re (eY (fI (qd bs)))
    rw [<- ht, eQ_m, <- eS_f hIs, qnU, eY_f hIs]
  ·intro hc
   have hIs : eI t = true := by
    rw [ht, <- eI_m]
    subst hΩ
    have h2 : (!(eIv (eM (fI (qd bs))))) = false := hc
    rwa [Bool.not_eq_false'] at h2
   conv => cbv
   repeat (constructor; (first | exact fun (_ : Unit) => trivial | exact fun (_ : Unit) (_ : Unit) => (by decide)); intro _ _; conv => cbv)
   refine hQ () _ _ _ trivial ?_
   subst hΩ
   refine ⟨⟨?_, ?_, ?_, trivial⟩, rfl, rfl⟩
   ·show Pay.re (qG (fI 78163) (eM (fI (qd bs))) * (eR (fI (qd bs)) + fI 1)) = Pay.re (eS (fI (qd bs)))
    rw [<- ht, eQ_m, eS_t hIs]
   ·show Pay.re ((fabs (qG (fI 78163) (eM (fI (qd bs))) * (eR (fI (qd bs)) + fI 1)) + fabs (qG (fI 78163) (eM (fI (qd bs))) * (eR (fI (qd bs)) + fI 1))) * finv (qG (fI 78163) (eM (fI (qd bs))) * (eR (fI (qd bs)) + fI 1) * (qG (fI 78163) (eM (fI (qd bs))) * (eR (fI (qd bs)) + fI 1)) + fI 1)) = Pay.re (eX (fI (qd bs)))
    rw [<- ht, eQ_m, <- eS_t hIs, qnT]
    rfl
   ·show Pay.re ((qG (fI 78163) (eM (fI (qd bs))) * (eR (fI (qd bs)) + fI 1) * (qG (fI 78163) (eM (fI (qd bs))) * (eR (fI (qd bs)) + fI 1)) - fI 1) * finv (fI 78163 * (qG (fI 78163) (eM (fI (qd bs))) * (qG (fI 78163) (eM (fI (qd bs))) * (eR (fI (qd bs)) + fI 1)) * (eR (fI (qd bs)) - fI 1)) + fI 1)) = Pay.re (eY (fI (qd bs)))
    rw [<- ht, eQ_m, <- eS_t hIs, qnU, eY_t hIs]
end Go.Sx.Tryz
end
