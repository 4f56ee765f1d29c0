/-
  What each call answers, call by call.
-/
import Derived.Test.YtnnkakbnmhahjaaDoorX11
set_option linter.unusedSectionVars false
set_option linter.unusedVariables false
set_option linter.unusedSimpArgs false
set_option linter.deprecated false
section
set_option maxRecDepth 100000
namespace Go.Proofs.YtnnkakbnmhahjaaDoor
open Go Go.Proofs Go.RowKit Go.WideShapes Go.ChangeShapes Go.Sx
open Go.Sx.Tryd (pre_ops)
theorem shakePlays_lifted (os : Os) (started : os.Started) (H : Type) (enc : TypeId × Value → H) :
    ReturnsInHanded {} Tryd.checked os 11 .any (fun w args => (Rows.shakePlaysSpec.pre enc Tryd.prog Tryd.f11 [] false w args ∧ laidMetH Tryd.prog Sx.Tryd.laid w) ∧ sizedMet enc Tryd.prog Tryd.f11 (OpenSpec.ofChange Rows.shakePlaysSpec) false w args)
      (Rows.shakePlaysSpec.post enc Tryd.prog Tryd.f11 false true false false) := by
  refine returnsInHanded_of_change_and (C := Tryd.checked) (X := fun w _ => laidMetH Tryd.prog Sx.Tryd.laid w) (fun _ _ _ hh h => h.of_heap hh) Sx.Tryd.own started (by kernel_rfl) Tryd.func11
    (ChangeSpec.witness_at (enc := enc) (C := Tryd.checked) (os := os) (X := fun w _ => laidMetH Tryd.prog Sx.Tryd.laid w) false (Sx.Tryd.laidWorld os) #[.slice none 0 0] 8 rfl (by kernel_rfl) (by kernel_rfl) (by kernel_rfl) (by kernel_rfl) (by kernel_rfl) (Sx.Tryd.laidWorld_met os _)) ?_
  intro W base args ds gs before hval hW _ _ hL _
  refine law_calls Sx.Tryd.c11 (Ds := [_]) (.cons (opensV_ops Tryd.underlying54 Tryd.underlying57 (by kernel_rfl) rfl rfl rfl Tryd.underlying3 Tryd.underlying30 Tryd.underlying5 (by kernel_rfl) Tryd.underlying3 (by kernel_rfl) (by kernel_rfl) (by kernel_rfl)) .nil) (fun zs ha => ?_) Sx.Tryd.laidOut (fun t ht => ?_) rfl rfl Tryd.underlying4 (fun ds hd => ?_) hval hW (Sx.Tryd.globs_of_laid hL)
  · match zs, ha with
    | [_], ⟨⟨ak, bss, ns, n, rfl, hn, hx⟩, _⟩ => exact ⟨fun _ => pre_ops hn hx, fun x hx => by rw [show x = true from hx]; rfl⟩
  · rw [Tryd.params11] at ht
    simp only [List.mem_cons, List.not_mem_nil, or_false] at ht
    rcases ht with rfl <;> exact ⟨by kernel_rfl, of_decide_eq_true (by kernel_rfl)⟩
  · match ds, hd with
    | [d0], _ => rfl
theorem shakePlays_holds : Rows.ShakePlaysSaid :=
  OpenClaim.holds_of_wide 11 Tryd.f11 rfl rfl rfl rfl rfl rfl rfl ⟨rfl, rfl, rfl, rfl, rfl⟩ rfl rfl rfl rfl rfl (by kernel_rfl) Tryd.func11 (by kernel_rfl)
    (of_decide_eq_true (by kernel_rfl)) (by unfold Func.isWrapper; first | (rw [if_pos (by decide +kernel)]; kernel_rfl) | (rw [if_neg (by decide +kernel)]; exact ⟨rfl, rfl⟩))
    (fun os started H enc _ => shakePlays_lifted os started H enc)
theorem shakePlays_card : Rows.ShakePlaysCardSaid :=
  Claim7.holds_tied_plain_at .later [] [.data, .data, .data] true _ _
    shakePlays_holds (fun _ h => by cases h) (by kernel_rfl) (fun _ h => by cases h) shakePlays_row_tie rfl ⟨rfl, rfl⟩ (by kernel_rfl) rfl
    (fun f fn hf hfn => by
      obtain rfl : f = 11 := Option.some.inj ((show Tryd.prog.funcNamed "chicory/chicorylaw02.ShakePlays" = some 11 by kernel_rfl).symm.trans hf) |>.symm
      obtain rfl : fn = Tryd.f11 := (Option.some.inj (Tryd.func11.symm.trans hfn)).symm
      exact ⟨by kernel_rfl, fun j t ht => by
        rw [Tryd.params11] at ht
        have hm := Array.mem_of_getElem? ht
        simp only [List.mem_toArray, List.mem_cons, List.not_mem_nil, or_false] at hm
        rcases hm with rfl
        · exact (show Tryd.prog.wantsStandIn 54 = false by kernel_rfl)⟩)
    (by kernel_rfl)
#print axioms shakePlays_card
end Go.Proofs.YtnnkakbnmhahjaaDoor
end
