/-
  The statement PrehashTells, as a tied card: which digest pieces have, how many bytes were taken, that pieces do not count, and that a clone goes its own way. No conditions.
-/
import Derived.Test.YtnnkakbnmhahjaaDoorX12
set_option linter.unusedSectionVars false
set_option linter.unusedVariables false
set_option linter.unusedSimpArgs false
set_option linter.deprecated false
section
set_option maxRecDepth 100000
namespace Go.Proofs.YtnnkakbnmhahjaaDoor
open Go Go.Proofs Go.RowKit Go.WideShapes Go.ChangeShapes Go.Sx
open Go.Sx.Tryd (pre_rol_two)
theorem prehashTells_lifted (os : Os) (started : os.Started) (H : Type) (enc : TypeId × Value → H) :
    ReturnsInHanded {} Tryd.checked os 13 .any (fun w args => (Rows.prehashTellsSpec.pre enc Tryd.prog Tryd.f13 [] false w args ∧ laidMetH Tryd.prog Sx.Tryd.laid w) ∧ sizedMet enc Tryd.prog Tryd.f13 (OpenSpec.ofChange Rows.prehashTellsSpec) false w args)
      (Rows.prehashTellsSpec.post enc Tryd.prog Tryd.f13 false true false false) := by
  refine returnsInHanded_of_change_and (C := Tryd.checked) (X := fun w _ => laidMetH Tryd.prog Sx.Tryd.laid w) (fun _ _ _ hh h => h.of_heap hh) Sx.Tryd.own started (by kernel_rfl) Tryd.func13
    (ChangeSpec.witness_at (enc := enc) (C := Tryd.checked) (os := os) (X := fun w _ => laidMetH Tryd.prog Sx.Tryd.laid w) false (Sx.Tryd.laidWorld os) #[.slice none 0 0, .agg (List.replicate 2 (.int .i64 0)).toArray] 8 rfl (by kernel_rfl) (by kernel_rfl) (by kernel_rfl) (by kernel_rfl) (by kernel_rfl) (Sx.Tryd.laidWorld_met os _)) ?_
  intro W base args ds gs before hval hW _ _ hL _
  refine law_calls Sx.Tryd.c13 (Ds := [_, _]) (.cons (opensV_rol Tryd.underlying40 Tryd.underlying30 Tryd.underlying5 (by kernel_rfl) (by kernel_rfl)) (.cons (opensV_row (n := 2) Tryd.underlying52 Tryd.underlying3 (by kernel_rfl) (by kernel_rfl)) .nil)) (fun zs ha => ?_) Sx.Tryd.laidOut (fun t ht => ?_) rfl rfl Tryd.underlying4 (fun ds hd => ?_) hval hW (Sx.Tryd.globs_of_laid hL)
  · match zs, ha with
    | [_, _], ⟨⟨xss, rfl, hl, hx⟩, ⟨tw, rfl, ht, _⟩, _⟩ => exact ⟨fun _ => pre_rol_two hl hx ht, fun x hx => by rw [show x = true from hx]; rfl⟩
  · rw [Tryd.params13] at ht
    simp only [List.mem_cons, List.not_mem_nil, or_false] at ht
    rcases ht with rfl | rfl <;> exact ⟨by kernel_rfl, of_decide_eq_true (by kernel_rfl)⟩
  · match ds, hd with
    | [d0, d1], _ => rfl
theorem prehashTells_holds : Rows.PrehashTellsSaid :=
  OpenClaim.holds_of_wide 13 Tryd.f13 rfl rfl rfl rfl rfl rfl rfl ⟨rfl, rfl, rfl, rfl, rfl⟩ rfl rfl rfl rfl rfl (by kernel_rfl) Tryd.func13 (by kernel_rfl)
    (of_decide_eq_true (by kernel_rfl)) (by unfold Func.isWrapper; first | (rw [if_pos (by decide +kernel)]; kernel_rfl) | (rw [if_neg (by decide +kernel)]; exact ⟨rfl, rfl⟩))
    (fun os started H enc _ => prehashTells_lifted os started H enc)
theorem prehashTells_card : Rows.PrehashTellsCardSaid :=
  Claim7.holds_tied_plain_at .later [] [.data, .data, .data] true _ _
    prehashTells_holds (fun _ h => by cases h) (by kernel_rfl) (fun _ h => by cases h) prehashTells_row_tie rfl ⟨rfl, rfl⟩ (by kernel_rfl) rfl
    (fun f fn hf hfn => by
      obtain rfl : f = 13 := Option.some.inj ((show Tryd.prog.funcNamed "chicory/chicorylaw18.PrehashTells" = some 13 by kernel_rfl).symm.trans hf) |>.symm
      obtain rfl : fn = Tryd.f13 := (Option.some.inj (Tryd.func13.symm.trans hfn)).symm
      exact ⟨by kernel_rfl, fun j t ht => by
        rw [Tryd.params13] at ht
        have hm := Array.mem_of_getElem? ht
        simp only [List.mem_toArray, List.mem_cons, List.not_mem_nil, or_false] at hm
        rcases hm with rfl | rfl
        · exact (show Tryd.prog.wantsStandIn 40 = false by kernel_rfl)
        · exact (show Tryd.prog.wantsStandIn 52 = false by kernel_rfl)⟩)
    (by kernel_rfl)
#print axioms prehashTells_card
end Go.Proofs.YtnnkakbnmhahjaaDoor
end
