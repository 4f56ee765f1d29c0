/-
  KeccakXors: for every state and all bytes Xor answers what the reference's bytes, turned by them, are, or that there are too many, and turned twice the state is what it was; and the chapter's example holds; the tables are tied to the program's text.
-/
import Derived.Test.YtnnkakbnmhahjaaDoorX7
set_option linter.unusedSectionVars false
set_option linter.unusedVariables false
set_option linter.unusedSimpArgs false
set_option linter.deprecated false
section
set_option maxRecDepth 100000
namespace Go.Proofs.YtnnkakbnmhahjaaDoor
open Go Go.Proofs Go.RowKit Go.WideShapes Go.ChangeShapes Go.Sx
open Go.Sx.Tryd (inR_of inB_of len_of)
theorem keccakXors_lifted (os : Os) (started : os.Started) (H : Type) (enc : TypeId × Value → H) :
    ReturnsInHanded {} Tryd.checked os 5 .any (fun w args => (Rows.keccakXorsSpec.pre enc Tryd.prog Tryd.f5 [] false w args ∧ laidMetH Tryd.prog Sx.Tryd.laid w) ∧ sizedMet enc Tryd.prog Tryd.f5 (OpenSpec.ofChange Rows.keccakXorsSpec) false w args)
      (Rows.keccakXorsSpec.post enc Tryd.prog Tryd.f5 false true false false) := by
  refine returnsInHanded_of_change_and (C := Tryd.checked) (X := fun w _ => laidMetH Tryd.prog Sx.Tryd.laid w) (fun _ _ _ hh h => h.of_heap hh) Sx.Tryd.own started (by kernel_rfl) Tryd.func5
    (ChangeSpec.witness_at (enc := enc) (C := Tryd.checked) (os := os) (X := fun w _ => laidMetH Tryd.prog Sx.Tryd.laid w) false (Sx.Tryd.laidWorld os) #[.agg (List.replicate 25 (.int .u64 0)).toArray, .slice none 0 0] 8 rfl (by kernel_rfl) (by kernel_rfl) (by kernel_rfl) (by kernel_rfl) (by kernel_rfl) (Sx.Tryd.laidWorld_met os _)) ?_
  intro W base args ds gs before hval hW _ _ hL _
  refine law_calls Sx.Tryd.c5 (Ds := [_, _]) (.cons (opensV_row (n := 25) Tryd.underlying24 Tryd.underlying22 (by kernel_rfl) (by kernel_rfl)) (.cons (opensV_ints Tryd.underlying30 Tryd.underlying5 (by kernel_rfl)) .nil)) (fun zs ha => ?_) Sx.Tryd.laidOut (fun t ht => ?_) rfl rfl Tryd.underlying4 (fun ds hd => ?_) hval hW (Sx.Tryd.globs_of_laid hL)
  · match zs, ha with
    | [_, _], ⟨⟨xs, rfl, hl, hx⟩, ⟨b, rfl, hm, hy⟩, _⟩ => exact ⟨fun _ => ⟨hl, fun a ha => inR_of (hx a ha), len_of hm, fun a ha => inB_of (hy a ha)⟩, fun x hx => by rw [show x = true from hx]; rfl⟩
  · rw [Tryd.params5] at ht
    simp only [List.mem_cons, List.not_mem_nil, or_false] at ht
    rcases ht with rfl | rfl <;> exact ⟨by kernel_rfl, of_decide_eq_true (by kernel_rfl)⟩
  · match ds, hd with
    | [d0, d1], _ => rfl
theorem keccakXors_holds : Rows.KeccakXorsSaid :=
  OpenClaim.holds_of_wide 5 Tryd.f5 rfl rfl rfl rfl rfl rfl rfl ⟨rfl, rfl, rfl, rfl, rfl⟩ rfl rfl rfl rfl rfl (by kernel_rfl) Tryd.func5 (by kernel_rfl)
    (of_decide_eq_true (by kernel_rfl)) (by unfold Func.isWrapper; first | (rw [if_pos (by decide +kernel)]; kernel_rfl) | (rw [if_neg (by decide +kernel)]; exact ⟨rfl, rfl⟩))
    (fun os started H enc _ => keccakXors_lifted os started H enc)
theorem keccakXors_card : Rows.KeccakXorsCardSaid :=
  Claim7.holds_tied_plain_at .later [] [.data, .data, .data] true _ _
    keccakXors_holds (fun _ h => by cases h) (by kernel_rfl) (fun _ h => by cases h) keccakXors_row_tie rfl ⟨rfl, rfl⟩ (by kernel_rfl) rfl
    (fun f fn hf hfn => by
      obtain rfl : f = 5 := Option.some.inj ((show Tryd.prog.funcNamed "chicory/chicorylaw01.KeccakXors" = some 5 by kernel_rfl).symm.trans hf) |>.symm
      obtain rfl : fn = Tryd.f5 := (Option.some.inj (Tryd.func5.symm.trans hfn)).symm
      exact ⟨by kernel_rfl, fun j t ht => by
        rw [Tryd.params5] at ht
        have hm := Array.mem_of_getElem? ht
        simp only [List.mem_toArray, List.mem_cons, List.not_mem_nil, or_false] at hm
        rcases hm with rfl | rfl
        · exact (show Tryd.prog.wantsStandIn 24 = false by kernel_rfl)
        · exact (show Tryd.prog.wantsStandIn 30 = false by kernel_rfl)⟩)
    (by kernel_rfl)
#print axioms keccakXors_card
end Go.Proofs.YtnnkakbnmhahjaaDoor
end
