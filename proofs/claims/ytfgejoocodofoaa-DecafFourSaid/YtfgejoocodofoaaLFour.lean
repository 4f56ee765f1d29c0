/-
  DecafFour: two points of the curve are one element, twice each, just if four times what is between them is the identity: row and proof.
-/
import Derived.Test.YtfgejoocodofoaaX12
set_option linter.unusedSectionVars false
set_option linter.unusedVariables false
set_option linter.unusedSimpArgs false
set_option linter.deprecated false
section
set_option maxRecDepth 100000
namespace Go.Proofs.Ytfgejoocodofoaa
open Go Go.Proofs Go.RowKit Go.WideShapes Go.ChangeShapes Go.Sx
theorem decafFour_lifted (os : Os) (started : os.Started) (H : Type) (enc : TypeId × Value → H) :
    ReturnsInHanded {} Try.checked os 3 .any (Rows.decafFourSpec.pre6 enc Try.prog Try.f3 [] false)
      (Rows.decafFourSpec.post enc Try.prog Try.f3 false true false false) := by
  refine returnsInHanded_of_change (C := Try.checked) (by kernel_rfl) started (by kernel_rfl) Try.func3
    (ChangeSpec.witness6 (enc := enc) (C := Try.checked) (os := os) false ⟨#[], #[.agg #[.slice none 0 0, .int .i64 0, .slice none 0 0, .int .i64 0]], []⟩ 8 (by kernel_rfl) (by kernel_rfl) (by kernel_rfl) (by kernel_rfl)) ?_
  intro W base args ds gs before hval hW _ _
  refine law_calls Sx.Try.c_chicorylaw14_DecafFour (Ds := [_]) (.cons (opensV_arr2 Try.underlying25 (by kernel_rfl) (opens_st2 Try.underlying24 rfl (by kernel_rfl) (by kernel_rfl) (opens_ints Try.underlying22 Try.underlying5 (by kernel_rfl)) (opens_num Try.underlying3))) .nil) (fun zs ha => ?_) (by kernel_rfl) (fun t ht => ?_) rfl rfl Try.underlying4 (fun ds hd => ?_) hval hW (fun g => trivial)
  · match zs, ha with
    | [_], ⟨⟨_, _, rfl, ⟨_, _, rfl, ⟨k0, rfl, hl0, hk0⟩, ⟨n0, rfl⟩⟩, ⟨_, _, rfl, ⟨k1, rfl, hl1, hk1⟩, ⟨n1, rfl⟩⟩⟩, _⟩ => exact ⟨fun _ => ⟨⟨fun a ha => isByte (hk0 a ha), maxLen_lt hl0⟩, ⟨fun a ha => isByte (hk1 a ha), maxLen_lt hl1⟩⟩, fun x hx => rfl⟩
  · rw [Try.params3] at ht
    simp only [List.mem_cons, List.not_mem_nil, or_false] at ht
    rcases ht with rfl <;> exact ⟨by kernel_rfl, of_decide_eq_true (by kernel_rfl)⟩
  · match ds, hd with
    | [d0], _ => rfl
theorem decafFour_holds : Rows.DecafFourSaid :=
  OpenClaim.holds_of_wide 3 Try.f3 rfl rfl rfl rfl rfl rfl rfl ⟨rfl, rfl, rfl, rfl, rfl⟩ rfl rfl rfl rfl rfl (by kernel_rfl) Try.func3 (by kernel_rfl)
    (of_decide_eq_true (by kernel_rfl)) (by unfold Func.isWrapper; first | (rw [if_pos (by decide +kernel)]; kernel_rfl) | (rw [if_neg (by decide +kernel)]; exact ⟨rfl, rfl⟩))
    (fun os started H enc _ => decafFour_lifted os started H enc)
#print axioms decafFour_holds
end Go.Proofs.Ytfgejoocodofoaa
end
