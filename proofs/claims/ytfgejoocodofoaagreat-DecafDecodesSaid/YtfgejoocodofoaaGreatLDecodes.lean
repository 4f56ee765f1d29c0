/-
  DecafDecodes: which bytes are an element, and which one: row and proof.
-/
import Derived.Test.YtfgejoocodofoaaGreatX11
set_option linter.unusedSectionVars false
set_option linter.unusedVariables false
set_option linter.unusedSimpArgs false
set_option linter.deprecated false
section
set_option maxRecDepth 100000
namespace Go.Proofs.YtfgejoocodofoaaGreat
open Go Go.Proofs Go.RowKit Go.WideShapes Go.ChangeShapes Go.Sx
theorem decafDecodes_lifted (os : Os) (started : os.Started) (H : Type) (enc : TypeId × Value → H) :
    ReturnsInHanded {} Tryz.checked os 3 .any (Rows.decafDecodesSpec.pre6 enc Tryz.prog Tryz.f3 [] false)
      (Rows.decafDecodesSpec.post enc Tryz.prog Tryz.f3 false true false false) := by
  refine returnsInHanded_of_change (C := Tryz.checked) (by kernel_rfl) started (by kernel_rfl) Tryz.func3
    (ChangeSpec.witness6 (enc := enc) (C := Tryz.checked) (os := os) false ⟨#[], #[.slice none 0 0, .agg #[.slice none 0 0, .int .i64 0], .agg #[.int .i64 0, .int .i64 0]], []⟩ 8 (by kernel_rfl) (by kernel_rfl) (by kernel_rfl) (by kernel_rfl)) ?_
  intro W base args ds gs before hval hW _ _
  refine law_calls Sx.Tryz.c_chicorylaw14_DecafDecodes (Ds := [_, _, _]) (.cons (opensV_ints Tryz.underlying22 Tryz.underlying5 (by kernel_rfl)) (.cons (opensV_st2 Tryz.underlying24 rfl (by kernel_rfl) (by kernel_rfl) (opens_ints Tryz.underlying22 Tryz.underlying5 (by kernel_rfl)) (opens_num Tryz.underlying3)) (.cons (opensV_row (n := 2) Tryz.underlying25 Tryz.underlying3 (by kernel_rfl) (by kernel_rfl)) .nil))) (fun zs ha => ?_) (by kernel_rfl) (fun t ht => ?_) rfl rfl Tryz.underlying4 (fun ds hd => ?_) hval hW (fun g => trivial)
  · match zs, ha with
    | [_, _, _], ⟨⟨b, rfl, hbl, hb⟩, ⟨_, _, rfl, ⟨k, rfl, hkl, hk⟩, ⟨n, rfl⟩⟩, ⟨tw, rfl, htl, _⟩, _⟩ => exact ⟨fun _ => ⟨⟨fun a ha => isByte (hb a ha), maxLen_lt hbl⟩, ⟨fun a ha => isByte (hk a ha), maxLen_lt hkl⟩, htl⟩, fun x hx => rfl⟩
  · rw [Tryz.params3] at ht
    simp only [List.mem_cons, List.not_mem_nil, or_false] at ht
    rcases ht with rfl | rfl | rfl <;> exact ⟨by kernel_rfl, of_decide_eq_true (by kernel_rfl)⟩
  · match ds, hd with
    | [d0, d1, d2], _ => rfl
theorem decafDecodes_holds : Rows.DecafDecodesSaid :=
  OpenClaim.holds_of_wide 3 Tryz.f3 rfl rfl rfl rfl rfl rfl rfl ⟨rfl, rfl, rfl, rfl, rfl⟩ rfl rfl rfl rfl rfl (by kernel_rfl) Tryz.func3 (by kernel_rfl)
    (of_decide_eq_true (by kernel_rfl)) (by unfold Func.isWrapper; first | (rw [if_pos (by decide +kernel)]; kernel_rfl) | (rw [if_neg (by decide +kernel)]; exact ⟨rfl, rfl⟩))
    (fun os started H enc _ => decafDecodes_lifted os started H enc)
#print axioms decafDecodes_holds
end Go.Proofs.YtfgejoocodofoaaGreat
end
