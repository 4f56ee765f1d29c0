/-
  Proved: DecafEncodes answers true for every input within its guards.
-/
import Derived.Test.YtfgejoocodofoaaGreatX17
set_option linter.unusedSectionVars false
set_option linter.unusedVariables false
set_option linter.unusedSimpArgs false
set_option linter.deprecated false
section
set_option maxRecDepth 100000
namespace Go.Proofs.YtfgejoocodofoaaGreat
open Go Go.Proofs Go.RowKit Go.WideShapes Go.ChangeShapes Go.Sx
theorem decafEncodes_lifted (os : Os) (started : os.Started) (H : Type) (enc : TypeId × Value → H) :
  ReturnsInHanded {} Tryz.checked os 5 .any (Rows.decafEncodesSpec.pre6 enc Tryz.prog Tryz.f5 [] false)
   (Rows.decafEncodesSpec.post enc Tryz.prog Tryz.f5 false true false false) := by
 refine returnsInHanded_of_change (C := Tryz.checked) (by kernel_rfl) started (by kernel_rfl) Tryz.func5
  (ChangeSpec.witness6 (enc := enc) (C := Tryz.checked) (os := os) false ⟨#[], #[.agg #[.slice none 0 0, .int .i64 0]], []⟩ 8 (by kernel_rfl) (by kernel_rfl) (by kernel_rfl) (by kernel_rfl)) ?_
 intro W base args ds gs before hval hW _ _
 refine law_calls Sx.Tryz.c_chicorylaw14_DecafEncodes (Ds := [_]) (.cons (opensV_st2 Tryz.underlying24 rfl (by kernel_rfl) (by kernel_rfl) (opens_ints Tryz.underlying22 Tryz.underlying5 (by kernel_rfl)) (opens_num Tryz.underlying3)) .nil) (fun zs ha => ?_) (by kernel_rfl) (fun t ht => ?_) rfl rfl Tryz.underlying4 (fun ds hd => ?_) hval hW (fun g => trivial)
 ·match zs, ha with
  | [_], ⟨⟨_, _, rfl, ⟨k, rfl, hkl, hk⟩, ⟨n, rfl⟩⟩, _⟩ => exact ⟨fun _ => ⟨fun a ha => isByte (hk a ha), maxLen_lt hkl⟩, fun x hx => rfl⟩
 ·rw [Tryz.params5] at ht
  simp only [List.mem_cons, List.not_mem_nil, or_false] at ht
  rcases ht with rfl <;> exact ⟨by kernel_rfl, of_decide_eq_true (by kernel_rfl)⟩
 ·match ds, hd with
  | [d0], _ => rfl
theorem decafEncodes_holds : Rows.DecafEncodesSaid :=
 OpenClaim.holds_of_wide 5 Tryz.f5 rfl rfl rfl rfl rfl rfl rfl ⟨rfl, rfl, rfl, rfl, rfl⟩ rfl rfl rfl rfl rfl (by kernel_rfl) Tryz.func5 (by kernel_rfl)
  (of_decide_eq_true (by kernel_rfl)) (by unfold Func.isWrapper; first | (rw [if_pos (by decide +kernel)]; kernel_rfl) | (rw [if_neg (by decide +kernel)]; exact ⟨rfl, rfl⟩))
  (fun os started H enc _ => decafEncodes_lifted os started H enc)
#print axioms decafEncodes_holds
end Go.Proofs.YtfgejoocodofoaaGreat
end
