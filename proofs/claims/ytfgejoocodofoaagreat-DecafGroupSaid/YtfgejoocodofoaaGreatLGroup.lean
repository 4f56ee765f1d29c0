/-
  Proved: DecafGroup answers true for every input within its guards.
-/
import Derived.Test.YtfgejoocodofoaaGreatX21
set_option linter.unusedSectionVars false
set_option linter.unusedVariables false
set_option linter.unusedSimpArgs false
set_option linter.deprecated false
section
set_option maxRecDepth 100000
namespace Go.Proofs.YtfgejoocodofoaaGreat
open Go Go.Proofs Go.RowKit Go.WideShapes Go.ChangeShapes Go.Sx
theorem decafGroup_lifted (os : Os) (started : os.Started) (H : Type) (enc : TypeId × Value → H) :
  ReturnsInHanded {} Tryz.checked os 6 .any (Rows.decafGroupSpec.pre6 enc Tryz.prog Tryz.f6 [] false)
   (Rows.decafGroupSpec.post enc Tryz.prog Tryz.f6 false true false false) := by
 refine returnsInHanded_of_change (C := Tryz.checked) (by kernel_rfl) started (by kernel_rfl) Tryz.func6
  (ChangeSpec.witness6 (enc := enc) (C := Tryz.checked) (os := os) false ⟨#[], #[.agg #[.slice none 0 0, .int .i64 0, .slice none 0 0, .int .i64 0], .agg #[.slice none 0 0, .int .i64 0]], []⟩ 8 (by kernel_rfl) (by kernel_rfl) (by kernel_rfl) (by kernel_rfl)) ?_
 intro W base args ds gs before hval hW _ _
 refine law_calls Sx.Tryz.c_chicorylaw14_DecafGroup (Ds := [_, _]) (.cons (opensV_arr2 Tryz.underlying51 (by kernel_rfl) (opens_st2 Tryz.underlying24 rfl (by kernel_rfl) (by kernel_rfl) (opens_ints Tryz.underlying22 Tryz.underlying5 (by kernel_rfl)) (opens_num Tryz.underlying3))) (.cons (opensV_st2 Tryz.underlying24 rfl (by kernel_rfl) (by kernel_rfl) (opens_ints Tryz.underlying22 Tryz.underlying5 (by kernel_rfl)) (opens_num Tryz.underlying3)) .nil)) (fun zs ha => ?_) (by kernel_rfl) (fun t ht => ?_) rfl rfl Tryz.underlying4 (fun ds hd => ?_) hval hW (fun g => trivial)
 ·match zs, ha with
  | [_, _], ⟨⟨_, _, rfl, ⟨_, _, rfl, ⟨k0, rfl, hl0, hk0⟩, ⟨n0, rfl⟩⟩, ⟨_, _, rfl, ⟨k1, rfl, hl1, hk1⟩, ⟨n1, rfl⟩⟩⟩, ⟨_, _, rfl, ⟨k, rfl, hkl, hk⟩, ⟨n, rfl⟩⟩, _⟩ => exact ⟨fun _ => ⟨⟨⟨fun a ha => isByte (hk0 a ha), maxLen_lt hl0⟩, ⟨fun a ha => isByte (hk1 a ha), maxLen_lt hl1⟩⟩, ⟨fun a ha => isByte (hk a ha), maxLen_lt hkl⟩⟩, fun x hx => rfl⟩
 ·rw [Tryz.params6] at ht
  simp only [List.mem_cons, List.not_mem_nil, or_false] at ht
  rcases ht with rfl | rfl <;> exact ⟨by kernel_rfl, of_decide_eq_true (by kernel_rfl)⟩
 ·match ds, hd with
  | [d0, d1], _ => rfl
theorem decafGroup_holds : Rows.DecafGroupSaid :=
 OpenClaim.holds_of_wide 6 Tryz.f6 rfl rfl rfl rfl rfl rfl rfl ⟨rfl, rfl, rfl, rfl, rfl⟩ rfl rfl rfl rfl rfl (by kernel_rfl) Tryz.func6 (by kernel_rfl)
  (of_decide_eq_true (by kernel_rfl)) (by unfold Func.isWrapper; first | (rw [if_pos (by decide +kernel)]; kernel_rfl) | (rw [if_neg (by decide +kernel)]; exact ⟨rfl, rfl⟩))
  (fun os started H enc _ => decafGroup_lifted os started H enc)
#print axioms decafGroup_holds
end Go.Proofs.YtfgejoocodofoaaGreat
end
