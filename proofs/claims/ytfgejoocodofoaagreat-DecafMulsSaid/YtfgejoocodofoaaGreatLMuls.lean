/-
  Proved: DecafMuls answers true for every input within its guards.
-/
import Derived.Test.YtfgejoocodofoaaGreatX20
set_option linter.unusedSectionVars false
set_option linter.unusedVariables false
set_option linter.unusedSimpArgs false
set_option linter.deprecated false
section
set_option maxRecDepth 100000
namespace Go.Proofs.YtfgejoocodofoaaGreat
open Go Go.Proofs Go.RowKit Go.WideShapes Go.ChangeShapes Go.Sx
theorem decafMuls_lifted (os : Os) (started : os.Started) (H : Type) (enc : TypeId × Value -> H) :
  ReturnsInHanded {} Tryz.checked os 7 .any (Rows.decafMulsSpec.pre6 enc Tryz.prog Tryz.f7 [] false)
   (Rows.decafMulsSpec.post enc Tryz.prog Tryz.f7 false true false false) := by
 refine returnsInHanded_of_change (C := Tryz.checked) (by kernel_rfl) started (by kernel_rfl) Tryz.func7
  (ChangeSpec.witness6 (enc := enc) (C := Tryz.checked) (os := os) false ⟨#[], #[.agg #[.slice none 0 0, .int .i64 0, .slice none 0 0, .int .i64 0], .agg #[.slice none 0 0, .slice none 0 0]], []⟩ 8 (by kernel_rfl) (by kernel_rfl) (by kernel_rfl) (by kernel_rfl)) ?_
 intro W base args ds gs before hval hW _ _
 refine quA Sx.Tryz.c_chicorylaw14_DecafMuls (Ds := [_, _]) (.cons (qoS Tryz.underlying51 (by kernel_rfl) (quC Tryz.underlying24 rfl (by kernel_rfl) (by kernel_rfl) (qoO Tryz.underlying22 Tryz.underlying5 (by kernel_rfl)) (quF Tryz.underlying3))) (.cons (qoS Tryz.underlying75 (by kernel_rfl) (qoO Tryz.underlying22 Tryz.underlying5 (by kernel_rfl))) .nil)) (fun zs ha => ?_) (by kernel_rfl) (fun t ht => ?_) rfl rfl Tryz.underlying4 (fun ds hd => ?_) hval hW (fun g => trivial)
 ·match zs, ha with
  | [_, _], ⟨⟨_, _, rfl, ⟨_, _, rfl, ⟨k0, rfl, hl0, hk0⟩, ⟨n0, rfl⟩⟩, ⟨_, _, rfl, ⟨k1, rfl, hl1, hk1⟩, ⟨n1, rfl⟩⟩⟩, ⟨_, _, rfl, ⟨b0, rfl, hb0, hy0⟩, ⟨b1, rfl, hb1, hy1⟩⟩, _⟩ => exact ⟨fun _ => ⟨⟨⟨fun a ha => qie (hk0 a ha), qif hl0⟩, ⟨fun a ha => qie (hk1 a ha), qif hl1⟩⟩, ⟨⟨fun a ha => qie (hy0 a ha), qif hb0⟩, ⟨fun a ha => qie (hy1 a ha), qif hb1⟩⟩⟩, fun x hx => rfl⟩
 ·rw [Tryz.params7] at ht
  simp only [List.mem_cons, List.not_mem_nil, or_false] at ht
  rcases ht with rfl | rfl <;> exact ⟨by kernel_rfl, of_decide_eq_true (by kernel_rfl)⟩
 ·match ds, hd with
  | [d0, d1], _ => rfl
theorem decafMuls_holds : Rows.DecafMulsSaid :=
 OpenClaim.holds_of_wide 7 Tryz.f7 rfl rfl rfl rfl rfl rfl rfl ⟨rfl, rfl, rfl, rfl, rfl⟩ rfl rfl rfl rfl rfl (by kernel_rfl) Tryz.func7 (by kernel_rfl)
  (of_decide_eq_true (by kernel_rfl)) (by unfold Func.isWrapper; first | (rw [if_pos (by decide +kernel)]; kernel_rfl) | (rw [if_neg (by decide +kernel)]; exact ⟨rfl, rfl⟩))
  (fun os started H enc _ => decafMuls_lifted os started H enc)
#print axioms decafMuls_holds
end Go.Proofs.YtfgejoocodofoaaGreat
end
