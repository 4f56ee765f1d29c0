/-
  No cell of these rows narrows 'for every input' (looked for: loops, veiled, ifaces, maps, wideKeys, modest, calm, conditions, laid).
  DERIVED. THE GIVEN ROWS OF THIS SEAT. 6 by the template 'for every input the law returns true; each argument reads behind the call as it read before'; 0 by the template 'total and deterministic' (their statements: YtfgejoocodofoaaGreatTotals.lean).
  GIVEN WITH THE SEED: the statements are not yours to turn. If you find one false, say at which input.
  Laid BY PROGRAM, IN A SANDBOX (cutbox-rows.mjs): the forced cells as the released guide's own fill.sh prints them over the translation a0deb499569155f8… (all of the seat's roots in one cut). By AI agents, Wed Nov 11 2026. No macro, syntax, notation, axiom, sorry.
-/
import Derived.Test.YtfgejoocodofoaaGreatChecked
import GoSem.Claim
import GoSem.ClaimJoined
import GoSem.ClaimMapViews
import Derived.JoinedTies
import Derived.KernelRfl
namespace Go.Proofs.YtfgejoocodofoaaGreat
/- THE CELL 'sum', in the pinned program and in every row, IS THE sha256 OF THE DUMP (.gsa) THAT YtfgejoocodofoaaGreatProg.lean LOADS. Nothing in Lean hashes anything: it is a label: what it is worth is what the hold of that sum in a sandbox is worth. -/
noncomputable def Tryz.pinned : Pinned := { name := "ytfgejoocodofoaagreat", sum := "a0deb499569155f84a3c7ecca6606b608461d7f1b8fe993b4b8a0667a2cf1645", checked := Tryz.checked }
namespace Rows
def none {H : Type} : Left H := { results := [], args := [] }

/-- 'chicorylaw14.DecafDecodes': WHATEVER THE INPUT: true; the input reads as it did. -/
def decafDecodesSpec : ChangeSpec := { name := "decafDecodes", fn := fun _ => fun
  | [d1, d2, d3] => { results := [.lit (.bool true)], args := [d1, d2, d3] }
  | _ => none }
def decafDecodesRow : OpenClaim := { program := "ytfgejoocodofoaagreat", sum := "a0deb499569155f84a3c7ecca6606b608461d7f1b8fe993b4b8a0667a2cf1645", func := "chicory/chicorylaw14.DecafDecodes", spec := "decafDecodes", inPlace := ["math/bits.Add64", "math/bits.Sub64"], unfollowed := true, recurses := true, apart := false }
def DecafDecodesSaid : Prop := decafDecodesRow.holds Tryz.pinned (OpenSpec.ofChange decafDecodesSpec)

/-- ITS FALSE NEIGHBOUR: 'it returns false'. Refute it at one input. -/
def decafDecodesWrong : ChangeSpec := { name := "decafDecodes", fn := fun _ => fun
  | [d1, d2, d3] => { results := [.lit (.bool false)], args := [d1, d2, d3] }
  | _ => none }
def DecafDecodesWrongFalsely : Prop := decafDecodesRow.holds Tryz.pinned (OpenSpec.ofChange decafDecodesWrong)

/-- 'chicorylaw14.DecafAdds': WHATEVER THE INPUT: true; the input reads as it did. -/
def decafAddsSpec : ChangeSpec := { name := "decafAdds", fn := fun _ => fun
  | [d1, d2] => { results := [.lit (.bool true)], args := [d1, d2] }
  | _ => none }
def decafAddsRow : OpenClaim := { program := "ytfgejoocodofoaagreat", sum := "a0deb499569155f84a3c7ecca6606b608461d7f1b8fe993b4b8a0667a2cf1645", func := "chicory/chicorylaw14.DecafAdds", spec := "decafAdds", inPlace := ["math/bits.Sub64", "math/bits.Add64"], unfollowed := true, recurses := true, apart := false }
def DecafAddsSaid : Prop := decafAddsRow.holds Tryz.pinned (OpenSpec.ofChange decafAddsSpec)

/-- ITS FALSE NEIGHBOUR: 'it returns false'. Refute it at one input. -/
def decafAddsWrong : ChangeSpec := { name := "decafAdds", fn := fun _ => fun
  | [d1, d2] => { results := [.lit (.bool false)], args := [d1, d2] }
  | _ => none }
def DecafAddsWrongFalsely : Prop := decafAddsRow.holds Tryz.pinned (OpenSpec.ofChange decafAddsWrong)

/-- 'chicorylaw14.DecafEncodes': WHATEVER THE INPUT: true; the input reads as it did. -/
def decafEncodesSpec : ChangeSpec := { name := "decafEncodes", fn := fun _ => fun
  | [d] => { results := [.lit (.bool true)], args := [d] }
  | _ => none }
def decafEncodesRow : OpenClaim := { program := "ytfgejoocodofoaagreat", sum := "a0deb499569155f84a3c7ecca6606b608461d7f1b8fe993b4b8a0667a2cf1645", func := "chicory/chicorylaw14.DecafEncodes", spec := "decafEncodes", inPlace := ["math/bits.Sub64", "math/bits.Add64"], unfollowed := true, recurses := true, apart := false }
def DecafEncodesSaid : Prop := decafEncodesRow.holds Tryz.pinned (OpenSpec.ofChange decafEncodesSpec)

/-- ITS FALSE NEIGHBOUR: 'it returns false'. Refute it at one input. -/
def decafEncodesWrong : ChangeSpec := { name := "decafEncodes", fn := fun _ => fun
  | [d] => { results := [.lit (.bool false)], args := [d] }
  | _ => none }
def DecafEncodesWrongFalsely : Prop := decafEncodesRow.holds Tryz.pinned (OpenSpec.ofChange decafEncodesWrong)

/-- 'chicorylaw14.DecafGroup': WHATEVER THE INPUT: true; the input reads as it did. -/
def decafGroupSpec : ChangeSpec := { name := "decafGroup", fn := fun _ => fun
  | [d1, d2] => { results := [.lit (.bool true)], args := [d1, d2] }
  | _ => none }
def decafGroupRow : OpenClaim := { program := "ytfgejoocodofoaagreat", sum := "a0deb499569155f84a3c7ecca6606b608461d7f1b8fe993b4b8a0667a2cf1645", func := "chicory/chicorylaw14.DecafGroup", spec := "decafGroup", inPlace := ["math/bits.Sub64", "math/bits.Add64"], unfollowed := true, recurses := true, apart := false }
def DecafGroupSaid : Prop := decafGroupRow.holds Tryz.pinned (OpenSpec.ofChange decafGroupSpec)

/-- ITS FALSE NEIGHBOUR: 'it returns false'. Refute it at one input. -/
def decafGroupWrong : ChangeSpec := { name := "decafGroup", fn := fun _ => fun
  | [d1, d2] => { results := [.lit (.bool false)], args := [d1, d2] }
  | _ => none }
def DecafGroupWrongFalsely : Prop := decafGroupRow.holds Tryz.pinned (OpenSpec.ofChange decafGroupWrong)

/-- 'chicorylaw14.DecafMuls': WHATEVER THE INPUT: true; the input reads as it did. -/
def decafMulsSpec : ChangeSpec := { name := "decafMuls", fn := fun _ => fun
  | [d1, d2] => { results := [.lit (.bool true)], args := [d1, d2] }
  | _ => none }
def decafMulsRow : OpenClaim := { program := "ytfgejoocodofoaagreat", sum := "a0deb499569155f84a3c7ecca6606b608461d7f1b8fe993b4b8a0667a2cf1645", func := "chicory/chicorylaw14.DecafMuls", spec := "decafMuls", inPlace := ["math/bits.Sub64", "math/bits.Add64"], unfollowed := true, recurses := true, apart := false }
def DecafMulsSaid : Prop := decafMulsRow.holds Tryz.pinned (OpenSpec.ofChange decafMulsSpec)

/-- ITS FALSE NEIGHBOUR: 'it returns false'. Refute it at one input. -/
def decafMulsWrong : ChangeSpec := { name := "decafMuls", fn := fun _ => fun
  | [d1, d2] => { results := [.lit (.bool false)], args := [d1, d2] }
  | _ => none }
def DecafMulsWrongFalsely : Prop := decafMulsRow.holds Tryz.pinned (OpenSpec.ofChange decafMulsWrong)

/-- 'chicorylaw14.DecafScales': WHATEVER THE INPUT: true; the input reads as it did. -/
def decafScalesSpec : ChangeSpec := { name := "decafScales", fn := fun _ => fun
  | [d1, d2] => { results := [.lit (.bool true)], args := [d1, d2] }
  | _ => none }
def decafScalesRow : OpenClaim := { program := "ytfgejoocodofoaagreat", sum := "a0deb499569155f84a3c7ecca6606b608461d7f1b8fe993b4b8a0667a2cf1645", func := "chicory/chicorylaw14.DecafScales", spec := "decafScales", inPlace := ["math/bits.Sub64", "math/bits.Add64"], unfollowed := true, recurses := true, apart := false }
def DecafScalesSaid : Prop := decafScalesRow.holds Tryz.pinned (OpenSpec.ofChange decafScalesSpec)

/-- ITS FALSE NEIGHBOUR: 'it returns false'. Refute it at one input. -/
def decafScalesWrong : ChangeSpec := { name := "decafScales", fn := fun _ => fun
  | [d1, d2] => { results := [.lit (.bool false)], args := [d1, d2] }
  | _ => none }
def DecafScalesWrongFalsely : Prop := decafScalesRow.holds Tryz.pinned (OpenSpec.ofChange decafScalesWrong)

/- THE SECOND FORM. 'bulk': how many values and letters a reading holds, each counted each time it is reached (what is shared counts as often as it is met; a slice's spare places count too). A statement '..UptoSaid' is the law's where the arguments, and the package variables that the reading takes, are together of bulk at most 1048576: NARROWER than '..Said'. Prove '..Said' where nothing that the law and all that it calls make is longer than what came in: it says more and counts as full. Else prove '..UptoSaid'. A law counts once. -/
mutual
def uptoBulk {H : Type} : DataW H → Nat
  | .lit (.string bytes) => bytes.length + 1
  | .lit _ => 1
  | .nil => 1
  | .ptr d => uptoBulk d + 1
  | .slice elems spare => uptoBulkAll elems + uptoBulkAll spare + 1
  | .agg parts => uptoBulkAll parts + 1
  | .iface _ d => uptoBulk d + 1
  | .map entries => uptoBulkEntries entries + 1
  | .held _ => 1
def uptoBulkAll {H : Type} : List (DataW H) → Nat
  | [] => 0
  | d :: r => uptoBulk d + uptoBulkAll r
def uptoBulkEntries {H : Type} : List (Lit × DataW H) → Nat
  | [] => 0
  | x :: r => uptoBulkEntry x + uptoBulkEntries r
def uptoBulkEntry {H : Type} : Lit × DataW H → Nat
  | (.string bytes, d) => bytes.length + uptoBulk d + 1
  | (_, d) => uptoBulk d + 1
 end
def uptoSmall : (H : Type) → List (DataW H) → Bool := fun _ ds => decide (uptoBulkAll ds ≤ 1048576)
def OpenSpec.upto (s : _root_.Go.ChangeSpec) : _root_.Go.OpenSpec := { _root_.Go.OpenSpec.ofChange s with cond := some uptoSmall }

/-- 'chicorylaw14.DecafDecodes', WHERE WHAT IT READS IS OF BULK AT MOST 1048576: true; the input reads as it did. -/
def decafDecodesUptoRow : OpenClaim := { program := "ytfgejoocodofoaagreat", sum := "a0deb499569155f84a3c7ecca6606b608461d7f1b8fe993b4b8a0667a2cf1645", func := "chicory/chicorylaw14.DecafDecodes", spec := "decafDecodes", inPlace := ["math/bits.Add64", "math/bits.Sub64"], unfollowed := true, recurses := true, apart := false, narrowed := true }
def DecafDecodesUptoSaid : Prop := decafDecodesUptoRow.holds Tryz.pinned (OpenSpec.upto decafDecodesSpec)

/-- 'chicorylaw14.DecafAdds', WHERE WHAT IT READS IS OF BULK AT MOST 1048576: true; the input reads as it did. -/
def decafAddsUptoRow : OpenClaim := { program := "ytfgejoocodofoaagreat", sum := "a0deb499569155f84a3c7ecca6606b608461d7f1b8fe993b4b8a0667a2cf1645", func := "chicory/chicorylaw14.DecafAdds", spec := "decafAdds", inPlace := ["math/bits.Sub64", "math/bits.Add64"], unfollowed := true, recurses := true, apart := false, narrowed := true }
def DecafAddsUptoSaid : Prop := decafAddsUptoRow.holds Tryz.pinned (OpenSpec.upto decafAddsSpec)

/-- 'chicorylaw14.DecafEncodes', WHERE WHAT IT READS IS OF BULK AT MOST 1048576: true; the input reads as it did. -/
def decafEncodesUptoRow : OpenClaim := { program := "ytfgejoocodofoaagreat", sum := "a0deb499569155f84a3c7ecca6606b608461d7f1b8fe993b4b8a0667a2cf1645", func := "chicory/chicorylaw14.DecafEncodes", spec := "decafEncodes", inPlace := ["math/bits.Sub64", "math/bits.Add64"], unfollowed := true, recurses := true, apart := false, narrowed := true }
def DecafEncodesUptoSaid : Prop := decafEncodesUptoRow.holds Tryz.pinned (OpenSpec.upto decafEncodesSpec)

/-- 'chicorylaw14.DecafGroup', WHERE WHAT IT READS IS OF BULK AT MOST 1048576: true; the input reads as it did. -/
def decafGroupUptoRow : OpenClaim := { program := "ytfgejoocodofoaagreat", sum := "a0deb499569155f84a3c7ecca6606b608461d7f1b8fe993b4b8a0667a2cf1645", func := "chicory/chicorylaw14.DecafGroup", spec := "decafGroup", inPlace := ["math/bits.Sub64", "math/bits.Add64"], unfollowed := true, recurses := true, apart := false, narrowed := true }
def DecafGroupUptoSaid : Prop := decafGroupUptoRow.holds Tryz.pinned (OpenSpec.upto decafGroupSpec)

/-- 'chicorylaw14.DecafMuls', WHERE WHAT IT READS IS OF BULK AT MOST 1048576: true; the input reads as it did. -/
def decafMulsUptoRow : OpenClaim := { program := "ytfgejoocodofoaagreat", sum := "a0deb499569155f84a3c7ecca6606b608461d7f1b8fe993b4b8a0667a2cf1645", func := "chicory/chicorylaw14.DecafMuls", spec := "decafMuls", inPlace := ["math/bits.Sub64", "math/bits.Add64"], unfollowed := true, recurses := true, apart := false, narrowed := true }
def DecafMulsUptoSaid : Prop := decafMulsUptoRow.holds Tryz.pinned (OpenSpec.upto decafMulsSpec)

/-- 'chicorylaw14.DecafScales', WHERE WHAT IT READS IS OF BULK AT MOST 1048576: true; the input reads as it did. -/
def decafScalesUptoRow : OpenClaim := { program := "ytfgejoocodofoaagreat", sum := "a0deb499569155f84a3c7ecca6606b608461d7f1b8fe993b4b8a0667a2cf1645", func := "chicory/chicorylaw14.DecafScales", spec := "decafScales", inPlace := ["math/bits.Sub64", "math/bits.Add64"], unfollowed := true, recurses := true, apart := false, narrowed := true }
def DecafScalesUptoSaid : Prop := decafScalesUptoRow.holds Tryz.pinned (OpenSpec.upto decafScalesSpec)

end Rows
end Go.Proofs.YtfgejoocodofoaaGreat
