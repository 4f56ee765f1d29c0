/-
  NARROWER THAN 'FOR EVERY INPUT', by the rows' own cells (each row's printed sentence says how): EddsaKeys: laid · ElligatorParts: laid · ElligatorSigns: laid · ElligatorMaps: laid · ElligatorHashes: laid · ElligatorOf: laid · EddsaSigns: laid · EddsaNil: laid · ElligatorGroup: laid · EddsaVerifies: laid · EddsaBack: laid.
  DERIVED. THE GIVEN ROWS OF THIS SEAT. 11 by the template 'for every input the law returns true; each argument reads behind the call as it read before'; 0 by the template 'total and deterministic' (their statements: YtpnebmmjpapopaaGreatDoorTotals.lean).
  GIVEN WITH THE SEED: the statements are not yours to turn. If you find one false, say at which input.
  Laid BY PROGRAM, IN A SANDBOX (cutbox-rows.mjs): the forced cells as the released guide's own fill.sh prints them over the translation aa0c7057184cc362… (all of the seat's roots in one cut). By AI agents, Wed Nov 11 2026. No macro, syntax, notation, axiom, sorry.
-/
import Derived.Test.YtpnebmmjpapopaaGreatDoorChecked
import GoSem.Claim
import GoSem.ClaimJoined
import GoSem.ClaimMapViews
import Derived.JoinedTies
import Derived.KernelRfl
namespace Go.Proofs.YtpnebmmjpapopaaGreatDoor
/- THE CELL 'sum', in the pinned program and in every row, IS THE sha256 OF THE DUMP (.gsa) THAT YtpnebmmjpapopaaGreatDoorProg.lean LOADS. Nothing in Lean hashes anything: it is a label: what it is worth is what the hold of that sum in a sandbox is worth. -/
noncomputable def Tryz.pinned : Pinned := { name := "ytpnebmmjpapopaagreatdoor", sum := "aa0c7057184cc362e5a437556ecce548a31c922d6992581d1396bff738a8b5a5", checked := Tryz.checked }
namespace Rows
def none {H : Type} : Left H := { results := [], args := [] }

/- WHAT THE LISTED PACKAGE-LEVEL VARIABLES READ AS WHEN THE CALL BEGINS. Each datum BY PROGRAM (the guide's laid-datum.mjs) off the statement by which the dump's own 'gosem.cut.vars' lays the variable. In a bare row this is a premise. The card (YtpnebmmjpapopaaGreatDoorCards.lean) ties it to the program's text. -/
def laid_chicory_keccak_constants {H : Type} : DataW H := .agg [.lit (.int .u64 1), .lit (.int .u64 32898), .lit (.int .u64 9223372036854808714), .lit (.int .u64 9223372039002292224), .lit (.int .u64 32907), .lit (.int .u64 2147483649), .lit (.int .u64 9223372039002292353), .lit (.int .u64 9223372036854808585), .lit (.int .u64 138), .lit (.int .u64 136), .lit (.int .u64 2147516425), .lit (.int .u64 2147483658), .lit (.int .u64 2147516555), .lit (.int .u64 9223372036854775947), .lit (.int .u64 9223372036854808713), .lit (.int .u64 9223372036854808579), .lit (.int .u64 9223372036854808578), .lit (.int .u64 9223372036854775936), .lit (.int .u64 32778), .lit (.int .u64 9223372039002259466), .lit (.int .u64 9223372039002292353), .lit (.int .u64 9223372036854808704), .lit (.int .u64 2147483649), .lit (.int .u64 9223372039002292232)]
def laid_chicory_keccak_offsets {H : Type} : DataW H := .agg [.lit (.int .i64 1), .lit (.int .i64 3), .lit (.int .i64 6), .lit (.int .i64 10), .lit (.int .i64 15), .lit (.int .i64 21), .lit (.int .i64 28), .lit (.int .i64 36), .lit (.int .i64 45), .lit (.int .i64 55), .lit (.int .i64 2), .lit (.int .i64 14), .lit (.int .i64 27), .lit (.int .i64 41), .lit (.int .i64 56), .lit (.int .i64 8), .lit (.int .i64 25), .lit (.int .i64 43), .lit (.int .i64 62), .lit (.int .i64 18), .lit (.int .i64 39), .lit (.int .i64 61), .lit (.int .i64 20), .lit (.int .i64 44)]
def laid_chicory_keccak_way {H : Type} : DataW H := .agg [.lit (.int .i64 10), .lit (.int .i64 7), .lit (.int .i64 11), .lit (.int .i64 17), .lit (.int .i64 18), .lit (.int .i64 3), .lit (.int .i64 5), .lit (.int .i64 16), .lit (.int .i64 8), .lit (.int .i64 21), .lit (.int .i64 24), .lit (.int .i64 4), .lit (.int .i64 15), .lit (.int .i64 23), .lit (.int .i64 19), .lit (.int .i64 13), .lit (.int .i64 12), .lit (.int .i64 2), .lit (.int .i64 20), .lit (.int .i64 14), .lit (.int .i64 22), .lit (.int .i64 9), .lit (.int .i64 6), .lit (.int .i64 1)]

/-- 'chicorylaw17.EddsaKeys': WHATEVER THE INPUT: true; the input reads as it did. -/
def eddsaKeysSpec : ChangeSpec := { name := "eddsaKeys", fn := fun _ => fun
  | [d] => { results := [.lit (.bool true)], args := [d] }
  | _ => none }
def eddsaKeysRow : OpenClaim := { program := "ytpnebmmjpapopaagreatdoor", sum := "aa0c7057184cc362e5a437556ecce548a31c922d6992581d1396bff738a8b5a5", func := "chicory/chicorylaw17.EddsaKeys", spec := "eddsaKeys", inPlace := ["math/bits.Add64", "math/bits.Sub64"], unfollowed := true, recurses := true, named := ["chicory/keccak.constants", "chicory/keccak.way", "chicory/keccak.offsets"], apart := false, laid := [("chicory/keccak.constants", laid_chicory_keccak_constants), ("chicory/keccak.offsets", laid_chicory_keccak_offsets), ("chicory/keccak.way", laid_chicory_keccak_way)] }
def EddsaKeysSaid : Prop := eddsaKeysRow.holds Tryz.pinned (OpenSpec.ofChange eddsaKeysSpec)

/-- ITS FALSE NEIGHBOUR: 'it returns false'. Refute it at one input. -/
def eddsaKeysWrong : ChangeSpec := { name := "eddsaKeys", fn := fun _ => fun
  | [d] => { results := [.lit (.bool false)], args := [d] }
  | _ => none }
def EddsaKeysWrongFalsely : Prop := eddsaKeysRow.holds Tryz.pinned (OpenSpec.ofChange eddsaKeysWrong)

/-- 'chicorylaw15.ElligatorParts': WHATEVER THE INPUT: true; the input reads as it did. -/
def elligatorPartsSpec : ChangeSpec := { name := "elligatorParts", fn := fun _ => fun
  | [d] => { results := [.lit (.bool true)], args := [d] }
  | _ => none }
def elligatorPartsRow : OpenClaim := { program := "ytpnebmmjpapopaagreatdoor", sum := "aa0c7057184cc362e5a437556ecce548a31c922d6992581d1396bff738a8b5a5", func := "chicory/chicorylaw15.ElligatorParts", spec := "elligatorParts", inPlace := ["math/bits.Add64", "math/bits.Sub64"], unfollowed := true, recurses := true, named := ["chicory/keccak.constants", "chicory/keccak.way", "chicory/keccak.offsets"], apart := false, laid := [("chicory/keccak.constants", laid_chicory_keccak_constants), ("chicory/keccak.offsets", laid_chicory_keccak_offsets), ("chicory/keccak.way", laid_chicory_keccak_way)] }
def ElligatorPartsSaid : Prop := elligatorPartsRow.holds Tryz.pinned (OpenSpec.ofChange elligatorPartsSpec)

/-- ITS FALSE NEIGHBOUR: 'it returns false'. Refute it at one input. -/
def elligatorPartsWrong : ChangeSpec := { name := "elligatorParts", fn := fun _ => fun
  | [d] => { results := [.lit (.bool false)], args := [d] }
  | _ => none }
def ElligatorPartsWrongFalsely : Prop := elligatorPartsRow.holds Tryz.pinned (OpenSpec.ofChange elligatorPartsWrong)

/-- 'chicorylaw15.ElligatorSigns': WHATEVER THE INPUT: true; the input reads as it did. -/
def elligatorSignsSpec : ChangeSpec := { name := "elligatorSigns", fn := fun _ => fun
  | [d] => { results := [.lit (.bool true)], args := [d] }
  | _ => none }
def elligatorSignsRow : OpenClaim := { program := "ytpnebmmjpapopaagreatdoor", sum := "aa0c7057184cc362e5a437556ecce548a31c922d6992581d1396bff738a8b5a5", func := "chicory/chicorylaw15.ElligatorSigns", spec := "elligatorSigns", inPlace := ["math/bits.Add64", "math/bits.Sub64"], unfollowed := true, recurses := true, named := ["chicory/keccak.constants", "chicory/keccak.way", "chicory/keccak.offsets"], apart := false, laid := [("chicory/keccak.constants", laid_chicory_keccak_constants), ("chicory/keccak.offsets", laid_chicory_keccak_offsets), ("chicory/keccak.way", laid_chicory_keccak_way)] }
def ElligatorSignsSaid : Prop := elligatorSignsRow.holds Tryz.pinned (OpenSpec.ofChange elligatorSignsSpec)

/-- ITS FALSE NEIGHBOUR: 'it returns false'. Refute it at one input. -/
def elligatorSignsWrong : ChangeSpec := { name := "elligatorSigns", fn := fun _ => fun
  | [d] => { results := [.lit (.bool false)], args := [d] }
  | _ => none }
def ElligatorSignsWrongFalsely : Prop := elligatorSignsRow.holds Tryz.pinned (OpenSpec.ofChange elligatorSignsWrong)

/-- 'chicorylaw15.ElligatorMaps': WHATEVER THE INPUT: true; the input reads as it did. -/
def elligatorMapsSpec : ChangeSpec := { name := "elligatorMaps", fn := fun _ => fun
  | [d] => { results := [.lit (.bool true)], args := [d] }
  | _ => none }
def elligatorMapsRow : OpenClaim := { program := "ytpnebmmjpapopaagreatdoor", sum := "aa0c7057184cc362e5a437556ecce548a31c922d6992581d1396bff738a8b5a5", func := "chicory/chicorylaw15.ElligatorMaps", spec := "elligatorMaps", inPlace := ["math/bits.Add64", "math/bits.Sub64"], unfollowed := true, recurses := true, named := ["chicory/keccak.constants", "chicory/keccak.way", "chicory/keccak.offsets"], apart := false, laid := [("chicory/keccak.constants", laid_chicory_keccak_constants), ("chicory/keccak.offsets", laid_chicory_keccak_offsets), ("chicory/keccak.way", laid_chicory_keccak_way)] }
def ElligatorMapsSaid : Prop := elligatorMapsRow.holds Tryz.pinned (OpenSpec.ofChange elligatorMapsSpec)

/-- ITS FALSE NEIGHBOUR: 'it returns false'. Refute it at one input. -/
def elligatorMapsWrong : ChangeSpec := { name := "elligatorMaps", fn := fun _ => fun
  | [d] => { results := [.lit (.bool false)], args := [d] }
  | _ => none }
def ElligatorMapsWrongFalsely : Prop := elligatorMapsRow.holds Tryz.pinned (OpenSpec.ofChange elligatorMapsWrong)

/-- 'chicorylaw15.ElligatorHashes': WHATEVER THE INPUT: true; the input reads as it did. -/
def elligatorHashesSpec : ChangeSpec := { name := "elligatorHashes", fn := fun _ => fun
  | [d] => { results := [.lit (.bool true)], args := [d] }
  | _ => none }
def elligatorHashesRow : OpenClaim := { program := "ytpnebmmjpapopaagreatdoor", sum := "aa0c7057184cc362e5a437556ecce548a31c922d6992581d1396bff738a8b5a5", func := "chicory/chicorylaw15.ElligatorHashes", spec := "elligatorHashes", inPlace := ["math/bits.Add64", "math/bits.Sub64"], unfollowed := true, recurses := true, named := ["chicory/keccak.constants", "chicory/keccak.way", "chicory/keccak.offsets"], apart := false, laid := [("chicory/keccak.constants", laid_chicory_keccak_constants), ("chicory/keccak.offsets", laid_chicory_keccak_offsets), ("chicory/keccak.way", laid_chicory_keccak_way)] }
def ElligatorHashesSaid : Prop := elligatorHashesRow.holds Tryz.pinned (OpenSpec.ofChange elligatorHashesSpec)

/-- ITS FALSE NEIGHBOUR: 'it returns false'. Refute it at one input. -/
def elligatorHashesWrong : ChangeSpec := { name := "elligatorHashes", fn := fun _ => fun
  | [d] => { results := [.lit (.bool false)], args := [d] }
  | _ => none }
def ElligatorHashesWrongFalsely : Prop := elligatorHashesRow.holds Tryz.pinned (OpenSpec.ofChange elligatorHashesWrong)

/-- 'chicorylaw15.ElligatorOf': WHATEVER THE INPUT: true; the input reads as it did. -/
def elligatorOfSpec : ChangeSpec := { name := "elligatorOf", fn := fun _ => fun
  | [d1, d2] => { results := [.lit (.bool true)], args := [d1, d2] }
  | _ => none }
def elligatorOfRow : OpenClaim := { program := "ytpnebmmjpapopaagreatdoor", sum := "aa0c7057184cc362e5a437556ecce548a31c922d6992581d1396bff738a8b5a5", func := "chicory/chicorylaw15.ElligatorOf", spec := "elligatorOf", inPlace := ["math/bits.Add64", "math/bits.Sub64"], unfollowed := true, recurses := true, named := ["chicory/keccak.constants", "chicory/keccak.way", "chicory/keccak.offsets"], apart := false, laid := [("chicory/keccak.constants", laid_chicory_keccak_constants), ("chicory/keccak.offsets", laid_chicory_keccak_offsets), ("chicory/keccak.way", laid_chicory_keccak_way)] }
def ElligatorOfSaid : Prop := elligatorOfRow.holds Tryz.pinned (OpenSpec.ofChange elligatorOfSpec)

/-- ITS FALSE NEIGHBOUR: 'it returns false'. Refute it at one input. -/
def elligatorOfWrong : ChangeSpec := { name := "elligatorOf", fn := fun _ => fun
  | [d1, d2] => { results := [.lit (.bool false)], args := [d1, d2] }
  | _ => none }
def ElligatorOfWrongFalsely : Prop := elligatorOfRow.holds Tryz.pinned (OpenSpec.ofChange elligatorOfWrong)

/-- 'chicorylaw17.EddsaSigns': WHATEVER THE INPUT: true; the input reads as it did. -/
def eddsaSignsSpec : ChangeSpec := { name := "eddsaSigns", fn := fun _ => fun
  | [d] => { results := [.lit (.bool true)], args := [d] }
  | _ => none }
def eddsaSignsRow : OpenClaim := { program := "ytpnebmmjpapopaagreatdoor", sum := "aa0c7057184cc362e5a437556ecce548a31c922d6992581d1396bff738a8b5a5", func := "chicory/chicorylaw17.EddsaSigns", spec := "eddsaSigns", inPlace := ["math/bits.Add64", "math/bits.Sub64"], unfollowed := true, recurses := true, named := ["chicory/keccak.constants", "chicory/keccak.way", "chicory/keccak.offsets"], apart := false, laid := [("chicory/keccak.constants", laid_chicory_keccak_constants), ("chicory/keccak.offsets", laid_chicory_keccak_offsets), ("chicory/keccak.way", laid_chicory_keccak_way)] }
def EddsaSignsSaid : Prop := eddsaSignsRow.holds Tryz.pinned (OpenSpec.ofChange eddsaSignsSpec)

/-- ITS FALSE NEIGHBOUR: 'it returns false'. Refute it at one input. -/
def eddsaSignsWrong : ChangeSpec := { name := "eddsaSigns", fn := fun _ => fun
  | [d] => { results := [.lit (.bool false)], args := [d] }
  | _ => none }
def EddsaSignsWrongFalsely : Prop := eddsaSignsRow.holds Tryz.pinned (OpenSpec.ofChange eddsaSignsWrong)

/-- 'chicorylaw17.EddsaNil': WHATEVER THE INPUT: true; the input reads as it did. -/
def eddsaNilSpec : ChangeSpec := { name := "eddsaNil", fn := fun _ => fun
  | [d] => { results := [.lit (.bool true)], args := [d] }
  | _ => none }
def eddsaNilRow : OpenClaim := { program := "ytpnebmmjpapopaagreatdoor", sum := "aa0c7057184cc362e5a437556ecce548a31c922d6992581d1396bff738a8b5a5", func := "chicory/chicorylaw17.EddsaNil", spec := "eddsaNil", inPlace := ["math/bits.Sub64", "math/bits.Add64"], unfollowed := true, recurses := true, named := ["chicory/keccak.constants", "chicory/keccak.way", "chicory/keccak.offsets"], apart := false, laid := [("chicory/keccak.constants", laid_chicory_keccak_constants), ("chicory/keccak.offsets", laid_chicory_keccak_offsets), ("chicory/keccak.way", laid_chicory_keccak_way)] }
def EddsaNilSaid : Prop := eddsaNilRow.holds Tryz.pinned (OpenSpec.ofChange eddsaNilSpec)

/-- ITS FALSE NEIGHBOUR: 'it returns false'. Refute it at one input. -/
def eddsaNilWrong : ChangeSpec := { name := "eddsaNil", fn := fun _ => fun
  | [d] => { results := [.lit (.bool false)], args := [d] }
  | _ => none }
def EddsaNilWrongFalsely : Prop := eddsaNilRow.holds Tryz.pinned (OpenSpec.ofChange eddsaNilWrong)

/-- 'chicorylaw15.ElligatorGroup': WHATEVER THE INPUT: true; the input reads as it did. -/
def elligatorGroupSpec : ChangeSpec := { name := "elligatorGroup", fn := fun _ => fun
  | [d] => { results := [.lit (.bool true)], args := [d] }
  | _ => none }
def elligatorGroupRow : OpenClaim := { program := "ytpnebmmjpapopaagreatdoor", sum := "aa0c7057184cc362e5a437556ecce548a31c922d6992581d1396bff738a8b5a5", func := "chicory/chicorylaw15.ElligatorGroup", spec := "elligatorGroup", inPlace := ["math/bits.Add64", "math/bits.Sub64"], unfollowed := true, recurses := true, named := ["chicory/keccak.constants", "chicory/keccak.way", "chicory/keccak.offsets"], apart := false, laid := [("chicory/keccak.constants", laid_chicory_keccak_constants), ("chicory/keccak.offsets", laid_chicory_keccak_offsets), ("chicory/keccak.way", laid_chicory_keccak_way)] }
def ElligatorGroupSaid : Prop := elligatorGroupRow.holds Tryz.pinned (OpenSpec.ofChange elligatorGroupSpec)

/-- ITS FALSE NEIGHBOUR: 'it returns false'. Refute it at one input. -/
def elligatorGroupWrong : ChangeSpec := { name := "elligatorGroup", fn := fun _ => fun
  | [d] => { results := [.lit (.bool false)], args := [d] }
  | _ => none }
def ElligatorGroupWrongFalsely : Prop := elligatorGroupRow.holds Tryz.pinned (OpenSpec.ofChange elligatorGroupWrong)

/-- 'chicorylaw17.EddsaVerifies': WHATEVER THE INPUT: true; the input reads as it did. -/
def eddsaVerifiesSpec : ChangeSpec := { name := "eddsaVerifies", fn := fun _ => fun
  | [d1, d2, d3] => { results := [.lit (.bool true)], args := [d1, d2, d3] }
  | _ => none }
def eddsaVerifiesRow : OpenClaim := { program := "ytpnebmmjpapopaagreatdoor", sum := "aa0c7057184cc362e5a437556ecce548a31c922d6992581d1396bff738a8b5a5", func := "chicory/chicorylaw17.EddsaVerifies", spec := "eddsaVerifies", inPlace := ["math/bits.Add64", "math/bits.Sub64"], unfollowed := true, recurses := true, named := ["chicory/keccak.constants", "chicory/keccak.way", "chicory/keccak.offsets"], apart := false, laid := [("chicory/keccak.constants", laid_chicory_keccak_constants), ("chicory/keccak.offsets", laid_chicory_keccak_offsets), ("chicory/keccak.way", laid_chicory_keccak_way)] }
def EddsaVerifiesSaid : Prop := eddsaVerifiesRow.holds Tryz.pinned (OpenSpec.ofChange eddsaVerifiesSpec)

/-- ITS FALSE NEIGHBOUR: 'it returns false'. Refute it at one input. -/
def eddsaVerifiesWrong : ChangeSpec := { name := "eddsaVerifies", fn := fun _ => fun
  | [d1, d2, d3] => { results := [.lit (.bool false)], args := [d1, d2, d3] }
  | _ => none }
def EddsaVerifiesWrongFalsely : Prop := eddsaVerifiesRow.holds Tryz.pinned (OpenSpec.ofChange eddsaVerifiesWrong)

/-- 'chicorylaw17.EddsaBack': WHATEVER THE INPUT: true; the input reads as it did. -/
def eddsaBackSpec : ChangeSpec := { name := "eddsaBack", fn := fun _ => fun
  | [d1, d2] => { results := [.lit (.bool true)], args := [d1, d2] }
  | _ => none }
def eddsaBackRow : OpenClaim := { program := "ytpnebmmjpapopaagreatdoor", sum := "aa0c7057184cc362e5a437556ecce548a31c922d6992581d1396bff738a8b5a5", func := "chicory/chicorylaw17.EddsaBack", spec := "eddsaBack", inPlace := ["math/bits.Add64", "math/bits.Sub64"], unfollowed := true, recurses := true, named := ["chicory/keccak.constants", "chicory/keccak.way", "chicory/keccak.offsets"], apart := false, laid := [("chicory/keccak.constants", laid_chicory_keccak_constants), ("chicory/keccak.offsets", laid_chicory_keccak_offsets), ("chicory/keccak.way", laid_chicory_keccak_way)] }
def EddsaBackSaid : Prop := eddsaBackRow.holds Tryz.pinned (OpenSpec.ofChange eddsaBackSpec)

/-- ITS FALSE NEIGHBOUR: 'it returns false'. Refute it at one input. -/
def eddsaBackWrong : ChangeSpec := { name := "eddsaBack", fn := fun _ => fun
  | [d1, d2] => { results := [.lit (.bool false)], args := [d1, d2] }
  | _ => none }
def EddsaBackWrongFalsely : Prop := eddsaBackRow.holds Tryz.pinned (OpenSpec.ofChange eddsaBackWrong)

/- THE SECOND FORM. 'bulk': how many values and letters a reading holds, each counted each time it is reached (what is shared counts as often as it is met; a slice's spare places count too). A statement '..UptoSaid' is the law's where the arguments, and the package variables that the reading takes, are together of bulk at most 1048576: NARROWER than '..Said'. Prove '..Said' where nothing that the law and all that it calls make is longer than what came in: it says more and counts as full. Else prove '..UptoSaid'. A law counts once. -/
mutual
def uptoBulk {H : Type} : DataW H → Nat
  | .lit (.string bytes) => bytes.length + 1
  | .lit _ => 1
  | .nil => 1
  | .ptr d => uptoBulk d + 1
  | .slice elems spare => uptoBulkAll elems + uptoBulkAll spare + 1
  | .agg parts => uptoBulkAll parts + 1
  | .iface _ d => uptoBulk d + 1
  | .map entries => uptoBulkEntries entries + 1
  | .held _ => 1
def uptoBulkAll {H : Type} : List (DataW H) → Nat
  | [] => 0
  | d :: r => uptoBulk d + uptoBulkAll r
def uptoBulkEntries {H : Type} : List (Lit × DataW H) → Nat
  | [] => 0
  | x :: r => uptoBulkEntry x + uptoBulkEntries r
def uptoBulkEntry {H : Type} : Lit × DataW H → Nat
  | (.string bytes, d) => bytes.length + uptoBulk d + 1
  | (_, d) => uptoBulk d + 1
 end
def uptoSmall : (H : Type) → List (DataW H) → Bool := fun _ ds => decide (uptoBulkAll ds ≤ 1048576)
def OpenSpec.upto (s : _root_.Go.ChangeSpec) : _root_.Go.OpenSpec := { _root_.Go.OpenSpec.ofChange s with cond := some uptoSmall }

/-- 'chicorylaw17.EddsaKeys', WHERE WHAT IT READS IS OF BULK AT MOST 1048576: true; the input reads as it did. -/
def eddsaKeysUptoRow : OpenClaim := { program := "ytpnebmmjpapopaagreatdoor", sum := "aa0c7057184cc362e5a437556ecce548a31c922d6992581d1396bff738a8b5a5", func := "chicory/chicorylaw17.EddsaKeys", spec := "eddsaKeys", inPlace := ["math/bits.Add64", "math/bits.Sub64"], unfollowed := true, recurses := true, named := ["chicory/keccak.constants", "chicory/keccak.way", "chicory/keccak.offsets"], apart := false, laid := [("chicory/keccak.constants", laid_chicory_keccak_constants), ("chicory/keccak.offsets", laid_chicory_keccak_offsets), ("chicory/keccak.way", laid_chicory_keccak_way)], narrowed := true }
def EddsaKeysUptoSaid : Prop := eddsaKeysUptoRow.holds Tryz.pinned (OpenSpec.upto eddsaKeysSpec)

/-- 'chicorylaw15.ElligatorParts', WHERE WHAT IT READS IS OF BULK AT MOST 1048576: true; the input reads as it did. -/
def elligatorPartsUptoRow : OpenClaim := { program := "ytpnebmmjpapopaagreatdoor", sum := "aa0c7057184cc362e5a437556ecce548a31c922d6992581d1396bff738a8b5a5", func := "chicory/chicorylaw15.ElligatorParts", spec := "elligatorParts", inPlace := ["math/bits.Add64", "math/bits.Sub64"], unfollowed := true, recurses := true, named := ["chicory/keccak.constants", "chicory/keccak.way", "chicory/keccak.offsets"], apart := false, laid := [("chicory/keccak.constants", laid_chicory_keccak_constants), ("chicory/keccak.offsets", laid_chicory_keccak_offsets), ("chicory/keccak.way", laid_chicory_keccak_way)], narrowed := true }
def ElligatorPartsUptoSaid : Prop := elligatorPartsUptoRow.holds Tryz.pinned (OpenSpec.upto elligatorPartsSpec)

/-- 'chicorylaw15.ElligatorSigns', WHERE WHAT IT READS IS OF BULK AT MOST 1048576: true; the input reads as it did. -/
def elligatorSignsUptoRow : OpenClaim := { program := "ytpnebmmjpapopaagreatdoor", sum := "aa0c7057184cc362e5a437556ecce548a31c922d6992581d1396bff738a8b5a5", func := "chicory/chicorylaw15.ElligatorSigns", spec := "elligatorSigns", inPlace := ["math/bits.Add64", "math/bits.Sub64"], unfollowed := true, recurses := true, named := ["chicory/keccak.constants", "chicory/keccak.way", "chicory/keccak.offsets"], apart := false, laid := [("chicory/keccak.constants", laid_chicory_keccak_constants), ("chicory/keccak.offsets", laid_chicory_keccak_offsets), ("chicory/keccak.way", laid_chicory_keccak_way)], narrowed := true }
def ElligatorSignsUptoSaid : Prop := elligatorSignsUptoRow.holds Tryz.pinned (OpenSpec.upto elligatorSignsSpec)

/-- 'chicorylaw15.ElligatorMaps', WHERE WHAT IT READS IS OF BULK AT MOST 1048576: true; the input reads as it did. -/
def elligatorMapsUptoRow : OpenClaim := { program := "ytpnebmmjpapopaagreatdoor", sum := "aa0c7057184cc362e5a437556ecce548a31c922d6992581d1396bff738a8b5a5", func := "chicory/chicorylaw15.ElligatorMaps", spec := "elligatorMaps", inPlace := ["math/bits.Add64", "math/bits.Sub64"], unfollowed := true, recurses := true, named := ["chicory/keccak.constants", "chicory/keccak.way", "chicory/keccak.offsets"], apart := false, laid := [("chicory/keccak.constants", laid_chicory_keccak_constants), ("chicory/keccak.offsets", laid_chicory_keccak_offsets), ("chicory/keccak.way", laid_chicory_keccak_way)], narrowed := true }
def ElligatorMapsUptoSaid : Prop := elligatorMapsUptoRow.holds Tryz.pinned (OpenSpec.upto elligatorMapsSpec)

/-- 'chicorylaw15.ElligatorHashes', WHERE WHAT IT READS IS OF BULK AT MOST 1048576: true; the input reads as it did. -/
def elligatorHashesUptoRow : OpenClaim := { program := "ytpnebmmjpapopaagreatdoor", sum := "aa0c7057184cc362e5a437556ecce548a31c922d6992581d1396bff738a8b5a5", func := "chicory/chicorylaw15.ElligatorHashes", spec := "elligatorHashes", inPlace := ["math/bits.Add64", "math/bits.Sub64"], unfollowed := true, recurses := true, named := ["chicory/keccak.constants", "chicory/keccak.way", "chicory/keccak.offsets"], apart := false, laid := [("chicory/keccak.constants", laid_chicory_keccak_constants), ("chicory/keccak.offsets", laid_chicory_keccak_offsets), ("chicory/keccak.way", laid_chicory_keccak_way)], narrowed := true }
def ElligatorHashesUptoSaid : Prop := elligatorHashesUptoRow.holds Tryz.pinned (OpenSpec.upto elligatorHashesSpec)

/-- 'chicorylaw15.ElligatorOf', WHERE WHAT IT READS IS OF BULK AT MOST 1048576: true; the input reads as it did. -/
def elligatorOfUptoRow : OpenClaim := { program := "ytpnebmmjpapopaagreatdoor", sum := "aa0c7057184cc362e5a437556ecce548a31c922d6992581d1396bff738a8b5a5", func := "chicory/chicorylaw15.ElligatorOf", spec := "elligatorOf", inPlace := ["math/bits.Add64", "math/bits.Sub64"], unfollowed := true, recurses := true, named := ["chicory/keccak.constants", "chicory/keccak.way", "chicory/keccak.offsets"], apart := false, laid := [("chicory/keccak.constants", laid_chicory_keccak_constants), ("chicory/keccak.offsets", laid_chicory_keccak_offsets), ("chicory/keccak.way", laid_chicory_keccak_way)], narrowed := true }
def ElligatorOfUptoSaid : Prop := elligatorOfUptoRow.holds Tryz.pinned (OpenSpec.upto elligatorOfSpec)

/-- 'chicorylaw17.EddsaSigns', WHERE WHAT IT READS IS OF BULK AT MOST 1048576: true; the input reads as it did. -/
def eddsaSignsUptoRow : OpenClaim := { program := "ytpnebmmjpapopaagreatdoor", sum := "aa0c7057184cc362e5a437556ecce548a31c922d6992581d1396bff738a8b5a5", func := "chicory/chicorylaw17.EddsaSigns", spec := "eddsaSigns", inPlace := ["math/bits.Add64", "math/bits.Sub64"], unfollowed := true, recurses := true, named := ["chicory/keccak.constants", "chicory/keccak.way", "chicory/keccak.offsets"], apart := false, laid := [("chicory/keccak.constants", laid_chicory_keccak_constants), ("chicory/keccak.offsets", laid_chicory_keccak_offsets), ("chicory/keccak.way", laid_chicory_keccak_way)], narrowed := true }
def EddsaSignsUptoSaid : Prop := eddsaSignsUptoRow.holds Tryz.pinned (OpenSpec.upto eddsaSignsSpec)

/-- 'chicorylaw17.EddsaNil', WHERE WHAT IT READS IS OF BULK AT MOST 1048576: true; the input reads as it did. -/
def eddsaNilUptoRow : OpenClaim := { program := "ytpnebmmjpapopaagreatdoor", sum := "aa0c7057184cc362e5a437556ecce548a31c922d6992581d1396bff738a8b5a5", func := "chicory/chicorylaw17.EddsaNil", spec := "eddsaNil", inPlace := ["math/bits.Sub64", "math/bits.Add64"], unfollowed := true, recurses := true, named := ["chicory/keccak.constants", "chicory/keccak.way", "chicory/keccak.offsets"], apart := false, laid := [("chicory/keccak.constants", laid_chicory_keccak_constants), ("chicory/keccak.offsets", laid_chicory_keccak_offsets), ("chicory/keccak.way", laid_chicory_keccak_way)], narrowed := true }
def EddsaNilUptoSaid : Prop := eddsaNilUptoRow.holds Tryz.pinned (OpenSpec.upto eddsaNilSpec)

/-- 'chicorylaw15.ElligatorGroup', WHERE WHAT IT READS IS OF BULK AT MOST 1048576: true; the input reads as it did. -/
def elligatorGroupUptoRow : OpenClaim := { program := "ytpnebmmjpapopaagreatdoor", sum := "aa0c7057184cc362e5a437556ecce548a31c922d6992581d1396bff738a8b5a5", func := "chicory/chicorylaw15.ElligatorGroup", spec := "elligatorGroup", inPlace := ["math/bits.Add64", "math/bits.Sub64"], unfollowed := true, recurses := true, named := ["chicory/keccak.constants", "chicory/keccak.way", "chicory/keccak.offsets"], apart := false, laid := [("chicory/keccak.constants", laid_chicory_keccak_constants), ("chicory/keccak.offsets", laid_chicory_keccak_offsets), ("chicory/keccak.way", laid_chicory_keccak_way)], narrowed := true }
def ElligatorGroupUptoSaid : Prop := elligatorGroupUptoRow.holds Tryz.pinned (OpenSpec.upto elligatorGroupSpec)

/-- 'chicorylaw17.EddsaVerifies', WHERE WHAT IT READS IS OF BULK AT MOST 1048576: true; the input reads as it did. -/
def eddsaVerifiesUptoRow : OpenClaim := { program := "ytpnebmmjpapopaagreatdoor", sum := "aa0c7057184cc362e5a437556ecce548a31c922d6992581d1396bff738a8b5a5", func := "chicory/chicorylaw17.EddsaVerifies", spec := "eddsaVerifies", inPlace := ["math/bits.Add64", "math/bits.Sub64"], unfollowed := true, recurses := true, named := ["chicory/keccak.constants", "chicory/keccak.way", "chicory/keccak.offsets"], apart := false, laid := [("chicory/keccak.constants", laid_chicory_keccak_constants), ("chicory/keccak.offsets", laid_chicory_keccak_offsets), ("chicory/keccak.way", laid_chicory_keccak_way)], narrowed := true }
def EddsaVerifiesUptoSaid : Prop := eddsaVerifiesUptoRow.holds Tryz.pinned (OpenSpec.upto eddsaVerifiesSpec)

/-- 'chicorylaw17.EddsaBack', WHERE WHAT IT READS IS OF BULK AT MOST 1048576: true; the input reads as it did. -/
def eddsaBackUptoRow : OpenClaim := { program := "ytpnebmmjpapopaagreatdoor", sum := "aa0c7057184cc362e5a437556ecce548a31c922d6992581d1396bff738a8b5a5", func := "chicory/chicorylaw17.EddsaBack", spec := "eddsaBack", inPlace := ["math/bits.Add64", "math/bits.Sub64"], unfollowed := true, recurses := true, named := ["chicory/keccak.constants", "chicory/keccak.way", "chicory/keccak.offsets"], apart := false, laid := [("chicory/keccak.constants", laid_chicory_keccak_constants), ("chicory/keccak.offsets", laid_chicory_keccak_offsets), ("chicory/keccak.way", laid_chicory_keccak_way)], narrowed := true }
def EddsaBackUptoSaid : Prop := eddsaBackUptoRow.holds Tryz.pinned (OpenSpec.upto eddsaBackSpec)

end Rows
end Go.Proofs.YtpnebmmjpapopaaGreatDoor
