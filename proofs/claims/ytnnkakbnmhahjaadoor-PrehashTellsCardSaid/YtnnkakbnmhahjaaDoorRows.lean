/-
  NARROWER THAN 'FOR EVERY INPUT', by the rows' own cells (each row's printed sentence says how): KeccakPermutes: laid · KeccakApart: laid · KeccakXors: laid · KeccakOwn: laid · KeccakBytes: laid · ShakeSums: laid · ShakePieces: laid · ShakeClones: laid · ShakePlays: laid · ShakeNil: laid · PrehashTells: laid.
  DERIVED. THE GIVEN ROWS OF THIS SEAT. 11 by the template 'for every input the law returns true; each argument reads behind the call as it read before'; 0 by the template 'total and deterministic' (their statements: YtnnkakbnmhahjaaDoorTotals.lean).
  GIVEN WITH THE SEED: the statements are not yours to turn. If you find one false, say at which input.
  Laid BY PROGRAM, IN A SANDBOX (cutbox-rows.mjs): the forced cells as the released guide's own fill.sh prints them over the translation a8f70be5b7a03b08… (all of the seat's roots in one cut). By AI agents, Wed Nov 11 2026. No macro, syntax, notation, axiom, sorry.
-/
import Derived.Test.YtnnkakbnmhahjaaDoorChecked
import GoSem.Claim
import GoSem.ClaimJoined
import GoSem.ClaimMapViews
import Derived.JoinedTies
import Derived.KernelRfl
namespace Go.Proofs.YtnnkakbnmhahjaaDoor
/- THE CELL 'sum', in the pinned program and in every row, IS THE sha256 OF THE DUMP (.gsa) THAT YtnnkakbnmhahjaaDoorProg.lean LOADS. Nothing in Lean hashes anything: it is a label: what it is worth is what the hold of that sum in a sandbox is worth. -/
noncomputable def Tryd.pinned : Pinned := { name := "ytnnkakbnmhahjaadoor", sum := "a8f70be5b7a03b08e8bf48d5421919e37da62db328fb8fc30043ccf50c33aa32", checked := Tryd.checked }
namespace Rows
def none {H : Type} : Left H := { results := [], args := [] }

/- WHAT THE LISTED PACKAGE-LEVEL VARIABLES READ AS WHEN THE CALL BEGINS. Each datum BY PROGRAM (the guide's laid-datum.mjs) off the statement by which the dump's own 'gosem.cut.vars' lays the variable. In a bare row this is a premise. The card (YtnnkakbnmhahjaaDoorCards.lean) ties it to the program's text. -/
def laid_chicory_keccak_constants {H : Type} : DataW H := .agg [.lit (.int .u64 1), .lit (.int .u64 32898), .lit (.int .u64 9223372036854808714), .lit (.int .u64 9223372039002292224), .lit (.int .u64 32907), .lit (.int .u64 2147483649), .lit (.int .u64 9223372039002292353), .lit (.int .u64 9223372036854808585), .lit (.int .u64 138), .lit (.int .u64 136), .lit (.int .u64 2147516425), .lit (.int .u64 2147483658), .lit (.int .u64 2147516555), .lit (.int .u64 9223372036854775947), .lit (.int .u64 9223372036854808713), .lit (.int .u64 9223372036854808579), .lit (.int .u64 9223372036854808578), .lit (.int .u64 9223372036854775936), .lit (.int .u64 32778), .lit (.int .u64 9223372039002259466), .lit (.int .u64 9223372039002292353), .lit (.int .u64 9223372036854808704), .lit (.int .u64 2147483649), .lit (.int .u64 9223372039002292232)]
def laid_chicory_keccak_offsets {H : Type} : DataW H := .agg [.lit (.int .i64 1), .lit (.int .i64 3), .lit (.int .i64 6), .lit (.int .i64 10), .lit (.int .i64 15), .lit (.int .i64 21), .lit (.int .i64 28), .lit (.int .i64 36), .lit (.int .i64 45), .lit (.int .i64 55), .lit (.int .i64 2), .lit (.int .i64 14), .lit (.int .i64 27), .lit (.int .i64 41), .lit (.int .i64 56), .lit (.int .i64 8), .lit (.int .i64 25), .lit (.int .i64 43), .lit (.int .i64 62), .lit (.int .i64 18), .lit (.int .i64 39), .lit (.int .i64 61), .lit (.int .i64 20), .lit (.int .i64 44)]
def laid_chicory_keccak_way {H : Type} : DataW H := .agg [.lit (.int .i64 10), .lit (.int .i64 7), .lit (.int .i64 11), .lit (.int .i64 17), .lit (.int .i64 18), .lit (.int .i64 3), .lit (.int .i64 5), .lit (.int .i64 16), .lit (.int .i64 8), .lit (.int .i64 21), .lit (.int .i64 24), .lit (.int .i64 4), .lit (.int .i64 15), .lit (.int .i64 23), .lit (.int .i64 19), .lit (.int .i64 13), .lit (.int .i64 12), .lit (.int .i64 2), .lit (.int .i64 20), .lit (.int .i64 14), .lit (.int .i64 22), .lit (.int .i64 9), .lit (.int .i64 6), .lit (.int .i64 1)]

/-- 'chicorylaw01.KeccakPermutes': WHATEVER THE INPUT: true; the input reads as it did. -/
def keccakPermutesSpec : ChangeSpec := { name := "keccakPermutes", fn := fun _ => fun
  | [d] => { results := [.lit (.bool true)], args := [d] }
  | _ => none }
def keccakPermutesRow : OpenClaim := { program := "ytnnkakbnmhahjaadoor", sum := "a8f70be5b7a03b08e8bf48d5421919e37da62db328fb8fc30043ccf50c33aa32", func := "chicory/chicorylaw01.KeccakPermutes", spec := "keccakPermutes", unfollowed := true, recurses := true, named := ["chicory/keccak.constants", "chicory/keccak.way", "chicory/keccak.offsets"], apart := false, laid := [("chicory/keccak.constants", laid_chicory_keccak_constants), ("chicory/keccak.offsets", laid_chicory_keccak_offsets), ("chicory/keccak.way", laid_chicory_keccak_way)] }
def KeccakPermutesSaid : Prop := keccakPermutesRow.holds Tryd.pinned (OpenSpec.ofChange keccakPermutesSpec)

/-- ITS FALSE NEIGHBOUR: 'it returns false'. Refute it at one input. -/
def keccakPermutesWrong : ChangeSpec := { name := "keccakPermutes", fn := fun _ => fun
  | [d] => { results := [.lit (.bool false)], args := [d] }
  | _ => none }
def KeccakPermutesWrongFalsely : Prop := keccakPermutesRow.holds Tryd.pinned (OpenSpec.ofChange keccakPermutesWrong)

/-- 'chicorylaw01.KeccakApart': WHATEVER THE INPUT: true; the input reads as it did. -/
def keccakApartSpec : ChangeSpec := { name := "keccakApart", fn := fun _ => fun
  | [d1, d2] => { results := [.lit (.bool true)], args := [d1, d2] }
  | _ => none }
def keccakApartRow : OpenClaim := { program := "ytnnkakbnmhahjaadoor", sum := "a8f70be5b7a03b08e8bf48d5421919e37da62db328fb8fc30043ccf50c33aa32", func := "chicory/chicorylaw01.KeccakApart", spec := "keccakApart", unfollowed := true, recurses := true, named := ["chicory/keccak.constants", "chicory/keccak.way", "chicory/keccak.offsets"], apart := false, laid := [("chicory/keccak.constants", laid_chicory_keccak_constants), ("chicory/keccak.offsets", laid_chicory_keccak_offsets), ("chicory/keccak.way", laid_chicory_keccak_way)] }
def KeccakApartSaid : Prop := keccakApartRow.holds Tryd.pinned (OpenSpec.ofChange keccakApartSpec)

/-- ITS FALSE NEIGHBOUR: 'it returns false'. Refute it at one input. -/
def keccakApartWrong : ChangeSpec := { name := "keccakApart", fn := fun _ => fun
  | [d1, d2] => { results := [.lit (.bool false)], args := [d1, d2] }
  | _ => none }
def KeccakApartWrongFalsely : Prop := keccakApartRow.holds Tryd.pinned (OpenSpec.ofChange keccakApartWrong)

/-- 'chicorylaw01.KeccakXors': WHATEVER THE INPUT: true; the input reads as it did. -/
def keccakXorsSpec : ChangeSpec := { name := "keccakXors", fn := fun _ => fun
  | [d1, d2] => { results := [.lit (.bool true)], args := [d1, d2] }
  | _ => none }
def keccakXorsRow : OpenClaim := { program := "ytnnkakbnmhahjaadoor", sum := "a8f70be5b7a03b08e8bf48d5421919e37da62db328fb8fc30043ccf50c33aa32", func := "chicory/chicorylaw01.KeccakXors", spec := "keccakXors", unfollowed := true, recurses := true, named := ["chicory/keccak.constants", "chicory/keccak.way", "chicory/keccak.offsets"], apart := false, laid := [("chicory/keccak.constants", laid_chicory_keccak_constants), ("chicory/keccak.offsets", laid_chicory_keccak_offsets), ("chicory/keccak.way", laid_chicory_keccak_way)] }
def KeccakXorsSaid : Prop := keccakXorsRow.holds Tryd.pinned (OpenSpec.ofChange keccakXorsSpec)

/-- ITS FALSE NEIGHBOUR: 'it returns false'. Refute it at one input. -/
def keccakXorsWrong : ChangeSpec := { name := "keccakXors", fn := fun _ => fun
  | [d1, d2] => { results := [.lit (.bool false)], args := [d1, d2] }
  | _ => none }
def KeccakXorsWrongFalsely : Prop := keccakXorsRow.holds Tryd.pinned (OpenSpec.ofChange keccakXorsWrong)

/-- 'chicorylaw01.KeccakOwn': WHATEVER THE INPUT: true; the input reads as it did. -/
def keccakOwnSpec : ChangeSpec := { name := "keccakOwn", fn := fun _ => fun
  | [d1, d2] => { results := [.lit (.bool true)], args := [d1, d2] }
  | _ => none }
def keccakOwnRow : OpenClaim := { program := "ytnnkakbnmhahjaadoor", sum := "a8f70be5b7a03b08e8bf48d5421919e37da62db328fb8fc30043ccf50c33aa32", func := "chicory/chicorylaw01.KeccakOwn", spec := "keccakOwn", unfollowed := true, recurses := true, named := ["chicory/keccak.constants", "chicory/keccak.way", "chicory/keccak.offsets"], apart := false, laid := [("chicory/keccak.constants", laid_chicory_keccak_constants), ("chicory/keccak.offsets", laid_chicory_keccak_offsets), ("chicory/keccak.way", laid_chicory_keccak_way)] }
def KeccakOwnSaid : Prop := keccakOwnRow.holds Tryd.pinned (OpenSpec.ofChange keccakOwnSpec)

/-- ITS FALSE NEIGHBOUR: 'it returns false'. Refute it at one input. -/
def keccakOwnWrong : ChangeSpec := { name := "keccakOwn", fn := fun _ => fun
  | [d1, d2] => { results := [.lit (.bool false)], args := [d1, d2] }
  | _ => none }
def KeccakOwnWrongFalsely : Prop := keccakOwnRow.holds Tryd.pinned (OpenSpec.ofChange keccakOwnWrong)

/-- 'chicorylaw01.KeccakBytes': WHATEVER THE INPUT: true; the input reads as it did. -/
def keccakBytesSpec : ChangeSpec := { name := "keccakBytes", fn := fun _ => fun
  | [d1, d2] => { results := [.lit (.bool true)], args := [d1, d2] }
  | _ => none }
def keccakBytesRow : OpenClaim := { program := "ytnnkakbnmhahjaadoor", sum := "a8f70be5b7a03b08e8bf48d5421919e37da62db328fb8fc30043ccf50c33aa32", func := "chicory/chicorylaw01.KeccakBytes", spec := "keccakBytes", unfollowed := true, recurses := true, named := ["chicory/keccak.constants", "chicory/keccak.way", "chicory/keccak.offsets"], apart := false, laid := [("chicory/keccak.constants", laid_chicory_keccak_constants), ("chicory/keccak.offsets", laid_chicory_keccak_offsets), ("chicory/keccak.way", laid_chicory_keccak_way)] }
def KeccakBytesSaid : Prop := keccakBytesRow.holds Tryd.pinned (OpenSpec.ofChange keccakBytesSpec)

/-- ITS FALSE NEIGHBOUR: 'it returns false'. Refute it at one input. -/
def keccakBytesWrong : ChangeSpec := { name := "keccakBytes", fn := fun _ => fun
  | [d1, d2] => { results := [.lit (.bool false)], args := [d1, d2] }
  | _ => none }
def KeccakBytesWrongFalsely : Prop := keccakBytesRow.holds Tryd.pinned (OpenSpec.ofChange keccakBytesWrong)

/-- 'chicorylaw02.ShakeSums': WHATEVER THE INPUT: true; the input reads as it did. -/
def shakeSumsSpec : ChangeSpec := { name := "shakeSums", fn := fun _ => fun
  | [d1, d2] => { results := [.lit (.bool true)], args := [d1, d2] }
  | _ => none }
def shakeSumsRow : OpenClaim := { program := "ytnnkakbnmhahjaadoor", sum := "a8f70be5b7a03b08e8bf48d5421919e37da62db328fb8fc30043ccf50c33aa32", func := "chicory/chicorylaw02.ShakeSums", spec := "shakeSums", unfollowed := true, recurses := true, named := ["chicory/keccak.constants", "chicory/keccak.way", "chicory/keccak.offsets"], apart := false, laid := [("chicory/keccak.constants", laid_chicory_keccak_constants), ("chicory/keccak.offsets", laid_chicory_keccak_offsets), ("chicory/keccak.way", laid_chicory_keccak_way)] }
def ShakeSumsSaid : Prop := shakeSumsRow.holds Tryd.pinned (OpenSpec.ofChange shakeSumsSpec)

/-- ITS FALSE NEIGHBOUR: 'it returns false'. Refute it at one input. -/
def shakeSumsWrong : ChangeSpec := { name := "shakeSums", fn := fun _ => fun
  | [d1, d2] => { results := [.lit (.bool false)], args := [d1, d2] }
  | _ => none }
def ShakeSumsWrongFalsely : Prop := shakeSumsRow.holds Tryd.pinned (OpenSpec.ofChange shakeSumsWrong)

/-- 'chicorylaw02.ShakePieces': WHATEVER THE INPUT: true; the input reads as it did. -/
def shakePiecesSpec : ChangeSpec := { name := "shakePieces", fn := fun _ => fun
  | [d1, d2] => { results := [.lit (.bool true)], args := [d1, d2] }
  | _ => none }
def shakePiecesRow : OpenClaim := { program := "ytnnkakbnmhahjaadoor", sum := "a8f70be5b7a03b08e8bf48d5421919e37da62db328fb8fc30043ccf50c33aa32", func := "chicory/chicorylaw02.ShakePieces", spec := "shakePieces", unfollowed := true, recurses := true, named := ["chicory/keccak.constants", "chicory/keccak.way", "chicory/keccak.offsets"], apart := false, laid := [("chicory/keccak.constants", laid_chicory_keccak_constants), ("chicory/keccak.offsets", laid_chicory_keccak_offsets), ("chicory/keccak.way", laid_chicory_keccak_way)] }
def ShakePiecesSaid : Prop := shakePiecesRow.holds Tryd.pinned (OpenSpec.ofChange shakePiecesSpec)

/-- ITS FALSE NEIGHBOUR: 'it returns false'. Refute it at one input. -/
def shakePiecesWrong : ChangeSpec := { name := "shakePieces", fn := fun _ => fun
  | [d1, d2] => { results := [.lit (.bool false)], args := [d1, d2] }
  | _ => none }
def ShakePiecesWrongFalsely : Prop := shakePiecesRow.holds Tryd.pinned (OpenSpec.ofChange shakePiecesWrong)

/-- 'chicorylaw02.ShakeClones': WHATEVER THE INPUT: true; the input reads as it did. -/
def shakeClonesSpec : ChangeSpec := { name := "shakeClones", fn := fun _ => fun
  | [d1, d2, d3] => { results := [.lit (.bool true)], args := [d1, d2, d3] }
  | _ => none }
def shakeClonesRow : OpenClaim := { program := "ytnnkakbnmhahjaadoor", sum := "a8f70be5b7a03b08e8bf48d5421919e37da62db328fb8fc30043ccf50c33aa32", func := "chicory/chicorylaw02.ShakeClones", spec := "shakeClones", unfollowed := true, recurses := true, named := ["chicory/keccak.constants", "chicory/keccak.way", "chicory/keccak.offsets"], apart := false, laid := [("chicory/keccak.constants", laid_chicory_keccak_constants), ("chicory/keccak.offsets", laid_chicory_keccak_offsets), ("chicory/keccak.way", laid_chicory_keccak_way)] }
def ShakeClonesSaid : Prop := shakeClonesRow.holds Tryd.pinned (OpenSpec.ofChange shakeClonesSpec)

/-- ITS FALSE NEIGHBOUR: 'it returns false'. Refute it at one input. -/
def shakeClonesWrong : ChangeSpec := { name := "shakeClones", fn := fun _ => fun
  | [d1, d2, d3] => { results := [.lit (.bool false)], args := [d1, d2, d3] }
  | _ => none }
def ShakeClonesWrongFalsely : Prop := shakeClonesRow.holds Tryd.pinned (OpenSpec.ofChange shakeClonesWrong)

/-- 'chicorylaw02.ShakePlays': WHATEVER THE INPUT: true; the input reads as it did. -/
def shakePlaysSpec : ChangeSpec := { name := "shakePlays", fn := fun _ => fun
  | [d] => { results := [.lit (.bool true)], args := [d] }
  | _ => none }
def shakePlaysRow : OpenClaim := { program := "ytnnkakbnmhahjaadoor", sum := "a8f70be5b7a03b08e8bf48d5421919e37da62db328fb8fc30043ccf50c33aa32", func := "chicory/chicorylaw02.ShakePlays", spec := "shakePlays", unfollowed := true, recurses := true, named := ["chicory/keccak.constants", "chicory/keccak.way", "chicory/keccak.offsets"], apart := false, laid := [("chicory/keccak.constants", laid_chicory_keccak_constants), ("chicory/keccak.offsets", laid_chicory_keccak_offsets), ("chicory/keccak.way", laid_chicory_keccak_way)] }
def ShakePlaysSaid : Prop := shakePlaysRow.holds Tryd.pinned (OpenSpec.ofChange shakePlaysSpec)

/-- ITS FALSE NEIGHBOUR: 'it returns false'. Refute it at one input. -/
def shakePlaysWrong : ChangeSpec := { name := "shakePlays", fn := fun _ => fun
  | [d] => { results := [.lit (.bool false)], args := [d] }
  | _ => none }
def ShakePlaysWrongFalsely : Prop := shakePlaysRow.holds Tryd.pinned (OpenSpec.ofChange shakePlaysWrong)

/-- 'chicorylaw02.ShakeNil': WHATEVER THE INPUT: true; the input reads as it did. -/
def shakeNilSpec : ChangeSpec := { name := "shakeNil", fn := fun _ => fun
  | [d1, d2] => { results := [.lit (.bool true)], args := [d1, d2] }
  | _ => none }
def shakeNilRow : OpenClaim := { program := "ytnnkakbnmhahjaadoor", sum := "a8f70be5b7a03b08e8bf48d5421919e37da62db328fb8fc30043ccf50c33aa32", func := "chicory/chicorylaw02.ShakeNil", spec := "shakeNil", unfollowed := true, recurses := true, named := ["chicory/keccak.constants", "chicory/keccak.way", "chicory/keccak.offsets"], apart := false, laid := [("chicory/keccak.constants", laid_chicory_keccak_constants), ("chicory/keccak.offsets", laid_chicory_keccak_offsets), ("chicory/keccak.way", laid_chicory_keccak_way)] }
def ShakeNilSaid : Prop := shakeNilRow.holds Tryd.pinned (OpenSpec.ofChange shakeNilSpec)

/-- ITS FALSE NEIGHBOUR: 'it returns false'. Refute it at one input. -/
def shakeNilWrong : ChangeSpec := { name := "shakeNil", fn := fun _ => fun
  | [d1, d2] => { results := [.lit (.bool false)], args := [d1, d2] }
  | _ => none }
def ShakeNilWrongFalsely : Prop := shakeNilRow.holds Tryd.pinned (OpenSpec.ofChange shakeNilWrong)

/-- 'chicorylaw18.PrehashTells': WHATEVER THE INPUT: true; the input reads as it did. -/
def prehashTellsSpec : ChangeSpec := { name := "prehashTells", fn := fun _ => fun
  | [d1, d2] => { results := [.lit (.bool true)], args := [d1, d2] }
  | _ => none }
def prehashTellsRow : OpenClaim := { program := "ytnnkakbnmhahjaadoor", sum := "a8f70be5b7a03b08e8bf48d5421919e37da62db328fb8fc30043ccf50c33aa32", func := "chicory/chicorylaw18.PrehashTells", spec := "prehashTells", unfollowed := true, recurses := true, named := ["chicory/keccak.constants", "chicory/keccak.way", "chicory/keccak.offsets"], apart := false, laid := [("chicory/keccak.constants", laid_chicory_keccak_constants), ("chicory/keccak.offsets", laid_chicory_keccak_offsets), ("chicory/keccak.way", laid_chicory_keccak_way)] }
def PrehashTellsSaid : Prop := prehashTellsRow.holds Tryd.pinned (OpenSpec.ofChange prehashTellsSpec)

/-- ITS FALSE NEIGHBOUR: 'it returns false'. Refute it at one input. -/
def prehashTellsWrong : ChangeSpec := { name := "prehashTells", fn := fun _ => fun
  | [d1, d2] => { results := [.lit (.bool false)], args := [d1, d2] }
  | _ => none }
def PrehashTellsWrongFalsely : Prop := prehashTellsRow.holds Tryd.pinned (OpenSpec.ofChange prehashTellsWrong)

/- THE SECOND FORM. 'bulk': how many values and letters a reading holds, each counted each time it is reached (what is shared counts as often as it is met; a slice's spare places count too). A statement '..UptoSaid' is the law's where the arguments, and the package variables that the reading takes, are together of bulk at most 1048576: NARROWER than '..Said'. Prove '..Said' where nothing that the law and all that it calls make is longer than what came in: it says more and counts as full. Else prove '..UptoSaid'. A law counts once. -/
mutual
def uptoBulk {H : Type} : DataW H → Nat
  | .lit (.string bytes) => bytes.length + 1
  | .lit _ => 1
  | .nil => 1
  | .ptr d => uptoBulk d + 1
  | .slice elems spare => uptoBulkAll elems + uptoBulkAll spare + 1
  | .agg parts => uptoBulkAll parts + 1
  | .iface _ d => uptoBulk d + 1
  | .map entries => uptoBulkEntries entries + 1
  | .held _ => 1
def uptoBulkAll {H : Type} : List (DataW H) → Nat
  | [] => 0
  | d :: r => uptoBulk d + uptoBulkAll r
def uptoBulkEntries {H : Type} : List (Lit × DataW H) → Nat
  | [] => 0
  | x :: r => uptoBulkEntry x + uptoBulkEntries r
def uptoBulkEntry {H : Type} : Lit × DataW H → Nat
  | (.string bytes, d) => bytes.length + uptoBulk d + 1
  | (_, d) => uptoBulk d + 1
 end
def uptoSmall : (H : Type) → List (DataW H) → Bool := fun _ ds => decide (uptoBulkAll ds ≤ 1048576)
def OpenSpec.upto (s : _root_.Go.ChangeSpec) : _root_.Go.OpenSpec := { _root_.Go.OpenSpec.ofChange s with cond := some uptoSmall }

/-- 'chicorylaw01.KeccakPermutes', WHERE WHAT IT READS IS OF BULK AT MOST 1048576: true; the input reads as it did. -/
def keccakPermutesUptoRow : OpenClaim := { program := "ytnnkakbnmhahjaadoor", sum := "a8f70be5b7a03b08e8bf48d5421919e37da62db328fb8fc30043ccf50c33aa32", func := "chicory/chicorylaw01.KeccakPermutes", spec := "keccakPermutes", unfollowed := true, recurses := true, named := ["chicory/keccak.constants", "chicory/keccak.way", "chicory/keccak.offsets"], apart := false, laid := [("chicory/keccak.constants", laid_chicory_keccak_constants), ("chicory/keccak.offsets", laid_chicory_keccak_offsets), ("chicory/keccak.way", laid_chicory_keccak_way)], narrowed := true }
def KeccakPermutesUptoSaid : Prop := keccakPermutesUptoRow.holds Tryd.pinned (OpenSpec.upto keccakPermutesSpec)

/-- 'chicorylaw01.KeccakApart', WHERE WHAT IT READS IS OF BULK AT MOST 1048576: true; the input reads as it did. -/
def keccakApartUptoRow : OpenClaim := { program := "ytnnkakbnmhahjaadoor", sum := "a8f70be5b7a03b08e8bf48d5421919e37da62db328fb8fc30043ccf50c33aa32", func := "chicory/chicorylaw01.KeccakApart", spec := "keccakApart", unfollowed := true, recurses := true, named := ["chicory/keccak.constants", "chicory/keccak.way", "chicory/keccak.offsets"], apart := false, laid := [("chicory/keccak.constants", laid_chicory_keccak_constants), ("chicory/keccak.offsets", laid_chicory_keccak_offsets), ("chicory/keccak.way", laid_chicory_keccak_way)], narrowed := true }
def KeccakApartUptoSaid : Prop := keccakApartUptoRow.holds Tryd.pinned (OpenSpec.upto keccakApartSpec)

/-- 'chicorylaw01.KeccakXors', WHERE WHAT IT READS IS OF BULK AT MOST 1048576: true; the input reads as it did. -/
def keccakXorsUptoRow : OpenClaim := { program := "ytnnkakbnmhahjaadoor", sum := "a8f70be5b7a03b08e8bf48d5421919e37da62db328fb8fc30043ccf50c33aa32", func := "chicory/chicorylaw01.KeccakXors", spec := "keccakXors", unfollowed := true, recurses := true, named := ["chicory/keccak.constants", "chicory/keccak.way", "chicory/keccak.offsets"], apart := false, laid := [("chicory/keccak.constants", laid_chicory_keccak_constants), ("chicory/keccak.offsets", laid_chicory_keccak_offsets), ("chicory/keccak.way", laid_chicory_keccak_way)], narrowed := true }
def KeccakXorsUptoSaid : Prop := keccakXorsUptoRow.holds Tryd.pinned (OpenSpec.upto keccakXorsSpec)

/-- 'chicorylaw01.KeccakOwn', WHERE WHAT IT READS IS OF BULK AT MOST 1048576: true; the input reads as it did. -/
def keccakOwnUptoRow : OpenClaim := { program := "ytnnkakbnmhahjaadoor", sum := "a8f70be5b7a03b08e8bf48d5421919e37da62db328fb8fc30043ccf50c33aa32", func := "chicory/chicorylaw01.KeccakOwn", spec := "keccakOwn", unfollowed := true, recurses := true, named := ["chicory/keccak.constants", "chicory/keccak.way", "chicory/keccak.offsets"], apart := false, laid := [("chicory/keccak.constants", laid_chicory_keccak_constants), ("chicory/keccak.offsets", laid_chicory_keccak_offsets), ("chicory/keccak.way", laid_chicory_keccak_way)], narrowed := true }
def KeccakOwnUptoSaid : Prop := keccakOwnUptoRow.holds Tryd.pinned (OpenSpec.upto keccakOwnSpec)

/-- 'chicorylaw01.KeccakBytes', WHERE WHAT IT READS IS OF BULK AT MOST 1048576: true; the input reads as it did. -/
def keccakBytesUptoRow : OpenClaim := { program := "ytnnkakbnmhahjaadoor", sum := "a8f70be5b7a03b08e8bf48d5421919e37da62db328fb8fc30043ccf50c33aa32", func := "chicory/chicorylaw01.KeccakBytes", spec := "keccakBytes", unfollowed := true, recurses := true, named := ["chicory/keccak.constants", "chicory/keccak.way", "chicory/keccak.offsets"], apart := false, laid := [("chicory/keccak.constants", laid_chicory_keccak_constants), ("chicory/keccak.offsets", laid_chicory_keccak_offsets), ("chicory/keccak.way", laid_chicory_keccak_way)], narrowed := true }
def KeccakBytesUptoSaid : Prop := keccakBytesUptoRow.holds Tryd.pinned (OpenSpec.upto keccakBytesSpec)

/-- 'chicorylaw02.ShakeSums', WHERE WHAT IT READS IS OF BULK AT MOST 1048576: true; the input reads as it did. -/
def shakeSumsUptoRow : OpenClaim := { program := "ytnnkakbnmhahjaadoor", sum := "a8f70be5b7a03b08e8bf48d5421919e37da62db328fb8fc30043ccf50c33aa32", func := "chicory/chicorylaw02.ShakeSums", spec := "shakeSums", unfollowed := true, recurses := true, named := ["chicory/keccak.constants", "chicory/keccak.way", "chicory/keccak.offsets"], apart := false, laid := [("chicory/keccak.constants", laid_chicory_keccak_constants), ("chicory/keccak.offsets", laid_chicory_keccak_offsets), ("chicory/keccak.way", laid_chicory_keccak_way)], narrowed := true }
def ShakeSumsUptoSaid : Prop := shakeSumsUptoRow.holds Tryd.pinned (OpenSpec.upto shakeSumsSpec)

/-- 'chicorylaw02.ShakePieces', WHERE WHAT IT READS IS OF BULK AT MOST 1048576: true; the input reads as it did. -/
def shakePiecesUptoRow : OpenClaim := { program := "ytnnkakbnmhahjaadoor", sum := "a8f70be5b7a03b08e8bf48d5421919e37da62db328fb8fc30043ccf50c33aa32", func := "chicory/chicorylaw02.ShakePieces", spec := "shakePieces", unfollowed := true, recurses := true, named := ["chicory/keccak.constants", "chicory/keccak.way", "chicory/keccak.offsets"], apart := false, laid := [("chicory/keccak.constants", laid_chicory_keccak_constants), ("chicory/keccak.offsets", laid_chicory_keccak_offsets), ("chicory/keccak.way", laid_chicory_keccak_way)], narrowed := true }
def ShakePiecesUptoSaid : Prop := shakePiecesUptoRow.holds Tryd.pinned (OpenSpec.upto shakePiecesSpec)

/-- 'chicorylaw02.ShakeClones', WHERE WHAT IT READS IS OF BULK AT MOST 1048576: true; the input reads as it did. -/
def shakeClonesUptoRow : OpenClaim := { program := "ytnnkakbnmhahjaadoor", sum := "a8f70be5b7a03b08e8bf48d5421919e37da62db328fb8fc30043ccf50c33aa32", func := "chicory/chicorylaw02.ShakeClones", spec := "shakeClones", unfollowed := true, recurses := true, named := ["chicory/keccak.constants", "chicory/keccak.way", "chicory/keccak.offsets"], apart := false, laid := [("chicory/keccak.constants", laid_chicory_keccak_constants), ("chicory/keccak.offsets", laid_chicory_keccak_offsets), ("chicory/keccak.way", laid_chicory_keccak_way)], narrowed := true }
def ShakeClonesUptoSaid : Prop := shakeClonesUptoRow.holds Tryd.pinned (OpenSpec.upto shakeClonesSpec)

/-- 'chicorylaw02.ShakePlays', WHERE WHAT IT READS IS OF BULK AT MOST 1048576: true; the input reads as it did. -/
def shakePlaysUptoRow : OpenClaim := { program := "ytnnkakbnmhahjaadoor", sum := "a8f70be5b7a03b08e8bf48d5421919e37da62db328fb8fc30043ccf50c33aa32", func := "chicory/chicorylaw02.ShakePlays", spec := "shakePlays", unfollowed := true, recurses := true, named := ["chicory/keccak.constants", "chicory/keccak.way", "chicory/keccak.offsets"], apart := false, laid := [("chicory/keccak.constants", laid_chicory_keccak_constants), ("chicory/keccak.offsets", laid_chicory_keccak_offsets), ("chicory/keccak.way", laid_chicory_keccak_way)], narrowed := true }
def ShakePlaysUptoSaid : Prop := shakePlaysUptoRow.holds Tryd.pinned (OpenSpec.upto shakePlaysSpec)

/-- 'chicorylaw02.ShakeNil', WHERE WHAT IT READS IS OF BULK AT MOST 1048576: true; the input reads as it did. -/
def shakeNilUptoRow : OpenClaim := { program := "ytnnkakbnmhahjaadoor", sum := "a8f70be5b7a03b08e8bf48d5421919e37da62db328fb8fc30043ccf50c33aa32", func := "chicory/chicorylaw02.ShakeNil", spec := "shakeNil", unfollowed := true, recurses := true, named := ["chicory/keccak.constants", "chicory/keccak.way", "chicory/keccak.offsets"], apart := false, laid := [("chicory/keccak.constants", laid_chicory_keccak_constants), ("chicory/keccak.offsets", laid_chicory_keccak_offsets), ("chicory/keccak.way", laid_chicory_keccak_way)], narrowed := true }
def ShakeNilUptoSaid : Prop := shakeNilUptoRow.holds Tryd.pinned (OpenSpec.upto shakeNilSpec)

/-- 'chicorylaw18.PrehashTells', WHERE WHAT IT READS IS OF BULK AT MOST 1048576: true; the input reads as it did. -/
def prehashTellsUptoRow : OpenClaim := { program := "ytnnkakbnmhahjaadoor", sum := "a8f70be5b7a03b08e8bf48d5421919e37da62db328fb8fc30043ccf50c33aa32", func := "chicory/chicorylaw18.PrehashTells", spec := "prehashTells", unfollowed := true, recurses := true, named := ["chicory/keccak.constants", "chicory/keccak.way", "chicory/keccak.offsets"], apart := false, laid := [("chicory/keccak.constants", laid_chicory_keccak_constants), ("chicory/keccak.offsets", laid_chicory_keccak_offsets), ("chicory/keccak.way", laid_chicory_keccak_way)], narrowed := true }
def PrehashTellsUptoSaid : Prop := prehashTellsUptoRow.holds Tryd.pinned (OpenSpec.upto prehashTellsSpec)

end Rows
end Go.Proofs.YtnnkakbnmhahjaaDoor
