/-
  DERIVED. GIVEN WITH THE SEED: THE CARDS: each row of YtnnkakbnmhahjaaDoorRows.lean that lists a variable, with what it lists TIED to the program's text (the seventh form; the later family's looks); each row that meets fmt, with fmt's text TOLD by the authors' own Lean function (tested against real Go, not proved from fmt's source: count such statements apart). THE CARD IS WHAT COUNTS. Prove the row's statement (the work); the ties are given (YtnnkakbnmhahjaaDoorTie.lean); close each card by the builder's one call (the guide's Derived/Test/ToyasCard.lean, 'card_holds'). Laid BY PROGRAM, IN A SANDBOX (cutbox-door.mjs). By AI agents, Wed Nov 11 2026. No macro, syntax, notation, axiom, sorry.
-/
import Derived.Test.YtnnkakbnmhahjaaDoorRows
import GoSem.ClaimSeven
namespace Go.Proofs.YtnnkakbnmhahjaaDoor
namespace Rows

/-- THE TIED CARD OF 'chicorylaw01.KeccakPermutes'. -/
def keccakPermutesCard : Claim7 := { stood := { row := keccakPermutesRow, standIns := [], harness := (true, "ca899cdbaabc7d4dd568785e8527461704fd96cc9ff9d84a5075bf6d85bd931f"), looks := false }, kinds := [], alts := [], laidByText := true, laidKinds := [.data, .data, .data], laidTests := true, laidLooks := .later }
def KeccakPermutesCardSaid : Prop := Claim7.holds Tryd.pinned (.plain (OpenSpec.ofChange keccakPermutesSpec)) keccakPermutesCard

/-- THE TIED CARD OF 'chicorylaw01.KeccakApart'. -/
def keccakApartCard : Claim7 := { stood := { row := keccakApartRow, standIns := [], harness := (true, "ca899cdbaabc7d4dd568785e8527461704fd96cc9ff9d84a5075bf6d85bd931f"), looks := false }, kinds := [], alts := [], laidByText := true, laidKinds := [.data, .data, .data], laidTests := true, laidLooks := .later }
def KeccakApartCardSaid : Prop := Claim7.holds Tryd.pinned (.plain (OpenSpec.ofChange keccakApartSpec)) keccakApartCard

/-- THE TIED CARD OF 'chicorylaw01.KeccakXors'. -/
def keccakXorsCard : Claim7 := { stood := { row := keccakXorsRow, standIns := [], harness := (true, "ca899cdbaabc7d4dd568785e8527461704fd96cc9ff9d84a5075bf6d85bd931f"), looks := false }, kinds := [], alts := [], laidByText := true, laidKinds := [.data, .data, .data], laidTests := true, laidLooks := .later }
def KeccakXorsCardSaid : Prop := Claim7.holds Tryd.pinned (.plain (OpenSpec.ofChange keccakXorsSpec)) keccakXorsCard

/-- THE TIED CARD OF 'chicorylaw01.KeccakOwn'. -/
def keccakOwnCard : Claim7 := { stood := { row := keccakOwnRow, standIns := [], harness := (true, "ca899cdbaabc7d4dd568785e8527461704fd96cc9ff9d84a5075bf6d85bd931f"), looks := false }, kinds := [], alts := [], laidByText := true, laidKinds := [.data, .data, .data], laidTests := true, laidLooks := .later }
def KeccakOwnCardSaid : Prop := Claim7.holds Tryd.pinned (.plain (OpenSpec.ofChange keccakOwnSpec)) keccakOwnCard

/-- THE TIED CARD OF 'chicorylaw01.KeccakBytes'. -/
def keccakBytesCard : Claim7 := { stood := { row := keccakBytesRow, standIns := [], harness := (true, "ca899cdbaabc7d4dd568785e8527461704fd96cc9ff9d84a5075bf6d85bd931f"), looks := false }, kinds := [], alts := [], laidByText := true, laidKinds := [.data, .data, .data], laidTests := true, laidLooks := .later }
def KeccakBytesCardSaid : Prop := Claim7.holds Tryd.pinned (.plain (OpenSpec.ofChange keccakBytesSpec)) keccakBytesCard

/-- THE TIED CARD OF 'chicorylaw02.ShakeSums'. -/
def shakeSumsCard : Claim7 := { stood := { row := shakeSumsRow, standIns := [], harness := (true, "ca899cdbaabc7d4dd568785e8527461704fd96cc9ff9d84a5075bf6d85bd931f"), looks := false }, kinds := [], alts := [], laidByText := true, laidKinds := [.data, .data, .data], laidTests := true, laidLooks := .later }
def ShakeSumsCardSaid : Prop := Claim7.holds Tryd.pinned (.plain (OpenSpec.ofChange shakeSumsSpec)) shakeSumsCard

/-- THE TIED CARD OF 'chicorylaw02.ShakePieces'. -/
def shakePiecesCard : Claim7 := { stood := { row := shakePiecesRow, standIns := [], harness := (true, "ca899cdbaabc7d4dd568785e8527461704fd96cc9ff9d84a5075bf6d85bd931f"), looks := false }, kinds := [], alts := [], laidByText := true, laidKinds := [.data, .data, .data], laidTests := true, laidLooks := .later }
def ShakePiecesCardSaid : Prop := Claim7.holds Tryd.pinned (.plain (OpenSpec.ofChange shakePiecesSpec)) shakePiecesCard

/-- THE TIED CARD OF 'chicorylaw02.ShakeClones'. -/
def shakeClonesCard : Claim7 := { stood := { row := shakeClonesRow, standIns := [], harness := (true, "ca899cdbaabc7d4dd568785e8527461704fd96cc9ff9d84a5075bf6d85bd931f"), looks := false }, kinds := [], alts := [], laidByText := true, laidKinds := [.data, .data, .data], laidTests := true, laidLooks := .later }
def ShakeClonesCardSaid : Prop := Claim7.holds Tryd.pinned (.plain (OpenSpec.ofChange shakeClonesSpec)) shakeClonesCard

/-- THE TIED CARD OF 'chicorylaw02.ShakePlays'. -/
def shakePlaysCard : Claim7 := { stood := { row := shakePlaysRow, standIns := [], harness := (true, "ca899cdbaabc7d4dd568785e8527461704fd96cc9ff9d84a5075bf6d85bd931f"), looks := false }, kinds := [], alts := [], laidByText := true, laidKinds := [.data, .data, .data], laidTests := true, laidLooks := .later }
def ShakePlaysCardSaid : Prop := Claim7.holds Tryd.pinned (.plain (OpenSpec.ofChange shakePlaysSpec)) shakePlaysCard

/-- THE TIED CARD OF 'chicorylaw02.ShakeNil'. -/
def shakeNilCard : Claim7 := { stood := { row := shakeNilRow, standIns := [], harness := (true, "ca899cdbaabc7d4dd568785e8527461704fd96cc9ff9d84a5075bf6d85bd931f"), looks := false }, kinds := [], alts := [], laidByText := true, laidKinds := [.data, .data, .data], laidTests := true, laidLooks := .later }
def ShakeNilCardSaid : Prop := Claim7.holds Tryd.pinned (.plain (OpenSpec.ofChange shakeNilSpec)) shakeNilCard

/-- THE TIED CARD OF 'chicorylaw18.PrehashTells'. -/
def prehashTellsCard : Claim7 := { stood := { row := prehashTellsRow, standIns := [], harness := (true, "ca899cdbaabc7d4dd568785e8527461704fd96cc9ff9d84a5075bf6d85bd931f"), looks := false }, kinds := [], alts := [], laidByText := true, laidKinds := [.data, .data, .data], laidTests := true, laidLooks := .later }
def PrehashTellsCardSaid : Prop := Claim7.holds Tryd.pinned (.plain (OpenSpec.ofChange prehashTellsSpec)) prehashTellsCard

/-- THE SECOND FORM's CARD OF 'chicorylaw01.KeccakPermutes'. -/
def keccakPermutesUptoCard : Claim7 := { stood := { row := keccakPermutesUptoRow, standIns := [], harness := (true, "ca899cdbaabc7d4dd568785e8527461704fd96cc9ff9d84a5075bf6d85bd931f"), looks := false }, kinds := [], alts := [], laidByText := true, laidKinds := [.data, .data, .data], laidTests := true, laidLooks := .later }
def KeccakPermutesUptoCardSaid : Prop := Claim7.holds Tryd.pinned (.plain (OpenSpec.upto keccakPermutesSpec)) keccakPermutesUptoCard

/-- THE SECOND FORM's CARD OF 'chicorylaw01.KeccakApart'. -/
def keccakApartUptoCard : Claim7 := { stood := { row := keccakApartUptoRow, standIns := [], harness := (true, "ca899cdbaabc7d4dd568785e8527461704fd96cc9ff9d84a5075bf6d85bd931f"), looks := false }, kinds := [], alts := [], laidByText := true, laidKinds := [.data, .data, .data], laidTests := true, laidLooks := .later }
def KeccakApartUptoCardSaid : Prop := Claim7.holds Tryd.pinned (.plain (OpenSpec.upto keccakApartSpec)) keccakApartUptoCard

/-- THE SECOND FORM's CARD OF 'chicorylaw01.KeccakXors'. -/
def keccakXorsUptoCard : Claim7 := { stood := { row := keccakXorsUptoRow, standIns := [], harness := (true, "ca899cdbaabc7d4dd568785e8527461704fd96cc9ff9d84a5075bf6d85bd931f"), looks := false }, kinds := [], alts := [], laidByText := true, laidKinds := [.data, .data, .data], laidTests := true, laidLooks := .later }
def KeccakXorsUptoCardSaid : Prop := Claim7.holds Tryd.pinned (.plain (OpenSpec.upto keccakXorsSpec)) keccakXorsUptoCard

/-- THE SECOND FORM's CARD OF 'chicorylaw01.KeccakOwn'. -/
def keccakOwnUptoCard : Claim7 := { stood := { row := keccakOwnUptoRow, standIns := [], harness := (true, "ca899cdbaabc7d4dd568785e8527461704fd96cc9ff9d84a5075bf6d85bd931f"), looks := false }, kinds := [], alts := [], laidByText := true, laidKinds := [.data, .data, .data], laidTests := true, laidLooks := .later }
def KeccakOwnUptoCardSaid : Prop := Claim7.holds Tryd.pinned (.plain (OpenSpec.upto keccakOwnSpec)) keccakOwnUptoCard

/-- THE SECOND FORM's CARD OF 'chicorylaw01.KeccakBytes'. -/
def keccakBytesUptoCard : Claim7 := { stood := { row := keccakBytesUptoRow, standIns := [], harness := (true, "ca899cdbaabc7d4dd568785e8527461704fd96cc9ff9d84a5075bf6d85bd931f"), looks := false }, kinds := [], alts := [], laidByText := true, laidKinds := [.data, .data, .data], laidTests := true, laidLooks := .later }
def KeccakBytesUptoCardSaid : Prop := Claim7.holds Tryd.pinned (.plain (OpenSpec.upto keccakBytesSpec)) keccakBytesUptoCard

/-- THE SECOND FORM's CARD OF 'chicorylaw02.ShakeSums'. -/
def shakeSumsUptoCard : Claim7 := { stood := { row := shakeSumsUptoRow, standIns := [], harness := (true, "ca899cdbaabc7d4dd568785e8527461704fd96cc9ff9d84a5075bf6d85bd931f"), looks := false }, kinds := [], alts := [], laidByText := true, laidKinds := [.data, .data, .data], laidTests := true, laidLooks := .later }
def ShakeSumsUptoCardSaid : Prop := Claim7.holds Tryd.pinned (.plain (OpenSpec.upto shakeSumsSpec)) shakeSumsUptoCard

/-- THE SECOND FORM's CARD OF 'chicorylaw02.ShakePieces'. -/
def shakePiecesUptoCard : Claim7 := { stood := { row := shakePiecesUptoRow, standIns := [], harness := (true, "ca899cdbaabc7d4dd568785e8527461704fd96cc9ff9d84a5075bf6d85bd931f"), looks := false }, kinds := [], alts := [], laidByText := true, laidKinds := [.data, .data, .data], laidTests := true, laidLooks := .later }
def ShakePiecesUptoCardSaid : Prop := Claim7.holds Tryd.pinned (.plain (OpenSpec.upto shakePiecesSpec)) shakePiecesUptoCard

/-- THE SECOND FORM's CARD OF 'chicorylaw02.ShakeClones'. -/
def shakeClonesUptoCard : Claim7 := { stood := { row := shakeClonesUptoRow, standIns := [], harness := (true, "ca899cdbaabc7d4dd568785e8527461704fd96cc9ff9d84a5075bf6d85bd931f"), looks := false }, kinds := [], alts := [], laidByText := true, laidKinds := [.data, .data, .data], laidTests := true, laidLooks := .later }
def ShakeClonesUptoCardSaid : Prop := Claim7.holds Tryd.pinned (.plain (OpenSpec.upto shakeClonesSpec)) shakeClonesUptoCard

/-- THE SECOND FORM's CARD OF 'chicorylaw02.ShakePlays'. -/
def shakePlaysUptoCard : Claim7 := { stood := { row := shakePlaysUptoRow, standIns := [], harness := (true, "ca899cdbaabc7d4dd568785e8527461704fd96cc9ff9d84a5075bf6d85bd931f"), looks := false }, kinds := [], alts := [], laidByText := true, laidKinds := [.data, .data, .data], laidTests := true, laidLooks := .later }
def ShakePlaysUptoCardSaid : Prop := Claim7.holds Tryd.pinned (.plain (OpenSpec.upto shakePlaysSpec)) shakePlaysUptoCard

/-- THE SECOND FORM's CARD OF 'chicorylaw02.ShakeNil'. -/
def shakeNilUptoCard : Claim7 := { stood := { row := shakeNilUptoRow, standIns := [], harness := (true, "ca899cdbaabc7d4dd568785e8527461704fd96cc9ff9d84a5075bf6d85bd931f"), looks := false }, kinds := [], alts := [], laidByText := true, laidKinds := [.data, .data, .data], laidTests := true, laidLooks := .later }
def ShakeNilUptoCardSaid : Prop := Claim7.holds Tryd.pinned (.plain (OpenSpec.upto shakeNilSpec)) shakeNilUptoCard

/-- THE SECOND FORM's CARD OF 'chicorylaw18.PrehashTells'. -/
def prehashTellsUptoCard : Claim7 := { stood := { row := prehashTellsUptoRow, standIns := [], harness := (true, "ca899cdbaabc7d4dd568785e8527461704fd96cc9ff9d84a5075bf6d85bd931f"), looks := false }, kinds := [], alts := [], laidByText := true, laidKinds := [.data, .data, .data], laidTests := true, laidLooks := .later }
def PrehashTellsUptoCardSaid : Prop := Claim7.holds Tryd.pinned (.plain (OpenSpec.upto prehashTellsSpec)) prehashTellsUptoCard
end Rows
end Go.Proofs.YtnnkakbnmhahjaaDoor
