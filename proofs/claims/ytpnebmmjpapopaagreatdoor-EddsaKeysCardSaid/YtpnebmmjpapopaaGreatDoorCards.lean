/-
  DERIVED. GIVEN WITH THE SEED: THE CARDS: each row of YtpnebmmjpapopaaGreatDoorRows.lean that lists a variable, with what it lists TIED to the program's text (the seventh form; the later family's looks); each row that meets fmt, with fmt's text TOLD by the authors' own Lean function (tested against real Go, not proved from fmt's source: count such statements apart). THE CARD IS WHAT COUNTS. Prove the row's statement (the work); the ties are given (YtpnebmmjpapopaaGreatDoorTie.lean); close each card by the builder's one call (the guide's Derived/Test/ToyasCard.lean, 'card_holds'). Laid BY PROGRAM, IN A SANDBOX (cutbox-door.mjs). By AI agents, Wed Nov 11 2026. No macro, syntax, notation, axiom, sorry.
-/
import Derived.Test.YtpnebmmjpapopaaGreatDoorRows
import GoSem.ClaimSeven
namespace Go.Proofs.YtpnebmmjpapopaaGreatDoor
namespace Rows

/-- THE TIED CARD OF 'chicorylaw17.EddsaKeys'. -/
def eddsaKeysCard : Claim7 := { stood := { row := eddsaKeysRow, standIns := [], harness := (true, "5628de2fb8b8dcba033e90645266faef28d2a34fac860459034db2e456eb9149"), looks := false }, kinds := [], alts := [], laidByText := true, laidKinds := [.data, .data, .data], laidTests := true, laidLooks := .later }
def EddsaKeysCardSaid : Prop := Claim7.holds Tryz.pinned (.plain (OpenSpec.ofChange eddsaKeysSpec)) eddsaKeysCard

/-- THE TIED CARD OF 'chicorylaw15.ElligatorParts'. -/
def elligatorPartsCard : Claim7 := { stood := { row := elligatorPartsRow, standIns := [], harness := (true, "5628de2fb8b8dcba033e90645266faef28d2a34fac860459034db2e456eb9149"), looks := false }, kinds := [], alts := [], laidByText := true, laidKinds := [.data, .data, .data], laidTests := true, laidLooks := .later }
def ElligatorPartsCardSaid : Prop := Claim7.holds Tryz.pinned (.plain (OpenSpec.ofChange elligatorPartsSpec)) elligatorPartsCard

/-- THE TIED CARD OF 'chicorylaw15.ElligatorSigns'. -/
def elligatorSignsCard : Claim7 := { stood := { row := elligatorSignsRow, standIns := [], harness := (true, "5628de2fb8b8dcba033e90645266faef28d2a34fac860459034db2e456eb9149"), looks := false }, kinds := [], alts := [], laidByText := true, laidKinds := [.data, .data, .data], laidTests := true, laidLooks := .later }
def ElligatorSignsCardSaid : Prop := Claim7.holds Tryz.pinned (.plain (OpenSpec.ofChange elligatorSignsSpec)) elligatorSignsCard

/-- THE TIED CARD OF 'chicorylaw15.ElligatorMaps'. -/
def elligatorMapsCard : Claim7 := { stood := { row := elligatorMapsRow, standIns := [], harness := (true, "5628de2fb8b8dcba033e90645266faef28d2a34fac860459034db2e456eb9149"), looks := false }, kinds := [], alts := [], laidByText := true, laidKinds := [.data, .data, .data], laidTests := true, laidLooks := .later }
def ElligatorMapsCardSaid : Prop := Claim7.holds Tryz.pinned (.plain (OpenSpec.ofChange elligatorMapsSpec)) elligatorMapsCard

/-- THE TIED CARD OF 'chicorylaw15.ElligatorHashes'. -/
def elligatorHashesCard : Claim7 := { stood := { row := elligatorHashesRow, standIns := [], harness := (true, "5628de2fb8b8dcba033e90645266faef28d2a34fac860459034db2e456eb9149"), looks := false }, kinds := [], alts := [], laidByText := true, laidKinds := [.data, .data, .data], laidTests := true, laidLooks := .later }
def ElligatorHashesCardSaid : Prop := Claim7.holds Tryz.pinned (.plain (OpenSpec.ofChange elligatorHashesSpec)) elligatorHashesCard

/-- THE TIED CARD OF 'chicorylaw15.ElligatorOf'. -/
def elligatorOfCard : Claim7 := { stood := { row := elligatorOfRow, standIns := [], harness := (true, "5628de2fb8b8dcba033e90645266faef28d2a34fac860459034db2e456eb9149"), looks := false }, kinds := [], alts := [], laidByText := true, laidKinds := [.data, .data, .data], laidTests := true, laidLooks := .later }
def ElligatorOfCardSaid : Prop := Claim7.holds Tryz.pinned (.plain (OpenSpec.ofChange elligatorOfSpec)) elligatorOfCard

/-- THE TIED CARD OF 'chicorylaw17.EddsaSigns'. -/
def eddsaSignsCard : Claim7 := { stood := { row := eddsaSignsRow, standIns := [], harness := (true, "5628de2fb8b8dcba033e90645266faef28d2a34fac860459034db2e456eb9149"), looks := false }, kinds := [], alts := [], laidByText := true, laidKinds := [.data, .data, .data], laidTests := true, laidLooks := .later }
def EddsaSignsCardSaid : Prop := Claim7.holds Tryz.pinned (.plain (OpenSpec.ofChange eddsaSignsSpec)) eddsaSignsCard

/-- THE TIED CARD OF 'chicorylaw17.EddsaNil'. -/
def eddsaNilCard : Claim7 := { stood := { row := eddsaNilRow, standIns := [], harness := (true, "5628de2fb8b8dcba033e90645266faef28d2a34fac860459034db2e456eb9149"), looks := false }, kinds := [], alts := [], laidByText := true, laidKinds := [.data, .data, .data], laidTests := true, laidLooks := .later }
def EddsaNilCardSaid : Prop := Claim7.holds Tryz.pinned (.plain (OpenSpec.ofChange eddsaNilSpec)) eddsaNilCard

/-- THE TIED CARD OF 'chicorylaw15.ElligatorGroup'. -/
def elligatorGroupCard : Claim7 := { stood := { row := elligatorGroupRow, standIns := [], harness := (true, "5628de2fb8b8dcba033e90645266faef28d2a34fac860459034db2e456eb9149"), looks := false }, kinds := [], alts := [], laidByText := true, laidKinds := [.data, .data, .data], laidTests := true, laidLooks := .later }
def ElligatorGroupCardSaid : Prop := Claim7.holds Tryz.pinned (.plain (OpenSpec.ofChange elligatorGroupSpec)) elligatorGroupCard

/-- THE TIED CARD OF 'chicorylaw17.EddsaVerifies'. -/
def eddsaVerifiesCard : Claim7 := { stood := { row := eddsaVerifiesRow, standIns := [], harness := (true, "5628de2fb8b8dcba033e90645266faef28d2a34fac860459034db2e456eb9149"), looks := false }, kinds := [], alts := [], laidByText := true, laidKinds := [.data, .data, .data], laidTests := true, laidLooks := .later }
def EddsaVerifiesCardSaid : Prop := Claim7.holds Tryz.pinned (.plain (OpenSpec.ofChange eddsaVerifiesSpec)) eddsaVerifiesCard

/-- THE TIED CARD OF 'chicorylaw17.EddsaBack'. -/
def eddsaBackCard : Claim7 := { stood := { row := eddsaBackRow, standIns := [], harness := (true, "5628de2fb8b8dcba033e90645266faef28d2a34fac860459034db2e456eb9149"), looks := false }, kinds := [], alts := [], laidByText := true, laidKinds := [.data, .data, .data], laidTests := true, laidLooks := .later }
def EddsaBackCardSaid : Prop := Claim7.holds Tryz.pinned (.plain (OpenSpec.ofChange eddsaBackSpec)) eddsaBackCard

/-- THE SECOND FORM's CARD OF 'chicorylaw17.EddsaKeys'. -/
def eddsaKeysUptoCard : Claim7 := { stood := { row := eddsaKeysUptoRow, standIns := [], harness := (true, "5628de2fb8b8dcba033e90645266faef28d2a34fac860459034db2e456eb9149"), looks := false }, kinds := [], alts := [], laidByText := true, laidKinds := [.data, .data, .data], laidTests := true, laidLooks := .later }
def EddsaKeysUptoCardSaid : Prop := Claim7.holds Tryz.pinned (.plain (OpenSpec.upto eddsaKeysSpec)) eddsaKeysUptoCard

/-- THE SECOND FORM's CARD OF 'chicorylaw15.ElligatorParts'. -/
def elligatorPartsUptoCard : Claim7 := { stood := { row := elligatorPartsUptoRow, standIns := [], harness := (true, "5628de2fb8b8dcba033e90645266faef28d2a34fac860459034db2e456eb9149"), looks := false }, kinds := [], alts := [], laidByText := true, laidKinds := [.data, .data, .data], laidTests := true, laidLooks := .later }
def ElligatorPartsUptoCardSaid : Prop := Claim7.holds Tryz.pinned (.plain (OpenSpec.upto elligatorPartsSpec)) elligatorPartsUptoCard

/-- THE SECOND FORM's CARD OF 'chicorylaw15.ElligatorSigns'. -/
def elligatorSignsUptoCard : Claim7 := { stood := { row := elligatorSignsUptoRow, standIns := [], harness := (true, "5628de2fb8b8dcba033e90645266faef28d2a34fac860459034db2e456eb9149"), looks := false }, kinds := [], alts := [], laidByText := true, laidKinds := [.data, .data, .data], laidTests := true, laidLooks := .later }
def ElligatorSignsUptoCardSaid : Prop := Claim7.holds Tryz.pinned (.plain (OpenSpec.upto elligatorSignsSpec)) elligatorSignsUptoCard

/-- THE SECOND FORM's CARD OF 'chicorylaw15.ElligatorMaps'. -/
def elligatorMapsUptoCard : Claim7 := { stood := { row := elligatorMapsUptoRow, standIns := [], harness := (true, "5628de2fb8b8dcba033e90645266faef28d2a34fac860459034db2e456eb9149"), looks := false }, kinds := [], alts := [], laidByText := true, laidKinds := [.data, .data, .data], laidTests := true, laidLooks := .later }
def ElligatorMapsUptoCardSaid : Prop := Claim7.holds Tryz.pinned (.plain (OpenSpec.upto elligatorMapsSpec)) elligatorMapsUptoCard

/-- THE SECOND FORM's CARD OF 'chicorylaw15.ElligatorHashes'. -/
def elligatorHashesUptoCard : Claim7 := { stood := { row := elligatorHashesUptoRow, standIns := [], harness := (true, "5628de2fb8b8dcba033e90645266faef28d2a34fac860459034db2e456eb9149"), looks := false }, kinds := [], alts := [], laidByText := true, laidKinds := [.data, .data, .data], laidTests := true, laidLooks := .later }
def ElligatorHashesUptoCardSaid : Prop := Claim7.holds Tryz.pinned (.plain (OpenSpec.upto elligatorHashesSpec)) elligatorHashesUptoCard

/-- THE SECOND FORM's CARD OF 'chicorylaw15.ElligatorOf'. -/
def elligatorOfUptoCard : Claim7 := { stood := { row := elligatorOfUptoRow, standIns := [], harness := (true, "5628de2fb8b8dcba033e90645266faef28d2a34fac860459034db2e456eb9149"), looks := false }, kinds := [], alts := [], laidByText := true, laidKinds := [.data, .data, .data], laidTests := true, laidLooks := .later }
def ElligatorOfUptoCardSaid : Prop := Claim7.holds Tryz.pinned (.plain (OpenSpec.upto elligatorOfSpec)) elligatorOfUptoCard

/-- THE SECOND FORM's CARD OF 'chicorylaw17.EddsaSigns'. -/
def eddsaSignsUptoCard : Claim7 := { stood := { row := eddsaSignsUptoRow, standIns := [], harness := (true, "5628de2fb8b8dcba033e90645266faef28d2a34fac860459034db2e456eb9149"), looks := false }, kinds := [], alts := [], laidByText := true, laidKinds := [.data, .data, .data], laidTests := true, laidLooks := .later }
def EddsaSignsUptoCardSaid : Prop := Claim7.holds Tryz.pinned (.plain (OpenSpec.upto eddsaSignsSpec)) eddsaSignsUptoCard

/-- THE SECOND FORM's CARD OF 'chicorylaw17.EddsaNil'. -/
def eddsaNilUptoCard : Claim7 := { stood := { row := eddsaNilUptoRow, standIns := [], harness := (true, "5628de2fb8b8dcba033e90645266faef28d2a34fac860459034db2e456eb9149"), looks := false }, kinds := [], alts := [], laidByText := true, laidKinds := [.data, .data, .data], laidTests := true, laidLooks := .later }
def EddsaNilUptoCardSaid : Prop := Claim7.holds Tryz.pinned (.plain (OpenSpec.upto eddsaNilSpec)) eddsaNilUptoCard

/-- THE SECOND FORM's CARD OF 'chicorylaw15.ElligatorGroup'. -/
def elligatorGroupUptoCard : Claim7 := { stood := { row := elligatorGroupUptoRow, standIns := [], harness := (true, "5628de2fb8b8dcba033e90645266faef28d2a34fac860459034db2e456eb9149"), looks := false }, kinds := [], alts := [], laidByText := true, laidKinds := [.data, .data, .data], laidTests := true, laidLooks := .later }
def ElligatorGroupUptoCardSaid : Prop := Claim7.holds Tryz.pinned (.plain (OpenSpec.upto elligatorGroupSpec)) elligatorGroupUptoCard

/-- THE SECOND FORM's CARD OF 'chicorylaw17.EddsaVerifies'. -/
def eddsaVerifiesUptoCard : Claim7 := { stood := { row := eddsaVerifiesUptoRow, standIns := [], harness := (true, "5628de2fb8b8dcba033e90645266faef28d2a34fac860459034db2e456eb9149"), looks := false }, kinds := [], alts := [], laidByText := true, laidKinds := [.data, .data, .data], laidTests := true, laidLooks := .later }
def EddsaVerifiesUptoCardSaid : Prop := Claim7.holds Tryz.pinned (.plain (OpenSpec.upto eddsaVerifiesSpec)) eddsaVerifiesUptoCard

/-- THE SECOND FORM's CARD OF 'chicorylaw17.EddsaBack'. -/
def eddsaBackUptoCard : Claim7 := { stood := { row := eddsaBackUptoRow, standIns := [], harness := (true, "5628de2fb8b8dcba033e90645266faef28d2a34fac860459034db2e456eb9149"), looks := false }, kinds := [], alts := [], laidByText := true, laidKinds := [.data, .data, .data], laidTests := true, laidLooks := .later }
def EddsaBackUptoCardSaid : Prop := Claim7.holds Tryz.pinned (.plain (OpenSpec.upto eddsaBackSpec)) eddsaBackUptoCard
end Rows
end Go.Proofs.YtpnebmmjpapopaaGreatDoor
