/-
  DERIVED. GIVEN WITH THE SEED: THE CARDS: each row of YtpecepipllbghaaDoorRows.lean that lists a variable, with what it lists TIED to the program's text (the seventh form; the later family's looks); each row that meets fmt, with fmt's text TOLD by the authors' own Lean function (tested against real Go, not proved from fmt's source: count such statements apart). THE CARD IS WHAT COUNTS. Prove the row's statement (the work); the ties are given (YtpecepipllbghaaDoorTie.lean); close each card by the builder's one call (the guide's Derived/Test/ToyasCard.lean, 'card_holds'). Laid BY PROGRAM, IN A SANDBOX (cutbox-door.mjs). By AI agents, Wed Nov 11 2026. No macro, syntax, notation, axiom, sorry.
-/
import Derived.Test.YtpecepipllbghaaDoorRows
import GoSem.ClaimSeven
namespace Go.Proofs.YtpecepipllbghaaDoor
namespace Rows

/-- THE TIED CARD OF 'laws.FnTokenText'. -/
def fnTokenTextCard : Claim7 := { stood := { row := fnTokenTextRow, standIns := [], harness := (true, "9052fd68256b5fbe414e22a5f5c8c23381bc8ba37f201f34fcd70e6c331074d6"), looks := false }, kinds := [], alts := [], laidByText := true, laidKinds := [.data, .data, .data], laidTests := true, laidLooks := .later }
def FnTokenTextCardSaid : Prop := Claim7.holds Tryd.pinned (.plain (OpenSpec.ofChange fnTokenTextSpec)) fnTokenTextCard

/-- THE TIED CARD OF 'laws.FnExactTokenText'. -/
def fnExactTokenTextCard : Claim7 := { stood := { row := fnExactTokenTextRow, standIns := [], harness := (true, "9052fd68256b5fbe414e22a5f5c8c23381bc8ba37f201f34fcd70e6c331074d6"), looks := false }, kinds := [], alts := [], laidByText := true, laidKinds := [.data, .data, .data], laidTests := true, laidLooks := .later }
def FnExactTokenTextCardSaid : Prop := Claim7.holds Tryd.pinned (.plain (OpenSpec.ofChange fnExactTokenTextSpec)) fnExactTokenTextCard

/-- THE SECOND FORM's CARD OF 'laws.FnTokenText'. -/
def fnTokenTextUptoCard : Claim7 := { stood := { row := fnTokenTextUptoRow, standIns := [], harness := (true, "9052fd68256b5fbe414e22a5f5c8c23381bc8ba37f201f34fcd70e6c331074d6"), looks := false }, kinds := [], alts := [], laidByText := true, laidKinds := [.data, .data, .data], laidTests := true, laidLooks := .later }
def FnTokenTextUptoCardSaid : Prop := Claim7.holds Tryd.pinned (.plain (OpenSpec.upto fnTokenTextSpec)) fnTokenTextUptoCard

/-- THE SECOND FORM's CARD OF 'laws.FnExactTokenText'. -/
def fnExactTokenTextUptoCard : Claim7 := { stood := { row := fnExactTokenTextUptoRow, standIns := [], harness := (true, "9052fd68256b5fbe414e22a5f5c8c23381bc8ba37f201f34fcd70e6c331074d6"), looks := false }, kinds := [], alts := [], laidByText := true, laidKinds := [.data, .data, .data], laidTests := true, laidLooks := .later }
def FnExactTokenTextUptoCardSaid : Prop := Claim7.holds Tryd.pinned (.plain (OpenSpec.upto fnExactTokenTextSpec)) fnExactTokenTextUptoCard
end Rows
end Go.Proofs.YtpecepipllbghaaDoor
