/-
  DERIVED. GIVEN WITH THE SEED: THE CARDS: each row of YthcphjmknbiadaaGreatDoorRows.lean that lists a variable, with what it lists TIED to the program's text (the seventh form; the later family's looks); each row that meets fmt, with fmt's text TOLD by the authors' own Lean function (tested against real Go, not proved from fmt's source: count such statements apart). THE CARD IS WHAT COUNTS. Prove the row's statement (the work); the ties are given (YthcphjmknbiadaaGreatDoorTie.lean); close each card by the builder's one call (the guide's Derived/Test/ToyasCard.lean, 'card_holds'). Laid BY PROGRAM, IN A SANDBOX (cutbox-door.mjs). By AI agents, Wed Nov 11 2026. No macro, syntax, notation, axiom, sorry.
-/
import Derived.Test.YthcphjmknbiadaaGreatDoorRows
import GoSem.ClaimSeven
namespace Go.Proofs.YthcphjmknbiadaaGreatDoor
namespace Rows

/-- THE TIED CARD OF 'palanquinlaw19.StreamOpens'. -/
def streamOpensCard : Claim7 := { stood := { row := streamOpensRow, standIns := [], harness := (true, "b2efa79001c6322919433390fa2393277e05626943d3511e8a187eaaa84885e2"), looks := true }, kinds := [], alts := [], laidByText := true, laidKinds := [.data, .data, .data, .data, .sentinel, .sentinel, .data, .pinned], laidTests := true, laidLooks := .later }
def StreamOpensCardSaid : Prop := Claim7.holds Tryz.pinned (.plain (OpenSpec.ofChange streamOpensSpec)) streamOpensCard

/-- THE TIED CARD OF 'palanquinlaw19.StreamVersions'. -/
def streamVersionsCard : Claim7 := { stood := { row := streamVersionsRow, standIns := [], harness := (true, "b2efa79001c6322919433390fa2393277e05626943d3511e8a187eaaa84885e2"), looks := true }, kinds := [], alts := [], laidByText := true, laidKinds := [.data, .data, .data, .data, .sentinel, .sentinel, .data, .pinned], laidTests := true, laidLooks := .later }
def StreamVersionsCardSaid : Prop := Claim7.holds Tryz.pinned (.plain (OpenSpec.ofChange streamVersionsSpec)) streamVersionsCard

/-- THE TIED CARD OF 'palanquinlaw19.StreamWhole'. -/
def streamWholeCard : Claim7 := { stood := { row := streamWholeRow, standIns := [], harness := (true, "b2efa79001c6322919433390fa2393277e05626943d3511e8a187eaaa84885e2"), looks := true }, kinds := [], alts := [], laidByText := true, laidKinds := [.data, .data, .data, .data, .sentinel, .sentinel, .data, .pinned], laidTests := true, laidLooks := .later }
def StreamWholeCardSaid : Prop := Claim7.holds Tryz.pinned (.plain (OpenSpec.ofChange streamWholeSpec)) streamWholeCard

/-- THE SECOND FORM's CARD OF 'palanquinlaw19.StreamOpens'. -/
def streamOpensUptoCard : Claim7 := { stood := { row := streamOpensUptoRow, standIns := [], harness := (true, "b2efa79001c6322919433390fa2393277e05626943d3511e8a187eaaa84885e2"), looks := true }, kinds := [], alts := [], laidByText := true, laidKinds := [.data, .data, .data, .data, .sentinel, .sentinel, .data, .pinned], laidTests := true, laidLooks := .later }
def StreamOpensUptoCardSaid : Prop := Claim7.holds Tryz.pinned (.plain (OpenSpec.upto streamOpensSpec)) streamOpensUptoCard

/-- THE SECOND FORM's CARD OF 'palanquinlaw19.StreamVersions'. -/
def streamVersionsUptoCard : Claim7 := { stood := { row := streamVersionsUptoRow, standIns := [], harness := (true, "b2efa79001c6322919433390fa2393277e05626943d3511e8a187eaaa84885e2"), looks := true }, kinds := [], alts := [], laidByText := true, laidKinds := [.data, .data, .data, .data, .sentinel, .sentinel, .data, .pinned], laidTests := true, laidLooks := .later }
def StreamVersionsUptoCardSaid : Prop := Claim7.holds Tryz.pinned (.plain (OpenSpec.upto streamVersionsSpec)) streamVersionsUptoCard

/-- THE SECOND FORM's CARD OF 'palanquinlaw19.StreamWhole'. -/
def streamWholeUptoCard : Claim7 := { stood := { row := streamWholeUptoRow, standIns := [], harness := (true, "b2efa79001c6322919433390fa2393277e05626943d3511e8a187eaaa84885e2"), looks := true }, kinds := [], alts := [], laidByText := true, laidKinds := [.data, .data, .data, .data, .sentinel, .sentinel, .data, .pinned], laidTests := true, laidLooks := .later }
def StreamWholeUptoCardSaid : Prop := Claim7.holds Tryz.pinned (.plain (OpenSpec.upto streamWholeSpec)) streamWholeUptoCard
end Rows
end Go.Proofs.YthcphjmknbiadaaGreatDoor
