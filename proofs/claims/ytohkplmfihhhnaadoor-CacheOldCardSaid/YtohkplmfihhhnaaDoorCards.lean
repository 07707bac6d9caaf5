/-
  DERIVED. GIVEN WITH THE SEED: THE CARDS: each row of YtohkplmfihhhnaaDoorRows.lean that lists a variable, with what it lists TIED to the program's text (the seventh form; the later family's looks); each row that meets fmt, with fmt's text TOLD by the authors' own Lean function (tested against real Go, not proved from fmt's source: count such statements apart). THE CARD IS WHAT COUNTS. Prove the row's statement (the work); the ties are given (YtohkplmfihhhnaaDoorTie.lean); close each card by the builder's one call (the guide's Derived/Test/ToyasCard.lean, 'card_holds'). Laid BY PROGRAM, IN A SANDBOX (cutbox-door.mjs). By AI agents, Wed Nov 11 2026. No macro, syntax, notation, axiom, sorry.
-/
import Derived.Test.YtohkplmfihhhnaaDoorRows
import GoSem.ClaimSeven
namespace Go.Proofs.YtohkplmfihhhnaaDoor
namespace Rows

/-- THE TIED CARD OF 'corrallaw3.IsaSays'. -/
def isaSaysCard : Claim7 := { stood := { row := isaSaysRow, standIns := [], harness := (true, "5f1a21d201288ecc2d3d00619626186c92add9af2401abb757af32152030f503"), looks := true }, kinds := [], alts := [], laidByText := true, laidKinds := [.sentinel, .sentinel, .sentinel, .sentinel, .sentinel, .sentinel, .sentinel, .sentinel, .sentinel, .sentinel, .sentinel], laidTests := true, laidLooks := .later }
def IsaSaysCardSaid : Prop := Claim7.holds Tryd.pinned (.plain (OpenSpec.ofChange isaSaysSpec)) isaSaysCard

/-- THE TIED CARD OF 'corrallaw3.IsaNames'. -/
def isaNamesCard : Claim7 := { stood := { row := isaNamesRow, standIns := [], harness := (true, "5f1a21d201288ecc2d3d00619626186c92add9af2401abb757af32152030f503"), looks := true }, kinds := [], alts := [], laidByText := true, laidKinds := [.sentinel, .sentinel, .sentinel, .sentinel, .sentinel, .sentinel, .sentinel, .sentinel, .sentinel, .sentinel, .sentinel], laidTests := true, laidLooks := .later }
def IsaNamesCardSaid : Prop := Claim7.holds Tryd.pinned (.plain (OpenSpec.ofChange isaNamesSpec)) isaNamesCard

/-- THE TIED CARD OF 'corrallaw17.CacheSets'. -/
def cacheSetsCard : Claim7 := { stood := { row := cacheSetsRow, standIns := [], harness := (true, "5f1a21d201288ecc2d3d00619626186c92add9af2401abb757af32152030f503"), looks := true }, kinds := [], alts := [], laidByText := true, laidKinds := [.sentinel, .sentinel, .sentinel, .sentinel, .sentinel, .sentinel, .sentinel, .sentinel, .sentinel, .sentinel, .sentinel], laidTests := true, laidLooks := .later }
def CacheSetsCardSaid : Prop := Claim7.holds Tryd.pinned (.plain (OpenSpec.ofChange cacheSetsSpec)) cacheSetsCard

/-- THE TIED CARD OF 'corrallaw17.CacheOld'. -/
def cacheOldCard : Claim7 := { stood := { row := cacheOldRow, standIns := [], harness := (true, "5f1a21d201288ecc2d3d00619626186c92add9af2401abb757af32152030f503"), looks := true }, kinds := [], alts := [], laidByText := true, laidKinds := [.sentinel, .sentinel, .sentinel, .sentinel, .sentinel, .sentinel, .sentinel, .sentinel, .sentinel, .sentinel, .sentinel], laidTests := true, laidLooks := .later }
def CacheOldCardSaid : Prop := Claim7.holds Tryd.pinned (.plain (OpenSpec.ofChange cacheOldSpec)) cacheOldCard

/-- THE TIED CARD OF 'corrallaw17.CachePlays'. -/
def cachePlaysCard : Claim7 := { stood := { row := cachePlaysRow, standIns := [], harness := (true, "5f1a21d201288ecc2d3d00619626186c92add9af2401abb757af32152030f503"), looks := true }, kinds := [], alts := [], laidByText := true, laidKinds := [.sentinel, .sentinel, .sentinel, .sentinel, .sentinel, .sentinel, .sentinel, .sentinel, .sentinel, .sentinel, .sentinel], laidTests := true, laidLooks := .later }
def CachePlaysCardSaid : Prop := Claim7.holds Tryd.pinned (.plain (OpenSpec.ofChange cachePlaysSpec)) cachePlaysCard

/-- THE SECOND FORM's CARD OF 'corrallaw3.IsaSays'. -/
def isaSaysUptoCard : Claim7 := { stood := { row := isaSaysUptoRow, standIns := [], harness := (true, "5f1a21d201288ecc2d3d00619626186c92add9af2401abb757af32152030f503"), looks := true }, kinds := [], alts := [], laidByText := true, laidKinds := [.sentinel, .sentinel, .sentinel, .sentinel, .sentinel, .sentinel, .sentinel, .sentinel, .sentinel, .sentinel, .sentinel], laidTests := true, laidLooks := .later }
def IsaSaysUptoCardSaid : Prop := Claim7.holds Tryd.pinned (.plain (OpenSpec.upto isaSaysSpec)) isaSaysUptoCard

/-- THE SECOND FORM's CARD OF 'corrallaw3.IsaNames'. -/
def isaNamesUptoCard : Claim7 := { stood := { row := isaNamesUptoRow, standIns := [], harness := (true, "5f1a21d201288ecc2d3d00619626186c92add9af2401abb757af32152030f503"), looks := true }, kinds := [], alts := [], laidByText := true, laidKinds := [.sentinel, .sentinel, .sentinel, .sentinel, .sentinel, .sentinel, .sentinel, .sentinel, .sentinel, .sentinel, .sentinel], laidTests := true, laidLooks := .later }
def IsaNamesUptoCardSaid : Prop := Claim7.holds Tryd.pinned (.plain (OpenSpec.upto isaNamesSpec)) isaNamesUptoCard

/-- THE SECOND FORM's CARD OF 'corrallaw17.CacheSets'. -/
def cacheSetsUptoCard : Claim7 := { stood := { row := cacheSetsUptoRow, standIns := [], harness := (true, "5f1a21d201288ecc2d3d00619626186c92add9af2401abb757af32152030f503"), looks := true }, kinds := [], alts := [], laidByText := true, laidKinds := [.sentinel, .sentinel, .sentinel, .sentinel, .sentinel, .sentinel, .sentinel, .sentinel, .sentinel, .sentinel, .sentinel], laidTests := true, laidLooks := .later }
def CacheSetsUptoCardSaid : Prop := Claim7.holds Tryd.pinned (.plain (OpenSpec.upto cacheSetsSpec)) cacheSetsUptoCard

/-- THE SECOND FORM's CARD OF 'corrallaw17.CacheOld'. -/
def cacheOldUptoCard : Claim7 := { stood := { row := cacheOldUptoRow, standIns := [], harness := (true, "5f1a21d201288ecc2d3d00619626186c92add9af2401abb757af32152030f503"), looks := true }, kinds := [], alts := [], laidByText := true, laidKinds := [.sentinel, .sentinel, .sentinel, .sentinel, .sentinel, .sentinel, .sentinel, .sentinel, .sentinel, .sentinel, .sentinel], laidTests := true, laidLooks := .later }
def CacheOldUptoCardSaid : Prop := Claim7.holds Tryd.pinned (.plain (OpenSpec.upto cacheOldSpec)) cacheOldUptoCard

/-- THE SECOND FORM's CARD OF 'corrallaw17.CachePlays'. -/
def cachePlaysUptoCard : Claim7 := { stood := { row := cachePlaysUptoRow, standIns := [], harness := (true, "5f1a21d201288ecc2d3d00619626186c92add9af2401abb757af32152030f503"), looks := true }, kinds := [], alts := [], laidByText := true, laidKinds := [.sentinel, .sentinel, .sentinel, .sentinel, .sentinel, .sentinel, .sentinel, .sentinel, .sentinel, .sentinel, .sentinel], laidTests := true, laidLooks := .later }
def CachePlaysUptoCardSaid : Prop := Claim7.holds Tryd.pinned (.plain (OpenSpec.upto cachePlaysSpec)) cachePlaysUptoCard
end Rows
end Go.Proofs.YtohkplmfihhhnaaDoor
