/-
  DERIVED. GIVEN WITH THE SEED: THE PROGRAM's TIES (one call each: nine closed facts by the kernel) AND EACH ROW's TIE, after the 31st guide's Derived/Test/Toyas{Tie, Card}.lean. No idea stands in it: it is a product of the set-up. Laid BY PROGRAM, IN A SANDBOX (cutbox-door.mjs). By AI agents, Wed Nov 11 2026. No macro, syntax, notation, axiom, sorry.
-/
import Derived.Test.YtohkplmfihhhnaaDoorRows
import Derived.LaidByTextLater
import Derived.SevenTiedAt
import Derived.LaidSub
import Derived.LaidOnce
namespace Go.Proofs.YtohkplmfihhhnaaDoor
open Go
set_option maxRecDepth 100000
theorem seatTie1 : Tryd.prog.laidByTextLater [("corral/api.ErrMany", Rows.laid_corral_api_ErrMany), ("corral/api.ErrKind", Rows.laid_corral_api_ErrKind), ("corral/api.ErrPlace", Rows.laid_corral_api_ErrPlace), ("corral/api.ErrShape", Rows.laid_corral_api_ErrShape), ("corral/api.ErrWord", Rows.laid_corral_api_ErrWord), ("corral/api.ErrRange", Rows.laid_corral_api_ErrRange), ("corral/api.ErrFull", Rows.laid_corral_api_ErrFull), ("corral/api.ErrNone", Rows.laid_corral_api_ErrNone), ("corral/api.ErrTrace", Rows.laid_corral_api_ErrTrace), ("corral/api.ErrOrder", Rows.laid_corral_api_ErrOrder), ("corral/api.ErrValue", Rows.laid_corral_api_ErrValue)] [.sentinel, .sentinel, .sentinel, .sentinel, .sentinel, .sentinel, .sentinel, .sentinel, .sentinel, .sentinel, .sentinel] true :=
  Program.laidByTextLater_by_one 218 8 2 (by kernel_rfl) (by kernel_rfl) (by kernel_rfl) (by kernel_rfl) (by kernel_rfl) (by kernel_rfl) (fun _ _ => by kernel_rfl)
theorem noOwnUnsafe : Tryd.pinned.checked.prog.headLifts.contains "ownunsafe" = false := by kernel_rfl
theorem tie : Tryd.prog.laidByTextLater [("corral/api.ErrMany", Rows.laid_corral_api_ErrMany), ("corral/api.ErrKind", Rows.laid_corral_api_ErrKind), ("corral/api.ErrPlace", Rows.laid_corral_api_ErrPlace), ("corral/api.ErrShape", Rows.laid_corral_api_ErrShape), ("corral/api.ErrWord", Rows.laid_corral_api_ErrWord), ("corral/api.ErrRange", Rows.laid_corral_api_ErrRange), ("corral/api.ErrFull", Rows.laid_corral_api_ErrFull), ("corral/api.ErrNone", Rows.laid_corral_api_ErrNone), ("corral/api.ErrTrace", Rows.laid_corral_api_ErrTrace), ("corral/api.ErrOrder", Rows.laid_corral_api_ErrOrder), ("corral/api.ErrValue", Rows.laid_corral_api_ErrValue)] [.sentinel, .sentinel, .sentinel, .sentinel, .sentinel, .sentinel, .sentinel, .sentinel, .sentinel, .sentinel, .sentinel] true :=
  Program.laidByTextLater.sub seatTie1 ["corral/api.ErrMany", "corral/api.ErrKind", "corral/api.ErrPlace", "corral/api.ErrShape", "corral/api.ErrWord", "corral/api.ErrRange", "corral/api.ErrFull", "corral/api.ErrNone", "corral/api.ErrTrace", "corral/api.ErrOrder", "corral/api.ErrValue"] (by kernel_rfl) (by kernel_rfl)
theorem isaSays_row_tie : Rows.isaSaysRow.laidByTextAt .later Tryd.pinned [.sentinel, .sentinel, .sentinel, .sentinel, .sentinel, .sentinel, .sentinel, .sentinel, .sentinel, .sentinel, .sentinel] true :=
  OpenClaim.laidByTextAt_later rfl rfl tie noOwnUnsafe
theorem isaNames_row_tie : Rows.isaNamesRow.laidByTextAt .later Tryd.pinned [.sentinel, .sentinel, .sentinel, .sentinel, .sentinel, .sentinel, .sentinel, .sentinel, .sentinel, .sentinel, .sentinel] true :=
  OpenClaim.laidByTextAt_later rfl rfl tie noOwnUnsafe
theorem cacheSets_row_tie : Rows.cacheSetsRow.laidByTextAt .later Tryd.pinned [.sentinel, .sentinel, .sentinel, .sentinel, .sentinel, .sentinel, .sentinel, .sentinel, .sentinel, .sentinel, .sentinel] true :=
  OpenClaim.laidByTextAt_later rfl rfl tie noOwnUnsafe
theorem cacheOld_row_tie : Rows.cacheOldRow.laidByTextAt .later Tryd.pinned [.sentinel, .sentinel, .sentinel, .sentinel, .sentinel, .sentinel, .sentinel, .sentinel, .sentinel, .sentinel, .sentinel] true :=
  OpenClaim.laidByTextAt_later rfl rfl tie noOwnUnsafe
theorem cachePlays_row_tie : Rows.cachePlaysRow.laidByTextAt .later Tryd.pinned [.sentinel, .sentinel, .sentinel, .sentinel, .sentinel, .sentinel, .sentinel, .sentinel, .sentinel, .sentinel, .sentinel] true :=
  OpenClaim.laidByTextAt_later rfl rfl tie noOwnUnsafe
theorem isaSaysUpto_row_tie : Rows.isaSaysUptoRow.laidByTextAt .later Tryd.pinned [.sentinel, .sentinel, .sentinel, .sentinel, .sentinel, .sentinel, .sentinel, .sentinel, .sentinel, .sentinel, .sentinel] true :=
  OpenClaim.laidByTextAt_later rfl rfl tie noOwnUnsafe
theorem isaNamesUpto_row_tie : Rows.isaNamesUptoRow.laidByTextAt .later Tryd.pinned [.sentinel, .sentinel, .sentinel, .sentinel, .sentinel, .sentinel, .sentinel, .sentinel, .sentinel, .sentinel, .sentinel] true :=
  OpenClaim.laidByTextAt_later rfl rfl tie noOwnUnsafe
theorem cacheSetsUpto_row_tie : Rows.cacheSetsUptoRow.laidByTextAt .later Tryd.pinned [.sentinel, .sentinel, .sentinel, .sentinel, .sentinel, .sentinel, .sentinel, .sentinel, .sentinel, .sentinel, .sentinel] true :=
  OpenClaim.laidByTextAt_later rfl rfl tie noOwnUnsafe
theorem cacheOldUpto_row_tie : Rows.cacheOldUptoRow.laidByTextAt .later Tryd.pinned [.sentinel, .sentinel, .sentinel, .sentinel, .sentinel, .sentinel, .sentinel, .sentinel, .sentinel, .sentinel, .sentinel] true :=
  OpenClaim.laidByTextAt_later rfl rfl tie noOwnUnsafe
theorem cachePlaysUpto_row_tie : Rows.cachePlaysUptoRow.laidByTextAt .later Tryd.pinned [.sentinel, .sentinel, .sentinel, .sentinel, .sentinel, .sentinel, .sentinel, .sentinel, .sentinel, .sentinel, .sentinel] true :=
  OpenClaim.laidByTextAt_later rfl rfl tie noOwnUnsafe
end Go.Proofs.YtohkplmfihhhnaaDoor
