/-
  A world where the errors of package api lie: one input that fits.
  Conditions: none.
-/
import Derived.Test.YtohkplmfihhhnaaDoorLayC
import Derived.Handed
set_option linter.unusedVariables false
set_option maxRecDepth 100000
namespace Go.Ev
open Go Go.RowKit

noncomputable def low : Nat := (World.holding Pr default ⟨#[], #[], []⟩).heap.size

def putErr (g i n : Nat) (h : Array Obj) : Array Obj := h.modify g fun
  | .cells _ t frozen => .cells #[.iface Ty.P_errors_errorString (.pointer (some ⟨n + i, 0, none⟩))] t frozen
  | o => o

noncomputable def laidWorld (os : Os) : World :=
  let w0 := World.holding Pr os ⟨(errTexts.map fun x => Obj.cells #[.string ⟨x.2.toArray⟩] Ty.errors_errorString).toArray, #[], []⟩
  { w0 with heap := putErr G.api_ErrMany 0 low (putErr G.api_ErrKind 1 low (putErr G.api_ErrPlace 2 low (putErr G.api_ErrShape 3 low (putErr G.api_ErrWord 4 low (putErr G.api_ErrRange 5 low (putErr G.api_ErrFull 6 low
    (putErr G.api_ErrNone 7 low (putErr G.api_ErrTrace 8 low (putErr G.api_ErrOrder 9 low (putErr G.api_ErrValue 10 low w0.heap)))))))))) }

theorem laidWorld_met (os : Os) (args : Array Value) : laidMet Pr laidAll ((laidWorld os).forCall (fun _ _ => 0) ⟨#[], args, []⟩).memory :=
  laidMet_of_run (ps := [.cell G.api_ErrMany 0, .cell low 0, .cell G.api_ErrKind 0, .cell (low + 1) 0, .cell G.api_ErrPlace 0, .cell (low + 2) 0, .cell G.api_ErrShape 0, .cell (low + 3) 0, .cell G.api_ErrWord 0, .cell (low + 4) 0,
    .cell G.api_ErrRange 0, .cell (low + 5) 0, .cell G.api_ErrFull 0, .cell (low + 6) 0, .cell G.api_ErrNone 0, .cell (low + 7) 0, .cell G.api_ErrTrace 0, .cell (low + 8) 0, .cell G.api_ErrOrder 0, .cell (low + 9) 0, .cell G.api_ErrValue 0, .cell (low + 10) 0])
    8 (by kernel_rfl) (by kernel_rfl) (by kernel_rfl)
end Go.Ev
