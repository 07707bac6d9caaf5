/-
  NARROWER THAN 'FOR EVERY INPUT', by the rows' own cells (each row's printed sentence says how): IsaSays: laid · IsaNames: laid · CacheSets: laid · CacheOld: laid · CachePlays: laid.
  DERIVED. THE GIVEN ROWS OF THIS SEAT. 5 by the template 'for every input the law returns true; each argument reads behind the call as it read before'; 0 by the template 'total and deterministic' (their statements: YtohkplmfihhhnaaDoorTotals.lean).
  GIVEN WITH THE SEED: the statements are not yours to turn. If you find one false, say at which input.
  Laid BY PROGRAM, IN A SANDBOX (cutbox-rows.mjs): the forced cells as the released guide's own fill.sh prints them over the translation 7a36f4f020f10f39… (all of the seat's roots in one cut). By AI agents, Wed Nov 11 2026. No macro, syntax, notation, axiom, sorry.
-/
import Derived.Test.YtohkplmfihhhnaaDoorChecked
import GoSem.Claim
import GoSem.ClaimJoined
import GoSem.ClaimMapViews
import Derived.JoinedTies
import Derived.KernelRfl
namespace Go.Proofs.YtohkplmfihhhnaaDoor
/- THE CELL 'sum', in the pinned program and in every row, IS THE sha256 OF THE DUMP (.gsa) THAT YtohkplmfihhhnaaDoorProg.lean LOADS. Nothing in Lean hashes anything: it is a label: what it is worth is what the hold of that sum in a sandbox is worth. -/
noncomputable def Tryd.pinned : Pinned := { name := "ytohkplmfihhhnaadoor", sum := "7a36f4f020f10f391e19e963037a01a39681d3e163619aaf4bca38fbe35c4e75", checked := Tryd.checked }
namespace Rows
def none {H : Type} : Left H := { results := [], args := [] }

/- WHAT THE LISTED PACKAGE-LEVEL VARIABLES READ AS WHEN THE CALL BEGINS. Each datum BY PROGRAM (the guide's laid-datum.mjs) off the statement by which the dump's own 'gosem.cut.vars' lays the variable. In a bare row this is a premise. The card (YtohkplmfihhhnaaDoorCards.lean) ties it to the program's text. -/
def laid_corral_api_ErrMany {H : Type} : DataW H := .iface "*errors.errorString" (.ptr (.agg [.lit (.string [116, 111, 111, 32, 109, 97, 110, 121])]))
def laid_corral_api_ErrKind {H : Type} : DataW H := .iface "*errors.errorString" (.ptr (.agg [.lit (.string [110, 111, 32, 115, 117, 99, 104, 32, 107, 105, 110, 100])]))
def laid_corral_api_ErrPlace {H : Type} : DataW H := .iface "*errors.errorString" (.ptr (.agg [.lit (.string [110, 111, 32, 115, 117, 99, 104, 32, 112, 108, 97, 99, 101])]))
def laid_corral_api_ErrShape {H : Type} : DataW H := .iface "*errors.errorString" (.ptr (.agg [.lit (.string [110, 111, 116, 32, 116, 104, 101, 32, 115, 104, 97, 112, 101, 32, 116, 104, 97, 116, 32, 105, 116, 32, 104, 97, 115, 32, 116, 111, 32, 104, 97, 118, 101])]))
def laid_corral_api_ErrWord {H : Type} : DataW H := .iface "*errors.errorString" (.ptr (.agg [.lit (.string [110, 111, 32, 115, 117, 99, 104, 32, 119, 111, 114, 100])]))
def laid_corral_api_ErrRange {H : Type} : DataW H := .iface "*errors.errorString" (.ptr (.agg [.lit (.string [97, 32, 110, 117, 109, 98, 101, 114, 32, 111, 117, 116, 32, 111, 102, 32, 105, 116, 115, 32, 114, 97, 110, 103, 101])]))
def laid_corral_api_ErrFull {H : Type} : DataW H := .iface "*errors.errorString" (.ptr (.agg [.lit (.string [110, 111, 32, 114, 111, 111, 109])]))
def laid_corral_api_ErrNone {H : Type} : DataW H := .iface "*errors.errorString" (.ptr (.agg [.lit (.string [116, 104, 101, 114, 101, 32, 105, 115, 32, 110, 111, 110, 101])]))
def laid_corral_api_ErrTrace {H : Type} : DataW H := .iface "*errors.errorString" (.ptr (.agg [.lit (.string [110, 111, 32, 114, 117, 110, 32, 111, 102, 32, 116, 104, 101, 32, 105, 110, 115, 116, 114, 117, 99, 116, 105, 111, 110, 115])]))
def laid_corral_api_ErrOrder {H : Type} : DataW H := .iface "*errors.errorString" (.ptr (.agg [.lit (.string [97, 110, 32, 111, 114, 100, 101, 114, 32, 116, 104, 97, 116, 32, 109, 97, 121, 32, 110, 111, 116, 32, 98, 101])]))
def laid_corral_api_ErrValue {H : Type} : DataW H := .iface "*errors.errorString" (.ptr (.agg [.lit (.string [97, 32, 118, 97, 108, 117, 101, 32, 116, 104, 97, 116, 32, 119, 97, 115, 32, 110, 111, 116, 32, 116, 104, 101, 114, 101])]))

/-- 'corrallaw3.IsaSays': WHATEVER THE INPUT: true; the input reads as it did. -/
def isaSaysSpec : ChangeSpec := { name := "isaSays", fn := fun _ => fun
  | [d1, d2] => { results := [.lit (.bool true)], args := [d1, d2] }
  | _ => none }
def isaSaysRow : OpenClaim := { program := "ytohkplmfihhhnaadoor", sum := "7a36f4f020f10f391e19e963037a01a39681d3e163619aaf4bca38fbe35c4e75", func := "corral/corrallaw3.IsaSays", spec := "isaSays", unfollowed := true, recurses := true, named := ["corral/api.ErrKind", "corral/api.ErrRange", "corral/api.ErrShape", "corral/api.ErrMany", "corral/api.ErrPlace", "corral/api.ErrWord", "corral/api.ErrFull", "corral/api.ErrNone", "corral/api.ErrTrace", "corral/api.ErrOrder", "corral/api.ErrValue"], apart := false, laid := [("corral/api.ErrMany", laid_corral_api_ErrMany), ("corral/api.ErrKind", laid_corral_api_ErrKind), ("corral/api.ErrPlace", laid_corral_api_ErrPlace), ("corral/api.ErrShape", laid_corral_api_ErrShape), ("corral/api.ErrWord", laid_corral_api_ErrWord), ("corral/api.ErrRange", laid_corral_api_ErrRange), ("corral/api.ErrFull", laid_corral_api_ErrFull), ("corral/api.ErrNone", laid_corral_api_ErrNone), ("corral/api.ErrTrace", laid_corral_api_ErrTrace), ("corral/api.ErrOrder", laid_corral_api_ErrOrder), ("corral/api.ErrValue", laid_corral_api_ErrValue)] }
def IsaSaysSaid : Prop := isaSaysRow.holds Tryd.pinned (OpenSpec.ofChange isaSaysSpec)

/-- ITS FALSE NEIGHBOUR: 'it returns false'. Refute it at one input. -/
def isaSaysWrong : ChangeSpec := { name := "isaSays", fn := fun _ => fun
  | [d1, d2] => { results := [.lit (.bool false)], args := [d1, d2] }
  | _ => none }
def IsaSaysWrongFalsely : Prop := isaSaysRow.holds Tryd.pinned (OpenSpec.ofChange isaSaysWrong)

/-- 'corrallaw3.IsaNames': WHATEVER THE INPUT: true; the input reads as it did. -/
def isaNamesSpec : ChangeSpec := { name := "isaNames", fn := fun _ => fun
  | [d1, d2] => { results := [.lit (.bool true)], args := [d1, d2] }
  | _ => none }
def isaNamesRow : OpenClaim := { program := "ytohkplmfihhhnaadoor", sum := "7a36f4f020f10f391e19e963037a01a39681d3e163619aaf4bca38fbe35c4e75", func := "corral/corrallaw3.IsaNames", spec := "isaNames", unfollowed := true, recurses := true, named := ["corral/api.ErrKind", "corral/api.ErrRange", "corral/api.ErrShape", "corral/api.ErrMany", "corral/api.ErrPlace", "corral/api.ErrWord", "corral/api.ErrFull", "corral/api.ErrNone", "corral/api.ErrTrace", "corral/api.ErrOrder", "corral/api.ErrValue"], apart := false, laid := [("corral/api.ErrMany", laid_corral_api_ErrMany), ("corral/api.ErrKind", laid_corral_api_ErrKind), ("corral/api.ErrPlace", laid_corral_api_ErrPlace), ("corral/api.ErrShape", laid_corral_api_ErrShape), ("corral/api.ErrWord", laid_corral_api_ErrWord), ("corral/api.ErrRange", laid_corral_api_ErrRange), ("corral/api.ErrFull", laid_corral_api_ErrFull), ("corral/api.ErrNone", laid_corral_api_ErrNone), ("corral/api.ErrTrace", laid_corral_api_ErrTrace), ("corral/api.ErrOrder", laid_corral_api_ErrOrder), ("corral/api.ErrValue", laid_corral_api_ErrValue)] }
def IsaNamesSaid : Prop := isaNamesRow.holds Tryd.pinned (OpenSpec.ofChange isaNamesSpec)

/-- ITS FALSE NEIGHBOUR: 'it returns false'. Refute it at one input. -/
def isaNamesWrong : ChangeSpec := { name := "isaNames", fn := fun _ => fun
  | [d1, d2] => { results := [.lit (.bool false)], args := [d1, d2] }
  | _ => none }
def IsaNamesWrongFalsely : Prop := isaNamesRow.holds Tryd.pinned (OpenSpec.ofChange isaNamesWrong)

/-- 'corrallaw17.CacheSets': WHATEVER THE INPUT: true; the input reads as it did. -/
def cacheSetsSpec : ChangeSpec := { name := "cacheSets", fn := fun _ => fun
  | [d1, d2] => { results := [.lit (.bool true)], args := [d1, d2] }
  | _ => none }
def cacheSetsRow : OpenClaim := { program := "ytohkplmfihhhnaadoor", sum := "7a36f4f020f10f391e19e963037a01a39681d3e163619aaf4bca38fbe35c4e75", func := "corral/corrallaw17.CacheSets", spec := "cacheSets", unfollowed := true, recurses := true, named := ["corral/api.ErrRange", "corral/api.ErrKind", "corral/api.ErrFull", "corral/api.ErrMany", "corral/api.ErrPlace", "corral/api.ErrShape", "corral/api.ErrWord", "corral/api.ErrNone", "corral/api.ErrTrace", "corral/api.ErrOrder", "corral/api.ErrValue"], apart := false, laid := [("corral/api.ErrMany", laid_corral_api_ErrMany), ("corral/api.ErrKind", laid_corral_api_ErrKind), ("corral/api.ErrPlace", laid_corral_api_ErrPlace), ("corral/api.ErrShape", laid_corral_api_ErrShape), ("corral/api.ErrWord", laid_corral_api_ErrWord), ("corral/api.ErrRange", laid_corral_api_ErrRange), ("corral/api.ErrFull", laid_corral_api_ErrFull), ("corral/api.ErrNone", laid_corral_api_ErrNone), ("corral/api.ErrTrace", laid_corral_api_ErrTrace), ("corral/api.ErrOrder", laid_corral_api_ErrOrder), ("corral/api.ErrValue", laid_corral_api_ErrValue)] }
def CacheSetsSaid : Prop := cacheSetsRow.holds Tryd.pinned (OpenSpec.ofChange cacheSetsSpec)

/-- ITS FALSE NEIGHBOUR: 'it returns false'. Refute it at one input. -/
def cacheSetsWrong : ChangeSpec := { name := "cacheSets", fn := fun _ => fun
  | [d1, d2] => { results := [.lit (.bool false)], args := [d1, d2] }
  | _ => none }
def CacheSetsWrongFalsely : Prop := cacheSetsRow.holds Tryd.pinned (OpenSpec.ofChange cacheSetsWrong)

/-- 'corrallaw17.CacheOld': WHATEVER THE INPUT: true; the input reads as it did. -/
def cacheOldSpec : ChangeSpec := { name := "cacheOld", fn := fun _ => fun
  | [d1, d2] => { results := [.lit (.bool true)], args := [d1, d2] }
  | _ => none }
def cacheOldRow : OpenClaim := { program := "ytohkplmfihhhnaadoor", sum := "7a36f4f020f10f391e19e963037a01a39681d3e163619aaf4bca38fbe35c4e75", func := "corral/corrallaw17.CacheOld", spec := "cacheOld", unfollowed := true, recurses := true, named := ["corral/api.ErrRange", "corral/api.ErrKind", "corral/api.ErrFull", "corral/api.ErrMany", "corral/api.ErrPlace", "corral/api.ErrShape", "corral/api.ErrWord", "corral/api.ErrNone", "corral/api.ErrTrace", "corral/api.ErrOrder", "corral/api.ErrValue"], apart := false, laid := [("corral/api.ErrMany", laid_corral_api_ErrMany), ("corral/api.ErrKind", laid_corral_api_ErrKind), ("corral/api.ErrPlace", laid_corral_api_ErrPlace), ("corral/api.ErrShape", laid_corral_api_ErrShape), ("corral/api.ErrWord", laid_corral_api_ErrWord), ("corral/api.ErrRange", laid_corral_api_ErrRange), ("corral/api.ErrFull", laid_corral_api_ErrFull), ("corral/api.ErrNone", laid_corral_api_ErrNone), ("corral/api.ErrTrace", laid_corral_api_ErrTrace), ("corral/api.ErrOrder", laid_corral_api_ErrOrder), ("corral/api.ErrValue", laid_corral_api_ErrValue)] }
def CacheOldSaid : Prop := cacheOldRow.holds Tryd.pinned (OpenSpec.ofChange cacheOldSpec)

/-- ITS FALSE NEIGHBOUR: 'it returns false'. Refute it at one input. -/
def cacheOldWrong : ChangeSpec := { name := "cacheOld", fn := fun _ => fun
  | [d1, d2] => { results := [.lit (.bool false)], args := [d1, d2] }
  | _ => none }
def CacheOldWrongFalsely : Prop := cacheOldRow.holds Tryd.pinned (OpenSpec.ofChange cacheOldWrong)

/-- 'corrallaw17.CachePlays': WHATEVER THE INPUT: true; the input reads as it did. -/
def cachePlaysSpec : ChangeSpec := { name := "cachePlays", fn := fun _ => fun
  | [d1, d2, d3, d4, d5] => { results := [.lit (.bool true)], args := [d1, d2, d3, d4, d5] }
  | _ => none }
def cachePlaysRow : OpenClaim := { program := "ytohkplmfihhhnaadoor", sum := "7a36f4f020f10f391e19e963037a01a39681d3e163619aaf4bca38fbe35c4e75", func := "corral/corrallaw17.CachePlays", spec := "cachePlays", unfollowed := true, recurses := true, named := ["corral/api.ErrRange", "corral/api.ErrKind", "corral/api.ErrFull", "corral/api.ErrMany", "corral/api.ErrPlace", "corral/api.ErrShape", "corral/api.ErrWord", "corral/api.ErrNone", "corral/api.ErrTrace", "corral/api.ErrOrder", "corral/api.ErrValue"], apart := false, laid := [("corral/api.ErrMany", laid_corral_api_ErrMany), ("corral/api.ErrKind", laid_corral_api_ErrKind), ("corral/api.ErrPlace", laid_corral_api_ErrPlace), ("corral/api.ErrShape", laid_corral_api_ErrShape), ("corral/api.ErrWord", laid_corral_api_ErrWord), ("corral/api.ErrRange", laid_corral_api_ErrRange), ("corral/api.ErrFull", laid_corral_api_ErrFull), ("corral/api.ErrNone", laid_corral_api_ErrNone), ("corral/api.ErrTrace", laid_corral_api_ErrTrace), ("corral/api.ErrOrder", laid_corral_api_ErrOrder), ("corral/api.ErrValue", laid_corral_api_ErrValue)] }
def CachePlaysSaid : Prop := cachePlaysRow.holds Tryd.pinned (OpenSpec.ofChange cachePlaysSpec)

/-- ITS FALSE NEIGHBOUR: 'it returns false'. Refute it at one input. -/
def cachePlaysWrong : ChangeSpec := { name := "cachePlays", fn := fun _ => fun
  | [d1, d2, d3, d4, d5] => { results := [.lit (.bool false)], args := [d1, d2, d3, d4, d5] }
  | _ => none }
def CachePlaysWrongFalsely : Prop := cachePlaysRow.holds Tryd.pinned (OpenSpec.ofChange cachePlaysWrong)

/- THE SECOND FORM. 'bulk': how many values and letters a reading holds, each counted each time it is reached (what is shared counts as often as it is met; a slice's spare places count too). A statement '..UptoSaid' is the law's where the arguments, and the package variables that the reading takes, are together of bulk at most 1048576: NARROWER than '..Said'. Prove '..Said' where nothing that the law and all that it calls make is longer than what came in: it says more and counts as full. Else prove '..UptoSaid'. A law counts once. -/
mutual
def uptoBulk {H : Type} : DataW H → Nat
  | .lit (.string bytes) => bytes.length + 1
  | .lit _ => 1
  | .nil => 1
  | .ptr d => uptoBulk d + 1
  | .slice elems spare => uptoBulkAll elems + uptoBulkAll spare + 1
  | .agg parts => uptoBulkAll parts + 1
  | .iface _ d => uptoBulk d + 1
  | .map entries => uptoBulkEntries entries + 1
  | .held _ => 1
def uptoBulkAll {H : Type} : List (DataW H) → Nat
  | [] => 0
  | d :: r => uptoBulk d + uptoBulkAll r
def uptoBulkEntries {H : Type} : List (Lit × DataW H) → Nat
  | [] => 0
  | x :: r => uptoBulkEntry x + uptoBulkEntries r
def uptoBulkEntry {H : Type} : Lit × DataW H → Nat
  | (.string bytes, d) => bytes.length + uptoBulk d + 1
  | (_, d) => uptoBulk d + 1
 end
def uptoSmall : (H : Type) → List (DataW H) → Bool := fun _ ds => decide (uptoBulkAll ds ≤ 1048576)
def OpenSpec.upto (s : _root_.Go.ChangeSpec) : _root_.Go.OpenSpec := { _root_.Go.OpenSpec.ofChange s with cond := some uptoSmall }

/-- 'corrallaw3.IsaSays', WHERE WHAT IT READS IS OF BULK AT MOST 1048576: true; the input reads as it did. -/
def isaSaysUptoRow : OpenClaim := { program := "ytohkplmfihhhnaadoor", sum := "7a36f4f020f10f391e19e963037a01a39681d3e163619aaf4bca38fbe35c4e75", func := "corral/corrallaw3.IsaSays", spec := "isaSays", unfollowed := true, recurses := true, named := ["corral/api.ErrKind", "corral/api.ErrRange", "corral/api.ErrShape", "corral/api.ErrMany", "corral/api.ErrPlace", "corral/api.ErrWord", "corral/api.ErrFull", "corral/api.ErrNone", "corral/api.ErrTrace", "corral/api.ErrOrder", "corral/api.ErrValue"], apart := false, laid := [("corral/api.ErrMany", laid_corral_api_ErrMany), ("corral/api.ErrKind", laid_corral_api_ErrKind), ("corral/api.ErrPlace", laid_corral_api_ErrPlace), ("corral/api.ErrShape", laid_corral_api_ErrShape), ("corral/api.ErrWord", laid_corral_api_ErrWord), ("corral/api.ErrRange", laid_corral_api_ErrRange), ("corral/api.ErrFull", laid_corral_api_ErrFull), ("corral/api.ErrNone", laid_corral_api_ErrNone), ("corral/api.ErrTrace", laid_corral_api_ErrTrace), ("corral/api.ErrOrder", laid_corral_api_ErrOrder), ("corral/api.ErrValue", laid_corral_api_ErrValue)], narrowed := true }
def IsaSaysUptoSaid : Prop := isaSaysUptoRow.holds Tryd.pinned (OpenSpec.upto isaSaysSpec)

/-- 'corrallaw3.IsaNames', WHERE WHAT IT READS IS OF BULK AT MOST 1048576: true; the input reads as it did. -/
def isaNamesUptoRow : OpenClaim := { program := "ytohkplmfihhhnaadoor", sum := "7a36f4f020f10f391e19e963037a01a39681d3e163619aaf4bca38fbe35c4e75", func := "corral/corrallaw3.IsaNames", spec := "isaNames", unfollowed := true, recurses := true, named := ["corral/api.ErrKind", "corral/api.ErrRange", "corral/api.ErrShape", "corral/api.ErrMany", "corral/api.ErrPlace", "corral/api.ErrWord", "corral/api.ErrFull", "corral/api.ErrNone", "corral/api.ErrTrace", "corral/api.ErrOrder", "corral/api.ErrValue"], apart := false, laid := [("corral/api.ErrMany", laid_corral_api_ErrMany), ("corral/api.ErrKind", laid_corral_api_ErrKind), ("corral/api.ErrPlace", laid_corral_api_ErrPlace), ("corral/api.ErrShape", laid_corral_api_ErrShape), ("corral/api.ErrWord", laid_corral_api_ErrWord), ("corral/api.ErrRange", laid_corral_api_ErrRange), ("corral/api.ErrFull", laid_corral_api_ErrFull), ("corral/api.ErrNone", laid_corral_api_ErrNone), ("corral/api.ErrTrace", laid_corral_api_ErrTrace), ("corral/api.ErrOrder", laid_corral_api_ErrOrder), ("corral/api.ErrValue", laid_corral_api_ErrValue)], narrowed := true }
def IsaNamesUptoSaid : Prop := isaNamesUptoRow.holds Tryd.pinned (OpenSpec.upto isaNamesSpec)

/-- 'corrallaw17.CacheSets', WHERE WHAT IT READS IS OF BULK AT MOST 1048576: true; the input reads as it did. -/
def cacheSetsUptoRow : OpenClaim := { program := "ytohkplmfihhhnaadoor", sum := "7a36f4f020f10f391e19e963037a01a39681d3e163619aaf4bca38fbe35c4e75", func := "corral/corrallaw17.CacheSets", spec := "cacheSets", unfollowed := true, recurses := true, named := ["corral/api.ErrRange", "corral/api.ErrKind", "corral/api.ErrFull", "corral/api.ErrMany", "corral/api.ErrPlace", "corral/api.ErrShape", "corral/api.ErrWord", "corral/api.ErrNone", "corral/api.ErrTrace", "corral/api.ErrOrder", "corral/api.ErrValue"], apart := false, laid := [("corral/api.ErrMany", laid_corral_api_ErrMany), ("corral/api.ErrKind", laid_corral_api_ErrKind), ("corral/api.ErrPlace", laid_corral_api_ErrPlace), ("corral/api.ErrShape", laid_corral_api_ErrShape), ("corral/api.ErrWord", laid_corral_api_ErrWord), ("corral/api.ErrRange", laid_corral_api_ErrRange), ("corral/api.ErrFull", laid_corral_api_ErrFull), ("corral/api.ErrNone", laid_corral_api_ErrNone), ("corral/api.ErrTrace", laid_corral_api_ErrTrace), ("corral/api.ErrOrder", laid_corral_api_ErrOrder), ("corral/api.ErrValue", laid_corral_api_ErrValue)], narrowed := true }
def CacheSetsUptoSaid : Prop := cacheSetsUptoRow.holds Tryd.pinned (OpenSpec.upto cacheSetsSpec)

/-- 'corrallaw17.CacheOld', WHERE WHAT IT READS IS OF BULK AT MOST 1048576: true; the input reads as it did. -/
def cacheOldUptoRow : OpenClaim := { program := "ytohkplmfihhhnaadoor", sum := "7a36f4f020f10f391e19e963037a01a39681d3e163619aaf4bca38fbe35c4e75", func := "corral/corrallaw17.CacheOld", spec := "cacheOld", unfollowed := true, recurses := true, named := ["corral/api.ErrRange", "corral/api.ErrKind", "corral/api.ErrFull", "corral/api.ErrMany", "corral/api.ErrPlace", "corral/api.ErrShape", "corral/api.ErrWord", "corral/api.ErrNone", "corral/api.ErrTrace", "corral/api.ErrOrder", "corral/api.ErrValue"], apart := false, laid := [("corral/api.ErrMany", laid_corral_api_ErrMany), ("corral/api.ErrKind", laid_corral_api_ErrKind), ("corral/api.ErrPlace", laid_corral_api_ErrPlace), ("corral/api.ErrShape", laid_corral_api_ErrShape), ("corral/api.ErrWord", laid_corral_api_ErrWord), ("corral/api.ErrRange", laid_corral_api_ErrRange), ("corral/api.ErrFull", laid_corral_api_ErrFull), ("corral/api.ErrNone", laid_corral_api_ErrNone), ("corral/api.ErrTrace", laid_corral_api_ErrTrace), ("corral/api.ErrOrder", laid_corral_api_ErrOrder), ("corral/api.ErrValue", laid_corral_api_ErrValue)], narrowed := true }
def CacheOldUptoSaid : Prop := cacheOldUptoRow.holds Tryd.pinned (OpenSpec.upto cacheOldSpec)

/-- 'corrallaw17.CachePlays', WHERE WHAT IT READS IS OF BULK AT MOST 1048576: true; the input reads as it did. -/
def cachePlaysUptoRow : OpenClaim := { program := "ytohkplmfihhhnaadoor", sum := "7a36f4f020f10f391e19e963037a01a39681d3e163619aaf4bca38fbe35c4e75", func := "corral/corrallaw17.CachePlays", spec := "cachePlays", unfollowed := true, recurses := true, named := ["corral/api.ErrRange", "corral/api.ErrKind", "corral/api.ErrFull", "corral/api.ErrMany", "corral/api.ErrPlace", "corral/api.ErrShape", "corral/api.ErrWord", "corral/api.ErrNone", "corral/api.ErrTrace", "corral/api.ErrOrder", "corral/api.ErrValue"], apart := false, laid := [("corral/api.ErrMany", laid_corral_api_ErrMany), ("corral/api.ErrKind", laid_corral_api_ErrKind), ("corral/api.ErrPlace", laid_corral_api_ErrPlace), ("corral/api.ErrShape", laid_corral_api_ErrShape), ("corral/api.ErrWord", laid_corral_api_ErrWord), ("corral/api.ErrRange", laid_corral_api_ErrRange), ("corral/api.ErrFull", laid_corral_api_ErrFull), ("corral/api.ErrNone", laid_corral_api_ErrNone), ("corral/api.ErrTrace", laid_corral_api_ErrTrace), ("corral/api.ErrOrder", laid_corral_api_ErrOrder), ("corral/api.ErrValue", laid_corral_api_ErrValue)], narrowed := true }
def CachePlaysUptoSaid : Prop := cachePlaysUptoRow.holds Tryd.pinned (OpenSpec.upto cachePlaysSpec)

end Rows
end Go.Proofs.YtohkplmfihhhnaaDoor
