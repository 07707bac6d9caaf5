import Derived.Test.YtohkplmfihhhnaaDoorN
set_option linter.unusedVariables false
set_option maxRecDepth 100000
namespace Go.Ev
open Go
/-! ### corral/corrallaw17.CacheSets -/
def corrallaw17_CacheSets.H : Hints := { esc := [], cuts := [(6, [0], [(3, 51)]), (9, [0, 6], [(3, 51)]), (11, [0, 6, 8, 9], [(3, 51)]), (16, [0, 6, 8, 9, 10, 11, 12], [(3, 51)]), (20, [0, 6, 8, 9, 10, 11], [(3, 51)]), (22, [0, 6, 8, 9, 10, 14], [(3, 51)]), (24, [0, 6, 8, 9, 10, 14], [(3, 51)]), (12, [0, 6, 8, 9], [(3, 51)]), (29, [6, 8], [])] }
noncomputable def corrallaw17_CacheSets.T : Nat → List Item := stk Pr F.corrallaw17_CacheSets [(6, [1, 1, 1, 1]), (9, [1, 1, 1, 1, 1, 1]), (11, [1, 1, 1, 1, 1, 1, 1, 0, 1, 0, 0]), (16, [1, 1, 1, 1, 1, 1, 1, 0, 1, 0, 0, 1, 0, 0, 1, 1, 0, 1, 0, 0]), (20, [1, 1, 1, 1, 1, 1, 1, 0, 1, 0, 0, 1, 0, 0, 1, 1, 1]), (22, [1, 1, 1, 1, 1, 1, 1, 0, 1, 0, 0, 1, 0, 0, 1, 1, 1, 1, 1]), (24, [1, 1, 1, 1, 1, 1, 1, 0, 1, 0, 0, 1, 0, 0, 1, 1, 1, 1, 1, 1]), (12, [1, 1, 1, 1, 1, 1, 1, 0, 1, 0, 0, 1, 1]), (29, [1, 1, 1, 1, 1, 1, 1, 1])]
abbrev corrallaw17_CacheSets.R12 : Type := Option Addr → Nat → Nat → Option Addr → Option Addr → Nat → Nat → Int → Int → Int → Int → Int → Store → Prop
abbrev corrallaw17_CacheSets.R24 : Type := Option Addr → Nat → Nat → Option Addr → Option Addr → Nat → Nat → Int → Int → Bool → Int → Int → Int → Int → Store → Prop
abbrev corrallaw17_CacheSets.R22 : Type := Option Addr → Nat → Nat → Option Addr → Option Addr → Nat → Nat → Int → Int → Bool → Int → Int → Int → Int → Store → Prop
abbrev corrallaw17_CacheSets.R20 : Type := Option Addr → Nat → Nat → Option Addr → Option Addr → Nat → Nat → Int → Int → Int → Int → Int → Int → Int → Store → Prop
abbrev corrallaw17_CacheSets.R16 : Type := Option Addr → Nat → Nat → Option Addr → Option Addr → Nat → Nat → Int → Int → Int → Int → Int → Int → Int → Int → Store → Prop
abbrev corrallaw17_CacheSets.R29 : Type := Option Addr → Option Addr → Nat → Nat → Store → Prop
abbrev corrallaw17_CacheSets.R11 : Type := Option Addr → Nat → Nat → Option Addr → Option Addr → Nat → Nat → Int → Int → Int → Int → Int → Store → Prop
abbrev corrallaw17_CacheSets.R9 : Type := Option Addr → Nat → Nat → Option Addr → Int → Int → Int → Int → Store → Prop
abbrev corrallaw17_CacheSets.R6 : Type := Option Addr → Nat → Nat → Int → Int → Int → Int → Store → Prop
def corrallaw17_CacheSets.d12 (g : corrallaw17_CacheSets.R12) : List AV → List (List Value) → Store → Prop
  | [.v (.slice linesA linesN linesC), .v (.pointer cP), .v (.slice thereA thereN thereC), .v (.int .i64 i)], [[.int .u32 d0, .int .u32 d1, .int .u32 d2, .int .u32 d3]], σ => g linesA linesN linesC cP thereA thereN thereC i d0 d1 d2 d3 σ
  | _, _, _ => False
def corrallaw17_CacheSets.S12 (K : Value → Store → Prop) (linesA : Option Addr) (linesN linesC : Nat) (cP thereA : Option Addr) (thereN thereC : Nat) (i d0 d1 d2 d3 : Int) (σ : Store) : Prop := SndF Pr F.corrallaw17_CacheSets corrallaw17_CacheSets.H corrallaw17_CacheSets.T K 12 [.v (.slice linesA linesN linesC), .v (.pointer cP), .v (.slice thereA thereN thereC), .v (.int .i64 i)] [[.int .u32 d0, .int .u32 d1, .int .u32 d2, .int .u32 d3]] σ
def corrallaw17_CacheSets.j12 (K : Value → Store → Prop) (rr11 : corrallaw17_CacheSets.R11) (linesA : Option Addr) (linesN linesC : Nat) (cP thereA : Option Addr) (thereN thereC : Nat) (i d0 d1 d2 d3 : Int) (σ : Store) : Prop :=
  Hop (corrallaw17_CacheSets.T 11) (corrallaw17_CacheSets.T 11) (rr11 linesA linesN linesC cP thereA thereN thereC (IntKind.wrap .i64 (i + 1)) d0 d1 d2 d3 σ)
def corrallaw17_CacheSets.d24 (g : corrallaw17_CacheSets.R24) : List AV → List (List Value) → Store → Prop
  | [.v (.slice linesA linesN linesC), .v (.pointer cP), .v (.slice thereA thereN thereC), .v (.int .i64 i), .v (.int .i64 k), .v (.bool room)], [[.int .u32 d0, .int .u32 d1, .int .u32 d2, .int .u32 d3]], σ => g linesA linesN linesC cP thereA thereN thereC i k room d0 d1 d2 d3 σ
  | _, _, _ => False
def corrallaw17_CacheSets.S24 (K : Value → Store → Prop) (linesA : Option Addr) (linesN linesC : Nat) (cP thereA : Option Addr) (thereN thereC : Nat) (i k : Int) (room : Bool) (d0 d1 d2 d3 : Int) (σ : Store) : Prop := SndF Pr F.corrallaw17_CacheSets corrallaw17_CacheSets.H corrallaw17_CacheSets.T K 24 [.v (.slice linesA linesN linesC), .v (.pointer cP), .v (.slice thereA thereN thereC), .v (.int .i64 i), .v (.int .i64 k), .v (.bool room)] [[.int .u32 d0, .int .u32 d1, .int .u32 d2, .int .u32 d3]] σ
def corrallaw17_CacheSets.j24 (K : Value → Store → Prop) (rr11 : corrallaw17_CacheSets.R11) (linesA : Option Addr) (linesN linesC : Nat) (cP thereA : Option Addr) (thereN thereC : Nat) (i k : Int) (room : Bool) (d0 d1 d2 d3 : Int) (σ : Store) : Prop :=
  cond room
  (AppK 3 1 8 [.int .i64 0] σ thereA thereN thereC [.int .i64 k] 1 fun t95A t95N t95C σ_ =>
    Spec Pr F.corralref_Sorted [.slice t95A t95N t95C] σ_ fun v σ_1 => ∃ t96A : Option Addr, ∃ t96N : Nat, ∃ t96C : Nat, v = .slice t96A t96N t96C ∧
    Spec Pr F.cache_Cache_Find [.pointer cP, .int .i64 k] σ_1 fun v1 σ_2 => ∃ t100a0 : Int, ∃ t100a1 : Int, ∃ t100a2 : Int, ∃ t100a3 : Int, ∃ t100a4 : Int, ∃ t100a5 : Int, ∃ t100b : Bool, v1 = .tuple #[.agg #[.int .i64 t100a0, .int .i64 t100a1, .int .u32 t100a2, .int .u32 t100a3, .int .u32 t100a4, .int .u32 t100a5], .bool t100b] ∧
    cond (!t100b)
    (K (.bool false) σ_2)
    (cond (t100a1 != (IntKind.wrap .i64 (1 + (Int.tmod i 4))))
      (K (.bool false) σ_2)
      (Spec Pr F.corralref_SameLine [.agg #[.int .u32 t100a2, .int .u32 t100a3, .int .u32 t100a4, .int .u32 t100a5], .agg #[.int .u32 d0, .int .u32 d1, .int .u32 d2, .int .u32 d3]] σ_2 fun v2 σ_3 => ∃ t117 : Bool, v2 = .bool t117 ∧
        cond (!t117)
        (K (.bool false) σ_3)
        (Hop (corrallaw17_CacheSets.T 12) (corrallaw17_CacheSets.T 12) (corrallaw17_CacheSets.j12 K rr11 linesA linesN linesC cP t96A t96N t96C i d0 d1 d2 d3 σ_3)))))
  (Hop (corrallaw17_CacheSets.T 12) (corrallaw17_CacheSets.T 12) (corrallaw17_CacheSets.j12 K rr11 linesA linesN linesC cP thereA thereN thereC i d0 d1 d2 d3 σ))
def corrallaw17_CacheSets.d22 (g : corrallaw17_CacheSets.R22) : List AV → List (List Value) → Store → Prop
  | [.v (.slice linesA linesN linesC), .v (.pointer cP), .v (.slice thereA thereN thereC), .v (.int .i64 i), .v (.int .i64 k), .v (.bool room)], [[.int .u32 d0, .int .u32 d1, .int .u32 d2, .int .u32 d3]], σ => g linesA linesN linesC cP thereA thereN thereC i k room d0 d1 d2 d3 σ
  | _, _, _ => False
def corrallaw17_CacheSets.S22 (K : Value → Store → Prop) (linesA : Option Addr) (linesN linesC : Nat) (cP thereA : Option Addr) (thereN thereC : Nat) (i k : Int) (room : Bool) (d0 d1 d2 d3 : Int) (σ : Store) : Prop := SndF Pr F.corrallaw17_CacheSets corrallaw17_CacheSets.H corrallaw17_CacheSets.T K 22 [.v (.slice linesA linesN linesC), .v (.pointer cP), .v (.slice thereA thereN thereC), .v (.int .i64 i), .v (.int .i64 k), .v (.bool room)] [[.int .u32 d0, .int .u32 d1, .int .u32 d2, .int .u32 d3]] σ
def corrallaw17_CacheSets.j22 (K : Value → Store → Prop) (rr11 : corrallaw17_CacheSets.R11) (linesA : Option Addr) (linesN linesC : Nat) (cP thereA : Option Addr) (thereN thereC : Nat) (i k : Int) (room : Bool) (d0 d1 d2 d3 : Int) (σ : Store) : Prop :=
  Spec Pr F.cache_Cache_Room [.pointer cP, .int .i64 k] σ fun v σ_ => ∃ t75 : Bool, v = .bool t75 ∧
  cond (!(t75 == room))
  (K (.bool false) σ_)
  (Spec Pr F.cache_Cache_Put [.pointer cP, .agg #[.int .i64 k, .int .i64 (IntKind.wrap .i64 (1 + (Int.tmod i 4))), .int .u32 d0, .int .u32 d1, .int .u32 d2, .int .u32 d3]] σ_ fun v1 σ_1 => ∃ t86 : Value, v1 = t86 ∧
    IfaceNil t86 fun t87N =>
    cond (!(t87N == room))
    (K (.bool false) σ_1)
    (Hop (corrallaw17_CacheSets.T 24) (corrallaw17_CacheSets.T 24) (corrallaw17_CacheSets.j24 K rr11 linesA linesN linesC cP thereA thereN thereC i k room d0 d1 d2 d3 σ_1)))
def corrallaw17_CacheSets.d20 (g : corrallaw17_CacheSets.R20) : List AV → List (List Value) → Store → Prop
  | [.v (.slice linesA linesN linesC), .v (.pointer cP), .v (.slice thereA thereN thereC), .v (.int .i64 i), .v (.int .i64 k), .v (.int .i64 n_)], [[.int .u32 d0, .int .u32 d1, .int .u32 d2, .int .u32 d3]], σ => g linesA linesN linesC cP thereA thereN thereC i k n_ d0 d1 d2 d3 σ
  | _, _, _ => False
def corrallaw17_CacheSets.S20 (K : Value → Store → Prop) (linesA : Option Addr) (linesN linesC : Nat) (cP thereA : Option Addr) (thereN thereC : Nat) (i k n_ d0 d1 d2 d3 : Int) (σ : Store) : Prop := SndF Pr F.corrallaw17_CacheSets corrallaw17_CacheSets.H corrallaw17_CacheSets.T K 20 [.v (.slice linesA linesN linesC), .v (.pointer cP), .v (.slice thereA thereN thereC), .v (.int .i64 i), .v (.int .i64 k), .v (.int .i64 n_)] [[.int .u32 d0, .int .u32 d1, .int .u32 d2, .int .u32 d3]] σ
def corrallaw17_CacheSets.j20 (K : Value → Store → Prop) (rr11 : corrallaw17_CacheSets.R11) (linesA : Option Addr) (linesN linesC : Nat) (cP thereA : Option Addr) (thereN thereC : Nat) (i k n_ d0 d1 d2 d3 : Int) (σ : Store) : Prop :=
  Spec Pr F.corralref_Among [.slice thereA thereN thereC, .int .i64 k] σ fun v σ_ => ∃ t67 : Bool, v = .bool t67 ∧
  cond t67
  (Hop (corrallaw17_CacheSets.T 22) (corrallaw17_CacheSets.T 22) (corrallaw17_CacheSets.j22 K rr11 linesA linesN linesC cP thereA thereN thereC i k true d0 d1 d2 d3 σ_))
  (Hop (corrallaw17_CacheSets.T 22) (corrallaw17_CacheSets.T 22) (corrallaw17_CacheSets.j22 K rr11 linesA linesN linesC cP thereA thereN thereC i k (decide (n_ < 2)) d0 d1 d2 d3 σ_))
def corrallaw17_CacheSets.d16 (g : corrallaw17_CacheSets.R16) : List AV → List (List Value) → Store → Prop
  | [.v (.slice linesA linesN linesC), .v (.pointer cP), .v (.slice thereA thereN thereC), .v (.int .i64 i), .v (.int .i64 k), .v (.int .i64 n_), .v (.int .i64 j)], [[.int .u32 d0, .int .u32 d1, .int .u32 d2, .int .u32 d3]], σ => g linesA linesN linesC cP thereA thereN thereC i k n_ j d0 d1 d2 d3 σ
  | _, _, _ => False
def corrallaw17_CacheSets.S16 (K : Value → Store → Prop) (linesA : Option Addr) (linesN linesC : Nat) (cP thereA : Option Addr) (thereN thereC : Nat) (i k n_ j d0 d1 d2 d3 : Int) (σ : Store) : Prop := SndF Pr F.corrallaw17_CacheSets corrallaw17_CacheSets.H corrallaw17_CacheSets.T K 16 [.v (.slice linesA linesN linesC), .v (.pointer cP), .v (.slice thereA thereN thereC), .v (.int .i64 i), .v (.int .i64 k), .v (.int .i64 n_), .v (.int .i64 j)] [[.int .u32 d0, .int .u32 d1, .int .u32 d2, .int .u32 d3]] σ
def corrallaw17_CacheSets.b16 (K : Value → Store → Prop) (rr11 : corrallaw17_CacheSets.R11) (rr16 : corrallaw17_CacheSets.R16) (linesA : Option Addr) (linesN linesC : Nat) (cP thereA : Option Addr) (thereN thereC : Nat) (i k n_ j d0 d1 d2 d3 : Int) (σ : Store) : Prop :=
  cond (decide (j < ((thereN : Nat) : Int)))
  (Req (decide (0 ≤ j) && decide (j < ((thereN : Nat) : Int))) (
      PtrNN thereA fun t57B t57O =>
      ∃ t58 : Int, cellAt σ t57B (t57O + j.toNat * 1) = some (.int .i64 t58) ∧
      cond ((Int.tmod t58 4) == (Int.tmod k 4))
      (Hop (corrallaw17_CacheSets.T 16) (corrallaw17_CacheSets.T 16) (rr16 linesA linesN linesC cP thereA thereN thereC i k (IntKind.wrap .i64 (n_ + 1)) (IntKind.wrap .i64 (j + 1)) d0 d1 d2 d3 σ))
      (Hop (corrallaw17_CacheSets.T 16) (corrallaw17_CacheSets.T 16) (rr16 linesA linesN linesC cP thereA thereN thereC i k n_ (IntKind.wrap .i64 (j + 1)) d0 d1 d2 d3 σ))))
  (Hop (corrallaw17_CacheSets.T 20) (corrallaw17_CacheSets.T 20) (corrallaw17_CacheSets.j20 K rr11 linesA linesN linesC cP thereA thereN thereC i k n_ d0 d1 d2 d3 σ))
def corrallaw17_CacheSets.l16 (K : Value → Store → Prop) (rr11 : corrallaw17_CacheSets.R11) : Nat → corrallaw17_CacheSets.R16
  | 0, _, _, _, _, _, _, _, _, _, _, _, _, _, _, _, _ => False
  | n + 1, linesA, linesN, linesC, cP, thereA, thereN, thereC, i, k, n_, j, d0, d1, d2, d3, σ => corrallaw17_CacheSets.b16 K rr11 (corrallaw17_CacheSets.l16 K rr11 n) linesA linesN linesC cP thereA thereN thereC i k n_ j d0 d1 d2 d3 σ
def corrallaw17_CacheSets.d29 (g : corrallaw17_CacheSets.R29) : List AV → List (List Value) → Store → Prop
  | [.v (.pointer cP), .v (.slice thereA thereN thereC)], [], σ => g cP thereA thereN thereC σ
  | _, _, _ => False
def corrallaw17_CacheSets.S29 (K : Value → Store → Prop) (cP thereA : Option Addr) (thereN thereC : Nat) (σ : Store) : Prop := SndF Pr F.corrallaw17_CacheSets corrallaw17_CacheSets.H corrallaw17_CacheSets.T K 29 [.v (.pointer cP), .v (.slice thereA thereN thereC)] [] σ
def corrallaw17_CacheSets.j29 (K : Value → Store → Prop) (cP thereA : Option Addr) (thereN thereC : Nat) (σ : Store) : Prop :=
  Spec Pr F.cache_Cache_Len [.pointer cP] σ fun v σ_ => ∃ t121 : Int, v = .int .i64 t121 ∧
  K (.bool (t121 == ((thereN : Nat) : Int))) σ_
def corrallaw17_CacheSets.d11 (g : corrallaw17_CacheSets.R11) : List AV → List (List Value) → Store → Prop
  | [.v (.slice linesA linesN linesC), .v (.pointer cP), .v (.slice thereA thereN thereC), .v (.int .i64 i)], [[.int .u32 d0, .int .u32 d1, .int .u32 d2, .int .u32 d3]], σ => g linesA linesN linesC cP thereA thereN thereC i d0 d1 d2 d3 σ
  | _, _, _ => False
def corrallaw17_CacheSets.S11 (K : Value → Store → Prop) (linesA : Option Addr) (linesN linesC : Nat) (cP thereA : Option Addr) (thereN thereC : Nat) (i d0 d1 d2 d3 : Int) (σ : Store) : Prop := SndF Pr F.corrallaw17_CacheSets corrallaw17_CacheSets.H corrallaw17_CacheSets.T K 11 [.v (.slice linesA linesN linesC), .v (.pointer cP), .v (.slice thereA thereN thereC), .v (.int .i64 i)] [[.int .u32 d0, .int .u32 d1, .int .u32 d2, .int .u32 d3]] σ
def corrallaw17_CacheSets.b11 (K : Value → Store → Prop) (rr11 : corrallaw17_CacheSets.R11) (linesA : Option Addr) (linesN linesC : Nat) (cP thereA : Option Addr) (thereN thereC : Nat) (i d0 d1 d2 d3 : Int) (σ : Store) : Prop :=
  cond (decide (i < ((linesN : Nat) : Int)))
  (Req (decide (0 ≤ i) && decide (i < ((linesN : Nat) : Int))) (
      PtrNN linesA fun t46B t46O =>
      ∃ t47 : Int, cellAt σ t46B (t46O + i.toNat * 1) = some (.int .i64 t47) ∧
      Hop (corrallaw17_CacheSets.T 16) (corrallaw17_CacheSets.T 16) (∃ n : Nat, corrallaw17_CacheSets.l16 K rr11 n linesA linesN linesC cP thereA thereN thereC i (andI .i64 t47 15) 0 0 d0 d1 d2 d3 σ)))
  (Hop (corrallaw17_CacheSets.T 29) (corrallaw17_CacheSets.T 29) (corrallaw17_CacheSets.j29 K cP thereA thereN thereC σ))
def corrallaw17_CacheSets.l11 (K : Value → Store → Prop) : Nat → corrallaw17_CacheSets.R11
  | 0, _, _, _, _, _, _, _, _, _, _, _, _, _ => False
  | n + 1, linesA, linesN, linesC, cP, thereA, thereN, thereC, i, d0, d1, d2, d3, σ => corrallaw17_CacheSets.b11 K (corrallaw17_CacheSets.l11 K n) linesA linesN linesC cP thereA thereN thereC i d0 d1 d2 d3 σ
def corrallaw17_CacheSets.d9 (g : corrallaw17_CacheSets.R9) : List AV → List (List Value) → Store → Prop
  | [.v (.slice linesA linesN linesC), .v (.pointer cP)], [[.int .u32 d0, .int .u32 d1, .int .u32 d2, .int .u32 d3]], σ => g linesA linesN linesC cP d0 d1 d2 d3 σ
  | _, _, _ => False
def corrallaw17_CacheSets.S9 (K : Value → Store → Prop) (linesA : Option Addr) (linesN linesC : Nat) (cP : Option Addr) (d0 d1 d2 d3 : Int) (σ : Store) : Prop := SndF Pr F.corrallaw17_CacheSets corrallaw17_CacheSets.H corrallaw17_CacheSets.T K 9 [.v (.slice linesA linesN linesC), .v (.pointer cP)] [[.int .u32 d0, .int .u32 d1, .int .u32 d2, .int .u32 d3]] σ
def corrallaw17_CacheSets.j9 (K : Value → Store → Prop) (linesA : Option Addr) (linesN linesC : Nat) (cP : Option Addr) (d0 d1 d2 d3 : Int) (σ : Store) : Prop :=
  Hop (corrallaw17_CacheSets.T 11) (corrallaw17_CacheSets.T 11) (∃ n : Nat, corrallaw17_CacheSets.l11 K n linesA linesN linesC cP none 0 0 0 d0 d1 d2 d3 σ)
def corrallaw17_CacheSets.d6 (g : corrallaw17_CacheSets.R6) : List AV → List (List Value) → Store → Prop
  | [.v (.slice linesA linesN linesC)], [[.int .u32 d0, .int .u32 d1, .int .u32 d2, .int .u32 d3]], σ => g linesA linesN linesC d0 d1 d2 d3 σ
  | _, _, _ => False
def corrallaw17_CacheSets.S6 (K : Value → Store → Prop) (linesA : Option Addr) (linesN linesC : Nat) (d0 d1 d2 d3 : Int) (σ : Store) : Prop := SndF Pr F.corrallaw17_CacheSets corrallaw17_CacheSets.H corrallaw17_CacheSets.T K 6 [.v (.slice linesA linesN linesC)] [[.int .u32 d0, .int .u32 d1, .int .u32 d2, .int .u32 d3]] σ
def corrallaw17_CacheSets.j6 (K : Value → Store → Prop) (linesA : Option Addr) (linesN linesC : Nat) (d0 d1 d2 d3 : Int) (σ : Store) : Prop :=
  Spec Pr F.cache_New [.int .i64 4, .int .i64 2] σ fun v σ_ => ∃ t29aP : Option Addr, ∃ t29b : Value, v = .tuple #[.pointer t29aP, t29b] ∧
  cond t29aP.isNone
  (K (.bool false) σ_)
  (IfaceNil t29b fun t36N =>
    cond (!t36N)
    (K (.bool false) σ_)
    (Hop (corrallaw17_CacheSets.T 9) (corrallaw17_CacheSets.T 9) (corrallaw17_CacheSets.j9 K linesA linesN linesC t29aP d0 d1 d2 d3 σ_)))
def corrallaw17_CacheSets.m (K : Value → Store → Prop) (linesA : Option Addr) (linesN linesC : Nat) (d0 d1 d2 d3 : Int) (σ : Store) : Prop :=
  Spec Pr F.corrallaw17_first [] σ fun v σ_ => ∃ t17 : Bool, v = .bool t17 ∧
  cond (!t17)
  (K (.bool false) σ_)
  (cond (decide (((linesN : Nat) : Int) > 30))
    (K (.bool t17) σ_)
    (cond (!t17)
      (K (.bool t17) σ_)
      (Hop (corrallaw17_CacheSets.T 6) (corrallaw17_CacheSets.T 6) (corrallaw17_CacheSets.j6 K linesA linesN linesC d0 d1 d2 d3 σ_))))
theorem corrallaw17_CacheSets.d12_ok {K : Value → Store → Prop} {g : corrallaw17_CacheSets.R12} (hg : ∀ linesA linesN linesC cP thereA thereN thereC i d0 d1 d2 d3 σ, g linesA linesN linesC cP thereA thereN thereC i d0 d1 d2 d3 σ → corrallaw17_CacheSets.S12 K linesA linesN linesC cP thereA thereN thereC i d0 d1 d2 d3 σ) (vs : List AV) (bs : List (List Value)) (σ : Store) (h : corrallaw17_CacheSets.d12 g vs bs σ) : SndF Pr F.corrallaw17_CacheSets corrallaw17_CacheSets.H corrallaw17_CacheSets.T K 12 vs bs σ := by
  unfold corrallaw17_CacheSets.d12 at h
  split at h
  · exact hg _ _ _ _ _ _ _ _ _ _ _ _ _ h
  · exact h.elim
theorem corrallaw17_CacheSets.d24_ok {K : Value → Store → Prop} {g : corrallaw17_CacheSets.R24} (hg : ∀ linesA linesN linesC cP thereA thereN thereC i k room d0 d1 d2 d3 σ, g linesA linesN linesC cP thereA thereN thereC i k room d0 d1 d2 d3 σ → corrallaw17_CacheSets.S24 K linesA linesN linesC cP thereA thereN thereC i k room d0 d1 d2 d3 σ) (vs : List AV) (bs : List (List Value)) (σ : Store) (h : corrallaw17_CacheSets.d24 g vs bs σ) : SndF Pr F.corrallaw17_CacheSets corrallaw17_CacheSets.H corrallaw17_CacheSets.T K 24 vs bs σ := by
  unfold corrallaw17_CacheSets.d24 at h
  split at h
  · exact hg _ _ _ _ _ _ _ _ _ _ _ _ _ _ _ h
  · exact h.elim
theorem corrallaw17_CacheSets.d22_ok {K : Value → Store → Prop} {g : corrallaw17_CacheSets.R22} (hg : ∀ linesA linesN linesC cP thereA thereN thereC i k room d0 d1 d2 d3 σ, g linesA linesN linesC cP thereA thereN thereC i k room d0 d1 d2 d3 σ → corrallaw17_CacheSets.S22 K linesA linesN linesC cP thereA thereN thereC i k room d0 d1 d2 d3 σ) (vs : List AV) (bs : List (List Value)) (σ : Store) (h : corrallaw17_CacheSets.d22 g vs bs σ) : SndF Pr F.corrallaw17_CacheSets corrallaw17_CacheSets.H corrallaw17_CacheSets.T K 22 vs bs σ := by
  unfold corrallaw17_CacheSets.d22 at h
  split at h
  · exact hg _ _ _ _ _ _ _ _ _ _ _ _ _ _ _ h
  · exact h.elim
theorem corrallaw17_CacheSets.d20_ok {K : Value → Store → Prop} {g : corrallaw17_CacheSets.R20} (hg : ∀ linesA linesN linesC cP thereA thereN thereC i k n_ d0 d1 d2 d3 σ, g linesA linesN linesC cP thereA thereN thereC i k n_ d0 d1 d2 d3 σ → corrallaw17_CacheSets.S20 K linesA linesN linesC cP thereA thereN thereC i k n_ d0 d1 d2 d3 σ) (vs : List AV) (bs : List (List Value)) (σ : Store) (h : corrallaw17_CacheSets.d20 g vs bs σ) : SndF Pr F.corrallaw17_CacheSets corrallaw17_CacheSets.H corrallaw17_CacheSets.T K 20 vs bs σ := by
  unfold corrallaw17_CacheSets.d20 at h
  split at h
  · exact hg _ _ _ _ _ _ _ _ _ _ _ _ _ _ _ h
  · exact h.elim
theorem corrallaw17_CacheSets.d16_ok {K : Value → Store → Prop} {g : corrallaw17_CacheSets.R16} (hg : ∀ linesA linesN linesC cP thereA thereN thereC i k n_ j d0 d1 d2 d3 σ, g linesA linesN linesC cP thereA thereN thereC i k n_ j d0 d1 d2 d3 σ → corrallaw17_CacheSets.S16 K linesA linesN linesC cP thereA thereN thereC i k n_ j d0 d1 d2 d3 σ) (vs : List AV) (bs : List (List Value)) (σ : Store) (h : corrallaw17_CacheSets.d16 g vs bs σ) : SndF Pr F.corrallaw17_CacheSets corrallaw17_CacheSets.H corrallaw17_CacheSets.T K 16 vs bs σ := by
  unfold corrallaw17_CacheSets.d16 at h
  split at h
  · exact hg _ _ _ _ _ _ _ _ _ _ _ _ _ _ _ _ h
  · exact h.elim
theorem corrallaw17_CacheSets.d29_ok {K : Value → Store → Prop} {g : corrallaw17_CacheSets.R29} (hg : ∀ cP thereA thereN thereC σ, g cP thereA thereN thereC σ → corrallaw17_CacheSets.S29 K cP thereA thereN thereC σ) (vs : List AV) (bs : List (List Value)) (σ : Store) (h : corrallaw17_CacheSets.d29 g vs bs σ) : SndF Pr F.corrallaw17_CacheSets corrallaw17_CacheSets.H corrallaw17_CacheSets.T K 29 vs bs σ := by
  unfold corrallaw17_CacheSets.d29 at h
  split at h
  · exact hg _ _ _ _ _ h
  · exact h.elim
theorem corrallaw17_CacheSets.d11_ok {K : Value → Store → Prop} {g : corrallaw17_CacheSets.R11} (hg : ∀ linesA linesN linesC cP thereA thereN thereC i d0 d1 d2 d3 σ, g linesA linesN linesC cP thereA thereN thereC i d0 d1 d2 d3 σ → corrallaw17_CacheSets.S11 K linesA linesN linesC cP thereA thereN thereC i d0 d1 d2 d3 σ) (vs : List AV) (bs : List (List Value)) (σ : Store) (h : corrallaw17_CacheSets.d11 g vs bs σ) : SndF Pr F.corrallaw17_CacheSets corrallaw17_CacheSets.H corrallaw17_CacheSets.T K 11 vs bs σ := by
  unfold corrallaw17_CacheSets.d11 at h
  split at h
  · exact hg _ _ _ _ _ _ _ _ _ _ _ _ _ h
  · exact h.elim
theorem corrallaw17_CacheSets.d9_ok {K : Value → Store → Prop} {g : corrallaw17_CacheSets.R9} (hg : ∀ linesA linesN linesC cP d0 d1 d2 d3 σ, g linesA linesN linesC cP d0 d1 d2 d3 σ → corrallaw17_CacheSets.S9 K linesA linesN linesC cP d0 d1 d2 d3 σ) (vs : List AV) (bs : List (List Value)) (σ : Store) (h : corrallaw17_CacheSets.d9 g vs bs σ) : SndF Pr F.corrallaw17_CacheSets corrallaw17_CacheSets.H corrallaw17_CacheSets.T K 9 vs bs σ := by
  unfold corrallaw17_CacheSets.d9 at h
  split at h
  · exact hg _ _ _ _ _ _ _ _ _ h
  · exact h.elim
theorem corrallaw17_CacheSets.d6_ok {K : Value → Store → Prop} {g : corrallaw17_CacheSets.R6} (hg : ∀ linesA linesN linesC d0 d1 d2 d3 σ, g linesA linesN linesC d0 d1 d2 d3 σ → corrallaw17_CacheSets.S6 K linesA linesN linesC d0 d1 d2 d3 σ) (vs : List AV) (bs : List (List Value)) (σ : Store) (h : corrallaw17_CacheSets.d6 g vs bs σ) : SndF Pr F.corrallaw17_CacheSets corrallaw17_CacheSets.H corrallaw17_CacheSets.T K 6 vs bs σ := by
  unfold corrallaw17_CacheSets.d6 at h
  split at h
  · exact hg _ _ _ _ _ _ _ _ h
  · exact h.elim
noncomputable def corrallaw17_CacheSets.h12 (K : Value → Store → Prop) (rr11 : corrallaw17_CacheSets.R11) : Hand := hsel [(11, corrallaw17_CacheSets.d11 rr11)]
theorem corrallaw17_CacheSets.j12_eq (K : Value → Store → Prop) (rr11 : corrallaw17_CacheSets.R11) (linesA : Option Addr) (linesN linesC : Nat) (cP thereA : Option Addr) (thereN thereC : Nat) (i d0 d1 d2 d3 : Int) (σ : Store) : (seg Pr corrallaw17_CacheSets.H F.corrallaw17_CacheSets corrallaw17_CacheSets.T (corrallaw17_CacheSets.h12 K rr11) K (corrallaw17_CacheSets.T 12) (Ev.cutE corrallaw17_CacheSets.H 12 [.v (.slice linesA linesN linesC), .v (.pointer cP), .v (.slice thereA thereN thereC), .v (.int .i64 i)] [[.int .u32 d0, .int .u32 d1, .int .u32 d2, .int .u32 d3]]) σ) = corrallaw17_CacheSets.j12 K rr11 linesA linesN linesC cP thereA thereN thereC i d0 d1 d2 d3 σ := by kernel_rfl
theorem corrallaw17_CacheSets.j12_ok (K : Value → Store → Prop) (rr11 : corrallaw17_CacheSets.R11) (hh11 : ∀ linesA linesN linesC cP thereA thereN thereC i d0 d1 d2 d3 σ, rr11 linesA linesN linesC cP thereA thereN thereC i d0 d1 d2 d3 σ → corrallaw17_CacheSets.S11 K linesA linesN linesC cP thereA thereN thereC i d0 d1 d2 d3 σ) (linesA : Option Addr) (linesN linesC : Nat) (cP thereA : Option Addr) (thereN thereC : Nat) (i d0 d1 d2 d3 : Int) (σ : Store) (h : corrallaw17_CacheSets.j12 K rr11 linesA linesN linesC cP thereA thereN thereC i d0 d1 d2 d3 σ) : corrallaw17_CacheSets.S12 K linesA linesN linesC cP thereA thereN thereC i d0 d1 d2 d3 σ := by
  rw [← corrallaw17_CacheSets.j12_eq] at h
  exact seg_snd Pr_mixed (hsel_sound fun x hx => by
    simp only [List.mem_cons, List.not_mem_nil, or_false] at hx
    subst hx
    exact corrallaw17_CacheSets.d11_ok hh11) h
noncomputable def corrallaw17_CacheSets.h24 (K : Value → Store → Prop) (rr11 : corrallaw17_CacheSets.R11) : Hand := hsel [(12, corrallaw17_CacheSets.d12 (corrallaw17_CacheSets.j12 K rr11)), (11, corrallaw17_CacheSets.d11 rr11)]
theorem corrallaw17_CacheSets.j24_eq (K : Value → Store → Prop) (rr11 : corrallaw17_CacheSets.R11) (linesA : Option Addr) (linesN linesC : Nat) (cP thereA : Option Addr) (thereN thereC : Nat) (i k : Int) (room : Bool) (d0 d1 d2 d3 : Int) (σ : Store) : (seg Pr corrallaw17_CacheSets.H F.corrallaw17_CacheSets corrallaw17_CacheSets.T (corrallaw17_CacheSets.h24 K rr11) K (corrallaw17_CacheSets.T 24) (Ev.cutE corrallaw17_CacheSets.H 24 [.v (.slice linesA linesN linesC), .v (.pointer cP), .v (.slice thereA thereN thereC), .v (.int .i64 i), .v (.int .i64 k), .v (.bool room)] [[.int .u32 d0, .int .u32 d1, .int .u32 d2, .int .u32 d3]]) σ) = corrallaw17_CacheSets.j24 K rr11 linesA linesN linesC cP thereA thereN thereC i k room d0 d1 d2 d3 σ := by kernel_rfl
theorem corrallaw17_CacheSets.j24_ok (K : Value → Store → Prop) (rr11 : corrallaw17_CacheSets.R11) (hh11 : ∀ linesA linesN linesC cP thereA thereN thereC i d0 d1 d2 d3 σ, rr11 linesA linesN linesC cP thereA thereN thereC i d0 d1 d2 d3 σ → corrallaw17_CacheSets.S11 K linesA linesN linesC cP thereA thereN thereC i d0 d1 d2 d3 σ) (linesA : Option Addr) (linesN linesC : Nat) (cP thereA : Option Addr) (thereN thereC : Nat) (i k : Int) (room : Bool) (d0 d1 d2 d3 : Int) (σ : Store) (h : corrallaw17_CacheSets.j24 K rr11 linesA linesN linesC cP thereA thereN thereC i k room d0 d1 d2 d3 σ) : corrallaw17_CacheSets.S24 K linesA linesN linesC cP thereA thereN thereC i k room d0 d1 d2 d3 σ := by
  rw [← corrallaw17_CacheSets.j24_eq] at h
  exact seg_snd Pr_mixed (hsel_sound fun x hx => by
    simp only [List.mem_cons, List.not_mem_nil, or_false] at hx
    rcases hx with rfl | rfl
    · exact corrallaw17_CacheSets.d12_ok fun _ _ _ _ _ _ _ _ _ _ _ _ _ h => corrallaw17_CacheSets.j12_ok K rr11 hh11 _ _ _ _ _ _ _ _ _ _ _ _ _ h
    · exact corrallaw17_CacheSets.d11_ok hh11) h
noncomputable def corrallaw17_CacheSets.h22 (K : Value → Store → Prop) (rr11 : corrallaw17_CacheSets.R11) : Hand := hsel [(24, corrallaw17_CacheSets.d24 (corrallaw17_CacheSets.j24 K rr11)), (11, corrallaw17_CacheSets.d11 rr11)]
theorem corrallaw17_CacheSets.j22_eq (K : Value → Store → Prop) (rr11 : corrallaw17_CacheSets.R11) (linesA : Option Addr) (linesN linesC : Nat) (cP thereA : Option Addr) (thereN thereC : Nat) (i k : Int) (room : Bool) (d0 d1 d2 d3 : Int) (σ : Store) : (seg Pr corrallaw17_CacheSets.H F.corrallaw17_CacheSets corrallaw17_CacheSets.T (corrallaw17_CacheSets.h22 K rr11) K (corrallaw17_CacheSets.T 22) (Ev.cutE corrallaw17_CacheSets.H 22 [.v (.slice linesA linesN linesC), .v (.pointer cP), .v (.slice thereA thereN thereC), .v (.int .i64 i), .v (.int .i64 k), .v (.bool room)] [[.int .u32 d0, .int .u32 d1, .int .u32 d2, .int .u32 d3]]) σ) = corrallaw17_CacheSets.j22 K rr11 linesA linesN linesC cP thereA thereN thereC i k room d0 d1 d2 d3 σ := by kernel_rfl
theorem corrallaw17_CacheSets.j22_ok (K : Value → Store → Prop) (rr11 : corrallaw17_CacheSets.R11) (hh11 : ∀ linesA linesN linesC cP thereA thereN thereC i d0 d1 d2 d3 σ, rr11 linesA linesN linesC cP thereA thereN thereC i d0 d1 d2 d3 σ → corrallaw17_CacheSets.S11 K linesA linesN linesC cP thereA thereN thereC i d0 d1 d2 d3 σ) (linesA : Option Addr) (linesN linesC : Nat) (cP thereA : Option Addr) (thereN thereC : Nat) (i k : Int) (room : Bool) (d0 d1 d2 d3 : Int) (σ : Store) (h : corrallaw17_CacheSets.j22 K rr11 linesA linesN linesC cP thereA thereN thereC i k room d0 d1 d2 d3 σ) : corrallaw17_CacheSets.S22 K linesA linesN linesC cP thereA thereN thereC i k room d0 d1 d2 d3 σ := by
  rw [← corrallaw17_CacheSets.j22_eq] at h
  exact seg_snd Pr_mixed (hsel_sound fun x hx => by
    simp only [List.mem_cons, List.not_mem_nil, or_false] at hx
    rcases hx with rfl | rfl
    · exact corrallaw17_CacheSets.d24_ok fun _ _ _ _ _ _ _ _ _ _ _ _ _ _ _ h => corrallaw17_CacheSets.j24_ok K rr11 hh11 _ _ _ _ _ _ _ _ _ _ _ _ _ _ _ h
    · exact corrallaw17_CacheSets.d11_ok hh11) h
noncomputable def corrallaw17_CacheSets.h20 (K : Value → Store → Prop) (rr11 : corrallaw17_CacheSets.R11) : Hand := hsel [(22, corrallaw17_CacheSets.d22 (corrallaw17_CacheSets.j22 K rr11)), (11, corrallaw17_CacheSets.d11 rr11)]
theorem corrallaw17_CacheSets.j20_eq (K : Value → Store → Prop) (rr11 : corrallaw17_CacheSets.R11) (linesA : Option Addr) (linesN linesC : Nat) (cP thereA : Option Addr) (thereN thereC : Nat) (i k n_ d0 d1 d2 d3 : Int) (σ : Store) : (seg Pr corrallaw17_CacheSets.H F.corrallaw17_CacheSets corrallaw17_CacheSets.T (corrallaw17_CacheSets.h20 K rr11) K (corrallaw17_CacheSets.T 20) (Ev.cutE corrallaw17_CacheSets.H 20 [.v (.slice linesA linesN linesC), .v (.pointer cP), .v (.slice thereA thereN thereC), .v (.int .i64 i), .v (.int .i64 k), .v (.int .i64 n_)] [[.int .u32 d0, .int .u32 d1, .int .u32 d2, .int .u32 d3]]) σ) = corrallaw17_CacheSets.j20 K rr11 linesA linesN linesC cP thereA thereN thereC i k n_ d0 d1 d2 d3 σ := by kernel_rfl
theorem corrallaw17_CacheSets.j20_ok (K : Value → Store → Prop) (rr11 : corrallaw17_CacheSets.R11) (hh11 : ∀ linesA linesN linesC cP thereA thereN thereC i d0 d1 d2 d3 σ, rr11 linesA linesN linesC cP thereA thereN thereC i d0 d1 d2 d3 σ → corrallaw17_CacheSets.S11 K linesA linesN linesC cP thereA thereN thereC i d0 d1 d2 d3 σ) (linesA : Option Addr) (linesN linesC : Nat) (cP thereA : Option Addr) (thereN thereC : Nat) (i k n_ d0 d1 d2 d3 : Int) (σ : Store) (h : corrallaw17_CacheSets.j20 K rr11 linesA linesN linesC cP thereA thereN thereC i k n_ d0 d1 d2 d3 σ) : corrallaw17_CacheSets.S20 K linesA linesN linesC cP thereA thereN thereC i k n_ d0 d1 d2 d3 σ := by
  rw [← corrallaw17_CacheSets.j20_eq] at h
  exact seg_snd Pr_mixed (hsel_sound fun x hx => by
    simp only [List.mem_cons, List.not_mem_nil, or_false] at hx
    rcases hx with rfl | rfl
    · exact corrallaw17_CacheSets.d22_ok fun _ _ _ _ _ _ _ _ _ _ _ _ _ _ _ h => corrallaw17_CacheSets.j22_ok K rr11 hh11 _ _ _ _ _ _ _ _ _ _ _ _ _ _ _ h
    · exact corrallaw17_CacheSets.d11_ok hh11) h
noncomputable def corrallaw17_CacheSets.h16 (K : Value → Store → Prop) (rr11 : corrallaw17_CacheSets.R11) (rr16 : corrallaw17_CacheSets.R16) : Hand := hsel [(20, corrallaw17_CacheSets.d20 (corrallaw17_CacheSets.j20 K rr11)), (11, corrallaw17_CacheSets.d11 rr11), (16, corrallaw17_CacheSets.d16 rr16)]
theorem corrallaw17_CacheSets.b16_eq (K : Value → Store → Prop) (rr11 : corrallaw17_CacheSets.R11) (rr16 : corrallaw17_CacheSets.R16) (linesA : Option Addr) (linesN linesC : Nat) (cP thereA : Option Addr) (thereN thereC : Nat) (i k n_ j d0 d1 d2 d3 : Int) (σ : Store) : (seg Pr corrallaw17_CacheSets.H F.corrallaw17_CacheSets corrallaw17_CacheSets.T (corrallaw17_CacheSets.h16 K rr11 rr16) K (corrallaw17_CacheSets.T 16) (Ev.cutE corrallaw17_CacheSets.H 16 [.v (.slice linesA linesN linesC), .v (.pointer cP), .v (.slice thereA thereN thereC), .v (.int .i64 i), .v (.int .i64 k), .v (.int .i64 n_), .v (.int .i64 j)] [[.int .u32 d0, .int .u32 d1, .int .u32 d2, .int .u32 d3]]) σ) = corrallaw17_CacheSets.b16 K rr11 rr16 linesA linesN linesC cP thereA thereN thereC i k n_ j d0 d1 d2 d3 σ := by kernel_rfl
theorem corrallaw17_CacheSets.b16_ok (K : Value → Store → Prop) (rr11 : corrallaw17_CacheSets.R11) (hh11 : ∀ linesA linesN linesC cP thereA thereN thereC i d0 d1 d2 d3 σ, rr11 linesA linesN linesC cP thereA thereN thereC i d0 d1 d2 d3 σ → corrallaw17_CacheSets.S11 K linesA linesN linesC cP thereA thereN thereC i d0 d1 d2 d3 σ) (rr16 : corrallaw17_CacheSets.R16) (hh16 : ∀ linesA linesN linesC cP thereA thereN thereC i k n_ j d0 d1 d2 d3 σ, rr16 linesA linesN linesC cP thereA thereN thereC i k n_ j d0 d1 d2 d3 σ → corrallaw17_CacheSets.S16 K linesA linesN linesC cP thereA thereN thereC i k n_ j d0 d1 d2 d3 σ) (linesA : Option Addr) (linesN linesC : Nat) (cP thereA : Option Addr) (thereN thereC : Nat) (i k n_ j d0 d1 d2 d3 : Int) (σ : Store) (h : corrallaw17_CacheSets.b16 K rr11 rr16 linesA linesN linesC cP thereA thereN thereC i k n_ j d0 d1 d2 d3 σ) : corrallaw17_CacheSets.S16 K linesA linesN linesC cP thereA thereN thereC i k n_ j d0 d1 d2 d3 σ := by
  rw [← corrallaw17_CacheSets.b16_eq] at h
  exact seg_snd Pr_mixed (hsel_sound fun x hx => by
    simp only [List.mem_cons, List.not_mem_nil, or_false] at hx
    rcases hx with rfl | rfl | rfl
    · exact corrallaw17_CacheSets.d20_ok fun _ _ _ _ _ _ _ _ _ _ _ _ _ _ _ h => corrallaw17_CacheSets.j20_ok K rr11 hh11 _ _ _ _ _ _ _ _ _ _ _ _ _ _ _ h
    · exact corrallaw17_CacheSets.d11_ok hh11
    · exact corrallaw17_CacheSets.d16_ok hh16) h
theorem corrallaw17_CacheSets.l16_ok (K : Value → Store → Prop) (rr11 : corrallaw17_CacheSets.R11) (hh11 : ∀ linesA linesN linesC cP thereA thereN thereC i d0 d1 d2 d3 σ, rr11 linesA linesN linesC cP thereA thereN thereC i d0 d1 d2 d3 σ → corrallaw17_CacheSets.S11 K linesA linesN linesC cP thereA thereN thereC i d0 d1 d2 d3 σ) : ∀ (n : Nat) (linesA : Option Addr) (linesN linesC : Nat) (cP thereA : Option Addr) (thereN thereC : Nat) (i k n_ j d0 d1 d2 d3 : Int) (σ : Store), corrallaw17_CacheSets.l16 K rr11 n linesA linesN linesC cP thereA thereN thereC i k n_ j d0 d1 d2 d3 σ → corrallaw17_CacheSets.S16 K linesA linesN linesC cP thereA thereN thereC i k n_ j d0 d1 d2 d3 σ
  | 0, _, _, _, _, _, _, _, _, _, _, _, _, _, _, _, _, h => h.elim
  | n + 1, _, _, _, _, _, _, _, _, _, _, _, _, _, _, _, _, h => corrallaw17_CacheSets.b16_ok K rr11 hh11 (corrallaw17_CacheSets.l16 K rr11 n) (corrallaw17_CacheSets.l16_ok K rr11 hh11 n) _ _ _ _ _ _ _ _ _ _ _ _ _ _ _ _ h
noncomputable def corrallaw17_CacheSets.h29 (K : Value → Store → Prop) : Hand := hsel []
theorem corrallaw17_CacheSets.j29_eq (K : Value → Store → Prop) (cP thereA : Option Addr) (thereN thereC : Nat) (σ : Store) : (seg Pr corrallaw17_CacheSets.H F.corrallaw17_CacheSets corrallaw17_CacheSets.T (corrallaw17_CacheSets.h29 K ) K (corrallaw17_CacheSets.T 29) (Ev.cutE corrallaw17_CacheSets.H 29 [.v (.pointer cP), .v (.slice thereA thereN thereC)] []) σ) = corrallaw17_CacheSets.j29 K cP thereA thereN thereC σ := by kernel_rfl
theorem corrallaw17_CacheSets.j29_ok (K : Value → Store → Prop) (cP thereA : Option Addr) (thereN thereC : Nat) (σ : Store) (h : corrallaw17_CacheSets.j29 K cP thereA thereN thereC σ) : corrallaw17_CacheSets.S29 K cP thereA thereN thereC σ := by
  rw [← corrallaw17_CacheSets.j29_eq] at h
  exact seg_snd Pr_mixed (hsel_sound fun x hx => by
    cases hx) h
noncomputable def corrallaw17_CacheSets.h11 (K : Value → Store → Prop) (rr11 : corrallaw17_CacheSets.R11) : Hand := hsel [(16, corrallaw17_CacheSets.d16 fun linesA linesN linesC cP thereA thereN thereC i k n_ j d0 d1 d2 d3 σ => ∃ n : Nat, corrallaw17_CacheSets.l16 K rr11 n linesA linesN linesC cP thereA thereN thereC i k n_ j d0 d1 d2 d3 σ), (29, corrallaw17_CacheSets.d29 (corrallaw17_CacheSets.j29 K )), (11, corrallaw17_CacheSets.d11 rr11)]
theorem corrallaw17_CacheSets.b11_eq (K : Value → Store → Prop) (rr11 : corrallaw17_CacheSets.R11) (linesA : Option Addr) (linesN linesC : Nat) (cP thereA : Option Addr) (thereN thereC : Nat) (i d0 d1 d2 d3 : Int) (σ : Store) : (seg Pr corrallaw17_CacheSets.H F.corrallaw17_CacheSets corrallaw17_CacheSets.T (corrallaw17_CacheSets.h11 K rr11) K (corrallaw17_CacheSets.T 11) (Ev.cutE corrallaw17_CacheSets.H 11 [.v (.slice linesA linesN linesC), .v (.pointer cP), .v (.slice thereA thereN thereC), .v (.int .i64 i)] [[.int .u32 d0, .int .u32 d1, .int .u32 d2, .int .u32 d3]]) σ) = corrallaw17_CacheSets.b11 K rr11 linesA linesN linesC cP thereA thereN thereC i d0 d1 d2 d3 σ := by kernel_rfl
theorem corrallaw17_CacheSets.b11_ok (K : Value → Store → Prop) (rr11 : corrallaw17_CacheSets.R11) (hh11 : ∀ linesA linesN linesC cP thereA thereN thereC i d0 d1 d2 d3 σ, rr11 linesA linesN linesC cP thereA thereN thereC i d0 d1 d2 d3 σ → corrallaw17_CacheSets.S11 K linesA linesN linesC cP thereA thereN thereC i d0 d1 d2 d3 σ) (linesA : Option Addr) (linesN linesC : Nat) (cP thereA : Option Addr) (thereN thereC : Nat) (i d0 d1 d2 d3 : Int) (σ : Store) (h : corrallaw17_CacheSets.b11 K rr11 linesA linesN linesC cP thereA thereN thereC i d0 d1 d2 d3 σ) : corrallaw17_CacheSets.S11 K linesA linesN linesC cP thereA thereN thereC i d0 d1 d2 d3 σ := by
  rw [← corrallaw17_CacheSets.b11_eq] at h
  exact seg_snd Pr_mixed (hsel_sound fun x hx => by
    simp only [List.mem_cons, List.not_mem_nil, or_false] at hx
    rcases hx with rfl | rfl | rfl
    · exact corrallaw17_CacheSets.d16_ok fun _ _ _ _ _ _ _ _ _ _ _ _ _ _ _ _ ⟨n, h⟩ => corrallaw17_CacheSets.l16_ok K rr11 hh11 n _ _ _ _ _ _ _ _ _ _ _ _ _ _ _ _ h
    · exact corrallaw17_CacheSets.d29_ok fun _ _ _ _ _ h => corrallaw17_CacheSets.j29_ok K _ _ _ _ _ h
    · exact corrallaw17_CacheSets.d11_ok hh11) h
theorem corrallaw17_CacheSets.l11_ok (K : Value → Store → Prop) : ∀ (n : Nat) (linesA : Option Addr) (linesN linesC : Nat) (cP thereA : Option Addr) (thereN thereC : Nat) (i d0 d1 d2 d3 : Int) (σ : Store), corrallaw17_CacheSets.l11 K n linesA linesN linesC cP thereA thereN thereC i d0 d1 d2 d3 σ → corrallaw17_CacheSets.S11 K linesA linesN linesC cP thereA thereN thereC i d0 d1 d2 d3 σ
  | 0, _, _, _, _, _, _, _, _, _, _, _, _, _, h => h.elim
  | n + 1, _, _, _, _, _, _, _, _, _, _, _, _, _, h => corrallaw17_CacheSets.b11_ok K (corrallaw17_CacheSets.l11 K n) (corrallaw17_CacheSets.l11_ok K n) _ _ _ _ _ _ _ _ _ _ _ _ _ h
noncomputable def corrallaw17_CacheSets.h9 (K : Value → Store → Prop) : Hand := hsel [(11, corrallaw17_CacheSets.d11 fun linesA linesN linesC cP thereA thereN thereC i d0 d1 d2 d3 σ => ∃ n : Nat, corrallaw17_CacheSets.l11 K n linesA linesN linesC cP thereA thereN thereC i d0 d1 d2 d3 σ)]
theorem corrallaw17_CacheSets.j9_eq (K : Value → Store → Prop) (linesA : Option Addr) (linesN linesC : Nat) (cP : Option Addr) (d0 d1 d2 d3 : Int) (σ : Store) : (seg Pr corrallaw17_CacheSets.H F.corrallaw17_CacheSets corrallaw17_CacheSets.T (corrallaw17_CacheSets.h9 K ) K (corrallaw17_CacheSets.T 9) (Ev.cutE corrallaw17_CacheSets.H 9 [.v (.slice linesA linesN linesC), .v (.pointer cP)] [[.int .u32 d0, .int .u32 d1, .int .u32 d2, .int .u32 d3]]) σ) = corrallaw17_CacheSets.j9 K linesA linesN linesC cP d0 d1 d2 d3 σ := by kernel_rfl
theorem corrallaw17_CacheSets.j9_ok (K : Value → Store → Prop) (linesA : Option Addr) (linesN linesC : Nat) (cP : Option Addr) (d0 d1 d2 d3 : Int) (σ : Store) (h : corrallaw17_CacheSets.j9 K linesA linesN linesC cP d0 d1 d2 d3 σ) : corrallaw17_CacheSets.S9 K linesA linesN linesC cP d0 d1 d2 d3 σ := by
  rw [← corrallaw17_CacheSets.j9_eq] at h
  exact seg_snd Pr_mixed (hsel_sound fun x hx => by
    simp only [List.mem_cons, List.not_mem_nil, or_false] at hx
    subst hx
    exact corrallaw17_CacheSets.d11_ok fun _ _ _ _ _ _ _ _ _ _ _ _ _ ⟨n, h⟩ => corrallaw17_CacheSets.l11_ok K n _ _ _ _ _ _ _ _ _ _ _ _ _ h) h
noncomputable def corrallaw17_CacheSets.h6 (K : Value → Store → Prop) : Hand := hsel [(9, corrallaw17_CacheSets.d9 (corrallaw17_CacheSets.j9 K ))]
theorem corrallaw17_CacheSets.j6_eq (K : Value → Store → Prop) (linesA : Option Addr) (linesN linesC : Nat) (d0 d1 d2 d3 : Int) (σ : Store) : (seg Pr corrallaw17_CacheSets.H F.corrallaw17_CacheSets corrallaw17_CacheSets.T (corrallaw17_CacheSets.h6 K ) K (corrallaw17_CacheSets.T 6) (Ev.cutE corrallaw17_CacheSets.H 6 [.v (.slice linesA linesN linesC)] [[.int .u32 d0, .int .u32 d1, .int .u32 d2, .int .u32 d3]]) σ) = corrallaw17_CacheSets.j6 K linesA linesN linesC d0 d1 d2 d3 σ := by kernel_rfl
theorem corrallaw17_CacheSets.j6_ok (K : Value → Store → Prop) (linesA : Option Addr) (linesN linesC : Nat) (d0 d1 d2 d3 : Int) (σ : Store) (h : corrallaw17_CacheSets.j6 K linesA linesN linesC d0 d1 d2 d3 σ) : corrallaw17_CacheSets.S6 K linesA linesN linesC d0 d1 d2 d3 σ := by
  rw [← corrallaw17_CacheSets.j6_eq] at h
  exact seg_snd Pr_mixed (hsel_sound fun x hx => by
    simp only [List.mem_cons, List.not_mem_nil, or_false] at hx
    subst hx
    exact corrallaw17_CacheSets.d9_ok fun _ _ _ _ _ _ _ _ _ h => corrallaw17_CacheSets.j9_ok K _ _ _ _ _ _ _ _ _ h) h
noncomputable def corrallaw17_CacheSets.h (K : Value → Store → Prop) : Hand := hsel [(6, corrallaw17_CacheSets.d6 (corrallaw17_CacheSets.j6 K ))]
theorem corrallaw17_CacheSets.m_eq (K : Value → Store → Prop) (linesA : Option Addr) (linesN linesC : Nat) (d0 d1 d2 d3 : Int) (σ : Store) : (segF Pr corrallaw17_CacheSets.H F.corrallaw17_CacheSets corrallaw17_CacheSets.T (corrallaw17_CacheSets.h K) K [.slice linesA linesN linesC, .agg #[.int .u32 d0, .int .u32 d1, .int .u32 d2, .int .u32 d3]] σ) = corrallaw17_CacheSets.m K linesA linesN linesC d0 d1 d2 d3 σ := by kernel_rfl
theorem corrallaw17_CacheSets.ok {K : Value → Store → Prop} {linesA : Option Addr} {linesN linesC : Nat} {d0 d1 d2 d3 : Int} {σ : Store} (h : corrallaw17_CacheSets.m K linesA linesN linesC d0 d1 d2 d3 σ) : Spec Pr F.corrallaw17_CacheSets [.slice linesA linesN linesC, .agg #[.int .u32 d0, .int .u32 d1, .int .u32 d2, .int .u32 d3]] σ K := by
  rw [← corrallaw17_CacheSets.m_eq] at h
  exact segF_spec Pr_mixed (hsel_sound fun x hx => by
    simp only [List.mem_cons, List.not_mem_nil, or_false] at hx
    subst hx
    exact corrallaw17_CacheSets.d6_ok fun _ _ _ _ _ _ _ _ h => corrallaw17_CacheSets.j6_ok K _ _ _ _ _ _ _ _ h) h

/-! ### corral/corrallaw17.CacheOld -/
def corrallaw17_CacheOld.H : Hints := { esc := [], cuts := [(7, [0, 1], []), (10, [0, 1, 6], []), (12, [0, 1, 6, 8, 9], []), (17, [0, 1, 6, 8], []), (18, [0, 1, 6, 8, 10], []), (24, [0, 6, 8], []), (25, [0, 6, 8, 12], []), (32, [0, 6, 8, 12, 15, 16], [(13, 59)]), (37, [0, 6, 8, 12], [(13, 59)]), (26, [0, 6, 8, 12], []), (39, [6], [])] }
noncomputable def corrallaw17_CacheOld.T : Nat → List Item := stk Pr F.corrallaw17_CacheOld [(7, [1, 1, 1, 1, 1]), (10, [1, 1, 1, 1, 1, 1, 1]), (12, [1, 1, 1, 1, 1, 1, 1, 1, 0, 1, 0, 0]), (17, [1, 1, 1, 1, 1, 1, 1, 1, 1]), (18, [1, 1, 1, 1, 1, 1, 1, 1, 1, 0, 1, 0, 0]), (24, [1, 1, 1, 1, 1, 1, 1, 1, 1, 1]), (25, [1, 1, 1, 1, 1, 1, 1, 1, 1, 1, 0, 1, 0, 0]), (32, [1, 1, 1, 1, 1, 1, 1, 1, 1, 1, 0, 1, 0, 0, 1, 0, 0, 1, 1, 1, 0, 1, 0, 0]), (37, [1, 1, 1, 1, 1, 1, 1, 1, 1, 1, 0, 1, 0, 0, 1, 0, 0, 1, 1, 1, 1]), (26, [1, 1, 1, 1, 1, 1, 1, 1, 1, 1, 0, 1, 0, 0, 1, 1]), (39, [1, 1, 1, 1, 1, 1, 1, 1, 1, 1, 1])]
abbrev corrallaw17_CacheOld.R26 : Type := Int → Option Addr → Option Addr → Nat → Nat → Int → Store → Prop
abbrev corrallaw17_CacheOld.R37 : Type := Int → Option Addr → Option Addr → Nat → Nat → Int → Int → Int → Int → Int → Int → Int → Store → Prop
abbrev corrallaw17_CacheOld.R32 : Type := Int → Option Addr → Option Addr → Nat → Nat → Int → Int → Int → Int → Int → Int → Int → Int → Int → Store → Prop
abbrev corrallaw17_CacheOld.R39 : Type := Option Addr → Store → Prop
abbrev corrallaw17_CacheOld.R25 : Type := Int → Option Addr → Option Addr → Nat → Nat → Int → Store → Prop
abbrev corrallaw17_CacheOld.R24 : Type := Int → Option Addr → Option Addr → Nat → Nat → Store → Prop
abbrev corrallaw17_CacheOld.R18 : Type := Int → Option Addr → Nat → Nat → Option Addr → Option Addr → Nat → Nat → Int → Store → Prop
abbrev corrallaw17_CacheOld.R17 : Type := Int → Option Addr → Nat → Nat → Option Addr → Option Addr → Nat → Nat → Store → Prop
abbrev corrallaw17_CacheOld.R12 : Type := Int → Option Addr → Nat → Nat → Option Addr → Option Addr → Nat → Nat → Int → Store → Prop
abbrev corrallaw17_CacheOld.R10 : Type := Int → Option Addr → Nat → Nat → Option Addr → Store → Prop
abbrev corrallaw17_CacheOld.R7 : Type := Int → Option Addr → Nat → Nat → Store → Prop
def corrallaw17_CacheOld.d26 (g : corrallaw17_CacheOld.R26) : List AV → List (List Value) → Store → Prop
  | [.v (.int .i64 ways), .v (.pointer cP), .v (.slice lastA lastN lastC), .v (.int .i64 n_)], [], σ => g ways cP lastA lastN lastC n_ σ
  | _, _, _ => False
def corrallaw17_CacheOld.S26 (K : Value → Store → Prop) (ways : Int) (cP lastA : Option Addr) (lastN lastC : Nat) (n_ : Int) (σ : Store) : Prop := SndF Pr F.corrallaw17_CacheOld corrallaw17_CacheOld.H corrallaw17_CacheOld.T K 26 [.v (.int .i64 ways), .v (.pointer cP), .v (.slice lastA lastN lastC), .v (.int .i64 n_)] [] σ
def corrallaw17_CacheOld.j26 (K : Value → Store → Prop) (rr25 : corrallaw17_CacheOld.R25) (ways : Int) (cP lastA : Option Addr) (lastN lastC : Nat) (n_ : Int) (σ : Store) : Prop :=
  Hop (corrallaw17_CacheOld.T 25) (corrallaw17_CacheOld.T 25) (rr25 ways cP lastA lastN lastC (IntKind.wrap .i64 (n_ + 1)) σ)
def corrallaw17_CacheOld.d37 (g : corrallaw17_CacheOld.R37) : List AV → List (List Value) → Store → Prop
  | [.v (.int .i64 ways), .v (.pointer cP), .v (.slice lastA lastN lastC), .v (.int .i64 n_)], [[.int .i64 v0, .int .i64 v1, .int .u32 v2, .int .u32 v3, .int .u32 v4, .int .u32 v5]], σ => g ways cP lastA lastN lastC n_ v0 v1 v2 v3 v4 v5 σ
  | _, _, _ => False
def corrallaw17_CacheOld.S37 (K : Value → Store → Prop) (ways : Int) (cP lastA : Option Addr) (lastN lastC : Nat) (n_ v0 v1 v2 v3 v4 v5 : Int) (σ : Store) : Prop := SndF Pr F.corrallaw17_CacheOld corrallaw17_CacheOld.H corrallaw17_CacheOld.T K 37 [.v (.int .i64 ways), .v (.pointer cP), .v (.slice lastA lastN lastC), .v (.int .i64 n_)] [[.int .i64 v0, .int .i64 v1, .int .u32 v2, .int .u32 v3, .int .u32 v4, .int .u32 v5]] σ
def corrallaw17_CacheOld.j37 (K : Value → Store → Prop) (rr25 : corrallaw17_CacheOld.R25) (ways : Int) (cP lastA : Option Addr) (lastN lastC : Nat) (n_ v0 v1 v2 v3 v4 v5 : Int) (σ : Store) : Prop :=
  Spec Pr F.cache_Cache_Drop [.pointer cP, .int .i64 v0] σ fun v σ_ => ∃ t130 : Bool, v = .bool t130 ∧
  cond (!t130)
  (K (.bool false) σ_)
  (Hop (corrallaw17_CacheOld.T 26) (corrallaw17_CacheOld.T 26) (corrallaw17_CacheOld.j26 K rr25 ways cP lastA lastN lastC n_ σ_))
def corrallaw17_CacheOld.d32 (g : corrallaw17_CacheOld.R32) : List AV → List (List Value) → Store → Prop
  | [.v (.int .i64 ways), .v (.pointer cP), .v (.slice lastA lastN lastC), .v (.int .i64 n_), .v (.int .i64 k), .v (.int .i64 i)], [[.int .i64 v0, .int .i64 v1, .int .u32 v2, .int .u32 v3, .int .u32 v4, .int .u32 v5]], σ => g ways cP lastA lastN lastC n_ k i v0 v1 v2 v3 v4 v5 σ
  | _, _, _ => False
def corrallaw17_CacheOld.S32 (K : Value → Store → Prop) (ways : Int) (cP lastA : Option Addr) (lastN lastC : Nat) (n_ k i v0 v1 v2 v3 v4 v5 : Int) (σ : Store) : Prop := SndF Pr F.corrallaw17_CacheOld corrallaw17_CacheOld.H corrallaw17_CacheOld.T K 32 [.v (.int .i64 ways), .v (.pointer cP), .v (.slice lastA lastN lastC), .v (.int .i64 n_), .v (.int .i64 k), .v (.int .i64 i)] [[.int .i64 v0, .int .i64 v1, .int .u32 v2, .int .u32 v3, .int .u32 v4, .int .u32 v5]] σ
def corrallaw17_CacheOld.b32 (K : Value → Store → Prop) (rr25 : corrallaw17_CacheOld.R25) (rr32 : corrallaw17_CacheOld.R32) (ways : Int) (cP lastA : Option Addr) (lastN lastC : Nat) (n_ k i v0 v1 v2 v3 v4 v5 : Int) (σ : Store) : Prop :=
  cond (decide (i < ways))
  (Spec Pr F.cache_Cache_Find [.pointer cP, .int .i64 (IntKind.wrap .i64 (4 * i))] σ fun v σ_ => ∃ t112a0 : Int, ∃ t112a1 : Int, ∃ t112a2 : Int, ∃ t112a3 : Int, ∃ t112a4 : Int, ∃ t112a5 : Int, ∃ t112b : Bool, v = .tuple #[.agg #[.int .i64 t112a0, .int .i64 t112a1, .int .u32 t112a2, .int .u32 t112a3, .int .u32 t112a4, .int .u32 t112a5], .bool t112b] ∧
    cond t112b
    (Req (decide (0 ≤ i) && decide (i < ((lastN : Nat) : Int))) (
        PtrNN lastA fun t119B t119O =>
        ∃ t120 : Int, cellAt σ_ t119B (t119O + i.toNat * 1) = some (.int .i64 t120) ∧
        Req (decide (0 ≤ k) && decide (k < ((lastN : Nat) : Int))) (
          PtrNN lastA fun t123B t123O =>
          ∃ t124 : Int, cellAt σ_ t123B (t123O + k.toNat * 1) = some (.int .i64 t124) ∧
          cond (decide (t120 < t124))
          (K (.bool false) σ_)
          (Hop (corrallaw17_CacheOld.T 32) (corrallaw17_CacheOld.T 32) (rr32 ways cP lastA lastN lastC n_ k (IntKind.wrap .i64 (i + 1)) v0 v1 v2 v3 v4 v5 σ_)))))
    (Hop (corrallaw17_CacheOld.T 32) (corrallaw17_CacheOld.T 32) (rr32 ways cP lastA lastN lastC n_ k (IntKind.wrap .i64 (i + 1)) v0 v1 v2 v3 v4 v5 σ_)))
  (Hop (corrallaw17_CacheOld.T 37) (corrallaw17_CacheOld.T 37) (corrallaw17_CacheOld.j37 K rr25 ways cP lastA lastN lastC n_ v0 v1 v2 v3 v4 v5 σ))
def corrallaw17_CacheOld.l32 (K : Value → Store → Prop) (rr25 : corrallaw17_CacheOld.R25) : Nat → corrallaw17_CacheOld.R32
  | 0, _, _, _, _, _, _, _, _, _, _, _, _, _, _, _ => False
  | n + 1, ways, cP, lastA, lastN, lastC, n_, k, i, v0, v1, v2, v3, v4, v5, σ => corrallaw17_CacheOld.b32 K rr25 (corrallaw17_CacheOld.l32 K rr25 n) ways cP lastA lastN lastC n_ k i v0 v1 v2 v3 v4 v5 σ
def corrallaw17_CacheOld.d39 (g : corrallaw17_CacheOld.R39) : List AV → List (List Value) → Store → Prop
  | [.v (.pointer cP)], [], σ => g cP σ
  | _, _, _ => False
def corrallaw17_CacheOld.S39 (K : Value → Store → Prop) (cP : Option Addr) (σ : Store) : Prop := SndF Pr F.corrallaw17_CacheOld corrallaw17_CacheOld.H corrallaw17_CacheOld.T K 39 [.v (.pointer cP)] [] σ
def corrallaw17_CacheOld.j39 (K : Value → Store → Prop) (cP : Option Addr) (σ : Store) : Prop :=
  Spec Pr F.cache_Cache_Victim [.pointer cP, .int .i64 0, .slice none 0 0] σ fun v σ_ => ∃ t134a0 : Int, ∃ t134a1 : Int, ∃ t134a2 : Int, ∃ t134a3 : Int, ∃ t134a4 : Int, ∃ t134a5 : Int, ∃ t134b : Bool, v = .tuple #[.agg #[.int .i64 t134a0, .int .i64 t134a1, .int .u32 t134a2, .int .u32 t134a3, .int .u32 t134a4, .int .u32 t134a5], .bool t134b] ∧
  cond (!t134b)
  (Spec Pr F.cache_Cache_Len [.pointer cP] σ_ fun v1 σ_1 => ∃ t141 : Int, v1 = .int .i64 t141 ∧
    K (.bool (t141 == 0)) σ_1)
  (K (.bool false) σ_)
def corrallaw17_CacheOld.d25 (g : corrallaw17_CacheOld.R25) : List AV → List (List Value) → Store → Prop
  | [.v (.int .i64 ways), .v (.pointer cP), .v (.slice lastA lastN lastC), .v (.int .i64 n_)], [], σ => g ways cP lastA lastN lastC n_ σ
  | _, _, _ => False
def corrallaw17_CacheOld.S25 (K : Value → Store → Prop) (ways : Int) (cP lastA : Option Addr) (lastN lastC : Nat) (n_ : Int) (σ : Store) : Prop := SndF Pr F.corrallaw17_CacheOld corrallaw17_CacheOld.H corrallaw17_CacheOld.T K 25 [.v (.int .i64 ways), .v (.pointer cP), .v (.slice lastA lastN lastC), .v (.int .i64 n_)] [] σ
def corrallaw17_CacheOld.b25 (K : Value → Store → Prop) (rr25 : corrallaw17_CacheOld.R25) (ways : Int) (cP lastA : Option Addr) (lastN lastC : Nat) (n_ : Int) (σ : Store) : Prop :=
  cond (decide (n_ < ways))
  (Spec Pr F.cache_Cache_Victim [.pointer cP, .int .i64 (IntKind.wrap .i64 (4 * ways)), .slice none 0 0] σ fun v σ_ => ∃ t95a0 : Int, ∃ t95a1 : Int, ∃ t95a2 : Int, ∃ t95a3 : Int, ∃ t95a4 : Int, ∃ t95a5 : Int, ∃ t95b : Bool, v = .tuple #[.agg #[.int .i64 t95a0, .int .i64 t95a1, .int .u32 t95a2, .int .u32 t95a3, .int .u32 t95a4, .int .u32 t95a5], .bool t95b] ∧
    cond (!t95b)
    (K (.bool false) σ_)
    (Hop (corrallaw17_CacheOld.T 32) (corrallaw17_CacheOld.T 32) (∃ n : Nat, corrallaw17_CacheOld.l32 K rr25 n ways cP lastA lastN lastC n_ (quoI .i64 t95a0 4) 0 t95a0 t95a1 t95a2 t95a3 t95a4 t95a5 σ_)))
  (Hop (corrallaw17_CacheOld.T 39) (corrallaw17_CacheOld.T 39) (corrallaw17_CacheOld.j39 K cP σ))
def corrallaw17_CacheOld.l25 (K : Value → Store → Prop) : Nat → corrallaw17_CacheOld.R25
  | 0, _, _, _, _, _, _, _ => False
  | n + 1, ways, cP, lastA, lastN, lastC, n_, σ => corrallaw17_CacheOld.b25 K (corrallaw17_CacheOld.l25 K n) ways cP lastA lastN lastC n_ σ
def corrallaw17_CacheOld.d24 (g : corrallaw17_CacheOld.R24) : List AV → List (List Value) → Store → Prop
  | [.v (.int .i64 ways), .v (.pointer cP), .v (.slice lastA lastN lastC)], [], σ => g ways cP lastA lastN lastC σ
  | _, _, _ => False
def corrallaw17_CacheOld.S24 (K : Value → Store → Prop) (ways : Int) (cP lastA : Option Addr) (lastN lastC : Nat) (σ : Store) : Prop := SndF Pr F.corrallaw17_CacheOld corrallaw17_CacheOld.H corrallaw17_CacheOld.T K 24 [.v (.int .i64 ways), .v (.pointer cP), .v (.slice lastA lastN lastC)] [] σ
def corrallaw17_CacheOld.j24 (K : Value → Store → Prop) (ways : Int) (cP lastA : Option Addr) (lastN lastC : Nat) (σ : Store) : Prop :=
  Hop (corrallaw17_CacheOld.T 25) (corrallaw17_CacheOld.T 25) (∃ n : Nat, corrallaw17_CacheOld.l25 K n ways cP lastA lastN lastC 0 σ)
def corrallaw17_CacheOld.d18 (g : corrallaw17_CacheOld.R18) : List AV → List (List Value) → Store → Prop
  | [.v (.int .i64 ways), .v (.slice usesA usesN usesC), .v (.pointer cP), .v (.slice lastA lastN lastC), .v (.int .i64 i)], [], σ => g ways usesA usesN usesC cP lastA lastN lastC i σ
  | _, _, _ => False
def corrallaw17_CacheOld.S18 (K : Value → Store → Prop) (ways : Int) (usesA : Option Addr) (usesN usesC : Nat) (cP lastA : Option Addr) (lastN lastC : Nat) (i : Int) (σ : Store) : Prop := SndF Pr F.corrallaw17_CacheOld corrallaw17_CacheOld.H corrallaw17_CacheOld.T K 18 [.v (.int .i64 ways), .v (.slice usesA usesN usesC), .v (.pointer cP), .v (.slice lastA lastN lastC), .v (.int .i64 i)] [] σ
def corrallaw17_CacheOld.b18 (K : Value → Store → Prop) (rr18 : corrallaw17_CacheOld.R18) (ways : Int) (usesA : Option Addr) (usesN usesC : Nat) (cP lastA : Option Addr) (lastN lastC : Nat) (i : Int) (σ : Store) : Prop :=
  cond (decide (i < ((usesN : Nat) : Int)))
  (Req (decide (0 ≤ i) && decide (i < ((usesN : Nat) : Int))) (
      PtrNN usesA fun t71B t71O =>
      ∃ t72 : Int, cellAt σ t71B (t71O + i.toNat * 1) = some (.int .i64 t72) ∧
      Spec Pr F.corralworld_Number [.int .i64 t72, .int .i64 ways] σ fun v σ_ => ∃ t74 : Int, v = .int .i64 t74 ∧
      Spec Pr F.cache_Cache_Use [.pointer cP, .int .i64 (IntKind.wrap .i64 (4 * t74))] σ_ fun v1 σ_1 => ∃ t78 : Bool, v1 = .bool t78 ∧
      cond (!t78)
      (K (.bool false) σ_1)
      (Req (decide (0 ≤ t74) && decide (t74 < ((lastN : Nat) : Int))) (
          PtrNN lastA fun t85B t85O =>
          StoreK σ_1 t85B (t85O + t74.toNat * 1) 1 [.int .i64 (IntKind.wrap .i64 (ways + i))] fun σ_2 =>
          Hop (corrallaw17_CacheOld.T 18) (corrallaw17_CacheOld.T 18) (rr18 ways usesA usesN usesC cP lastA lastN lastC (IntKind.wrap .i64 (i + 1)) σ_2)))))
  (Hop (corrallaw17_CacheOld.T 24) (corrallaw17_CacheOld.T 24) (corrallaw17_CacheOld.j24 K ways cP lastA lastN lastC σ))
def corrallaw17_CacheOld.l18 (K : Value → Store → Prop) : Nat → corrallaw17_CacheOld.R18
  | 0, _, _, _, _, _, _, _, _, _, _ => False
  | n + 1, ways, usesA, usesN, usesC, cP, lastA, lastN, lastC, i, σ => corrallaw17_CacheOld.b18 K (corrallaw17_CacheOld.l18 K n) ways usesA usesN usesC cP lastA lastN lastC i σ
def corrallaw17_CacheOld.d17 (g : corrallaw17_CacheOld.R17) : List AV → List (List Value) → Store → Prop
  | [.v (.int .i64 ways), .v (.slice usesA usesN usesC), .v (.pointer cP), .v (.slice lastA lastN lastC)], [], σ => g ways usesA usesN usesC cP lastA lastN lastC σ
  | _, _, _ => False
def corrallaw17_CacheOld.S17 (K : Value → Store → Prop) (ways : Int) (usesA : Option Addr) (usesN usesC : Nat) (cP lastA : Option Addr) (lastN lastC : Nat) (σ : Store) : Prop := SndF Pr F.corrallaw17_CacheOld corrallaw17_CacheOld.H corrallaw17_CacheOld.T K 17 [.v (.int .i64 ways), .v (.slice usesA usesN usesC), .v (.pointer cP), .v (.slice lastA lastN lastC)] [] σ
def corrallaw17_CacheOld.j17 (K : Value → Store → Prop) (ways : Int) (usesA : Option Addr) (usesN usesC : Nat) (cP lastA : Option Addr) (lastN lastC : Nat) (σ : Store) : Prop :=
  Hop (corrallaw17_CacheOld.T 18) (corrallaw17_CacheOld.T 18) (∃ n : Nat, corrallaw17_CacheOld.l18 K n ways usesA usesN usesC cP lastA lastN lastC 0 σ)
def corrallaw17_CacheOld.d12 (g : corrallaw17_CacheOld.R12) : List AV → List (List Value) → Store → Prop
  | [.v (.int .i64 ways), .v (.slice usesA usesN usesC), .v (.pointer cP), .v (.slice lastA lastN lastC), .v (.int .i64 i)], [], σ => g ways usesA usesN usesC cP lastA lastN lastC i σ
  | _, _, _ => False
def corrallaw17_CacheOld.S12 (K : Value → Store → Prop) (ways : Int) (usesA : Option Addr) (usesN usesC : Nat) (cP lastA : Option Addr) (lastN lastC : Nat) (i : Int) (σ : Store) : Prop := SndF Pr F.corrallaw17_CacheOld corrallaw17_CacheOld.H corrallaw17_CacheOld.T K 12 [.v (.int .i64 ways), .v (.slice usesA usesN usesC), .v (.pointer cP), .v (.slice lastA lastN lastC), .v (.int .i64 i)] [] σ
def corrallaw17_CacheOld.b12 (K : Value → Store → Prop) (rr12 : corrallaw17_CacheOld.R12) (ways : Int) (usesA : Option Addr) (usesN usesC : Nat) (cP lastA : Option Addr) (lastN lastC : Nat) (i : Int) (σ : Store) : Prop :=
  cond (decide (i < ways))
  (Spec Pr F.cache_Cache_Put [.pointer cP, .agg #[.int .i64 (IntKind.wrap .i64 (4 * i)), .int .i64 1, .int .u32 0, .int .u32 0, .int .u32 0, .int .u32 0]] σ fun v σ_ => ∃ t57 : Value, v = t57 ∧
    IfaceNil t57 fun t58N =>
    cond (!t58N)
    (K (.bool false) σ_)
    (Req (decide (0 ≤ i) && decide (i < ((lastN : Nat) : Int))) (
        PtrNN lastA fun t62B t62O =>
        StoreK σ_ t62B (t62O + i.toNat * 1) 1 [.int .i64 i] fun σ_1 =>
        Hop (corrallaw17_CacheOld.T 12) (corrallaw17_CacheOld.T 12) (rr12 ways usesA usesN usesC cP lastA lastN lastC (IntKind.wrap .i64 (i + 1)) σ_1))))
  (Hop (corrallaw17_CacheOld.T 17) (corrallaw17_CacheOld.T 17) (corrallaw17_CacheOld.j17 K ways usesA usesN usesC cP lastA lastN lastC σ))
def corrallaw17_CacheOld.l12 (K : Value → Store → Prop) : Nat → corrallaw17_CacheOld.R12
  | 0, _, _, _, _, _, _, _, _, _, _ => False
  | n + 1, ways, usesA, usesN, usesC, cP, lastA, lastN, lastC, i, σ => corrallaw17_CacheOld.b12 K (corrallaw17_CacheOld.l12 K n) ways usesA usesN usesC cP lastA lastN lastC i σ
def corrallaw17_CacheOld.d10 (g : corrallaw17_CacheOld.R10) : List AV → List (List Value) → Store → Prop
  | [.v (.int .i64 ways), .v (.slice usesA usesN usesC), .v (.pointer cP)], [], σ => g ways usesA usesN usesC cP σ
  | _, _, _ => False
def corrallaw17_CacheOld.S10 (K : Value → Store → Prop) (ways : Int) (usesA : Option Addr) (usesN usesC : Nat) (cP : Option Addr) (σ : Store) : Prop := SndF Pr F.corrallaw17_CacheOld corrallaw17_CacheOld.H corrallaw17_CacheOld.T K 10 [.v (.int .i64 ways), .v (.slice usesA usesN usesC), .v (.pointer cP)] [] σ
def corrallaw17_CacheOld.j10 (K : Value → Store → Prop) (ways : Int) (usesA : Option Addr) (usesN usesC : Nat) (cP : Option Addr) (σ : Store) : Prop :=
  MakeK 3 8 [.int .i64 0] σ ways ways fun t47B t47N t47C σ_ =>
  Hop (corrallaw17_CacheOld.T 12) (corrallaw17_CacheOld.T 12) (∃ n : Nat, corrallaw17_CacheOld.l12 K n ways usesA usesN usesC cP (some ⟨t47B, 0, none⟩) t47N t47C 0 σ_)
def corrallaw17_CacheOld.d7 (g : corrallaw17_CacheOld.R7) : List AV → List (List Value) → Store → Prop
  | [.v (.int .i64 ways), .v (.slice usesA usesN usesC)], [], σ => g ways usesA usesN usesC σ
  | _, _, _ => False
def corrallaw17_CacheOld.S7 (K : Value → Store → Prop) (ways : Int) (usesA : Option Addr) (usesN usesC : Nat) (σ : Store) : Prop := SndF Pr F.corrallaw17_CacheOld corrallaw17_CacheOld.H corrallaw17_CacheOld.T K 7 [.v (.int .i64 ways), .v (.slice usesA usesN usesC)] [] σ
def corrallaw17_CacheOld.j7 (K : Value → Store → Prop) (ways : Int) (usesA : Option Addr) (usesN usesC : Nat) (σ : Store) : Prop :=
  Spec Pr F.cache_New [.int .i64 4, .int .i64 ways] σ fun v σ_ => ∃ t37aP : Option Addr, ∃ t37b : Value, v = .tuple #[.pointer t37aP, t37b] ∧
  cond t37aP.isNone
  (K (.bool false) σ_)
  (IfaceNil t37b fun t44N =>
    cond (!t44N)
    (K (.bool false) σ_)
    (Hop (corrallaw17_CacheOld.T 10) (corrallaw17_CacheOld.T 10) (corrallaw17_CacheOld.j10 K ways usesA usesN usesC t37aP σ_)))
def corrallaw17_CacheOld.m (K : Value → Store → Prop) (ways : Int) (usesA : Option Addr) (usesN usesC : Nat) (σ : Store) : Prop :=
  Spec Pr F.corrallaw17_first [] σ fun v σ_ => ∃ t21 : Bool, v = .bool t21 ∧
  cond (!t21)
  (K (.bool false) σ_)
  (Spec Pr F.corralworld_Number [.int .i64 ways, .int .i64 8] σ_ fun v1 σ_1 => ∃ t25 : Int, v1 = .int .i64 t25 ∧
    cond (decide (((usesN : Nat) : Int) > 60))
    (K (.bool t21) σ_1)
    (cond (!t21)
      (K (.bool t21) σ_1)
      (Hop (corrallaw17_CacheOld.T 7) (corrallaw17_CacheOld.T 7) (corrallaw17_CacheOld.j7 K (IntKind.wrap .i64 (t25 + 1)) usesA usesN usesC σ_1))))
theorem corrallaw17_CacheOld.d26_ok {K : Value → Store → Prop} {g : corrallaw17_CacheOld.R26} (hg : ∀ ways cP lastA lastN lastC n_ σ, g ways cP lastA lastN lastC n_ σ → corrallaw17_CacheOld.S26 K ways cP lastA lastN lastC n_ σ) (vs : List AV) (bs : List (List Value)) (σ : Store) (h : corrallaw17_CacheOld.d26 g vs bs σ) : SndF Pr F.corrallaw17_CacheOld corrallaw17_CacheOld.H corrallaw17_CacheOld.T K 26 vs bs σ := by
  unfold corrallaw17_CacheOld.d26 at h
  split at h
  · exact hg _ _ _ _ _ _ _ h
  · exact h.elim
theorem corrallaw17_CacheOld.d37_ok {K : Value → Store → Prop} {g : corrallaw17_CacheOld.R37} (hg : ∀ ways cP lastA lastN lastC n_ v0 v1 v2 v3 v4 v5 σ, g ways cP lastA lastN lastC n_ v0 v1 v2 v3 v4 v5 σ → corrallaw17_CacheOld.S37 K ways cP lastA lastN lastC n_ v0 v1 v2 v3 v4 v5 σ) (vs : List AV) (bs : List (List Value)) (σ : Store) (h : corrallaw17_CacheOld.d37 g vs bs σ) : SndF Pr F.corrallaw17_CacheOld corrallaw17_CacheOld.H corrallaw17_CacheOld.T K 37 vs bs σ := by
  unfold corrallaw17_CacheOld.d37 at h
  split at h
  · exact hg _ _ _ _ _ _ _ _ _ _ _ _ _ h
  · exact h.elim
theorem corrallaw17_CacheOld.d32_ok {K : Value → Store → Prop} {g : corrallaw17_CacheOld.R32} (hg : ∀ ways cP lastA lastN lastC n_ k i v0 v1 v2 v3 v4 v5 σ, g ways cP lastA lastN lastC n_ k i v0 v1 v2 v3 v4 v5 σ → corrallaw17_CacheOld.S32 K ways cP lastA lastN lastC n_ k i v0 v1 v2 v3 v4 v5 σ) (vs : List AV) (bs : List (List Value)) (σ : Store) (h : corrallaw17_CacheOld.d32 g vs bs σ) : SndF Pr F.corrallaw17_CacheOld corrallaw17_CacheOld.H corrallaw17_CacheOld.T K 32 vs bs σ := by
  unfold corrallaw17_CacheOld.d32 at h
  split at h
  · exact hg _ _ _ _ _ _ _ _ _ _ _ _ _ _ _ h
  · exact h.elim
theorem corrallaw17_CacheOld.d39_ok {K : Value → Store → Prop} {g : corrallaw17_CacheOld.R39} (hg : ∀ cP σ, g cP σ → corrallaw17_CacheOld.S39 K cP σ) (vs : List AV) (bs : List (List Value)) (σ : Store) (h : corrallaw17_CacheOld.d39 g vs bs σ) : SndF Pr F.corrallaw17_CacheOld corrallaw17_CacheOld.H corrallaw17_CacheOld.T K 39 vs bs σ := by
  unfold corrallaw17_CacheOld.d39 at h
  split at h
  · exact hg _ _ h
  · exact h.elim
theorem corrallaw17_CacheOld.d25_ok {K : Value → Store → Prop} {g : corrallaw17_CacheOld.R25} (hg : ∀ ways cP lastA lastN lastC n_ σ, g ways cP lastA lastN lastC n_ σ → corrallaw17_CacheOld.S25 K ways cP lastA lastN lastC n_ σ) (vs : List AV) (bs : List (List Value)) (σ : Store) (h : corrallaw17_CacheOld.d25 g vs bs σ) : SndF Pr F.corrallaw17_CacheOld corrallaw17_CacheOld.H corrallaw17_CacheOld.T K 25 vs bs σ := by
  unfold corrallaw17_CacheOld.d25 at h
  split at h
  · exact hg _ _ _ _ _ _ _ h
  · exact h.elim
theorem corrallaw17_CacheOld.d24_ok {K : Value → Store → Prop} {g : corrallaw17_CacheOld.R24} (hg : ∀ ways cP lastA lastN lastC σ, g ways cP lastA lastN lastC σ → corrallaw17_CacheOld.S24 K ways cP lastA lastN lastC σ) (vs : List AV) (bs : List (List Value)) (σ : Store) (h : corrallaw17_CacheOld.d24 g vs bs σ) : SndF Pr F.corrallaw17_CacheOld corrallaw17_CacheOld.H corrallaw17_CacheOld.T K 24 vs bs σ := by
  unfold corrallaw17_CacheOld.d24 at h
  split at h
  · exact hg _ _ _ _ _ _ h
  · exact h.elim
theorem corrallaw17_CacheOld.d18_ok {K : Value → Store → Prop} {g : corrallaw17_CacheOld.R18} (hg : ∀ ways usesA usesN usesC cP lastA lastN lastC i σ, g ways usesA usesN usesC cP lastA lastN lastC i σ → corrallaw17_CacheOld.S18 K ways usesA usesN usesC cP lastA lastN lastC i σ) (vs : List AV) (bs : List (List Value)) (σ : Store) (h : corrallaw17_CacheOld.d18 g vs bs σ) : SndF Pr F.corrallaw17_CacheOld corrallaw17_CacheOld.H corrallaw17_CacheOld.T K 18 vs bs σ := by
  unfold corrallaw17_CacheOld.d18 at h
  split at h
  · exact hg _ _ _ _ _ _ _ _ _ _ h
  · exact h.elim
theorem corrallaw17_CacheOld.d17_ok {K : Value → Store → Prop} {g : corrallaw17_CacheOld.R17} (hg : ∀ ways usesA usesN usesC cP lastA lastN lastC σ, g ways usesA usesN usesC cP lastA lastN lastC σ → corrallaw17_CacheOld.S17 K ways usesA usesN usesC cP lastA lastN lastC σ) (vs : List AV) (bs : List (List Value)) (σ : Store) (h : corrallaw17_CacheOld.d17 g vs bs σ) : SndF Pr F.corrallaw17_CacheOld corrallaw17_CacheOld.H corrallaw17_CacheOld.T K 17 vs bs σ := by
  unfold corrallaw17_CacheOld.d17 at h
  split at h
  · exact hg _ _ _ _ _ _ _ _ _ h
  · exact h.elim
theorem corrallaw17_CacheOld.d12_ok {K : Value → Store → Prop} {g : corrallaw17_CacheOld.R12} (hg : ∀ ways usesA usesN usesC cP lastA lastN lastC i σ, g ways usesA usesN usesC cP lastA lastN lastC i σ → corrallaw17_CacheOld.S12 K ways usesA usesN usesC cP lastA lastN lastC i σ) (vs : List AV) (bs : List (List Value)) (σ : Store) (h : corrallaw17_CacheOld.d12 g vs bs σ) : SndF Pr F.corrallaw17_CacheOld corrallaw17_CacheOld.H corrallaw17_CacheOld.T K 12 vs bs σ := by
  unfold corrallaw17_CacheOld.d12 at h
  split at h
  · exact hg _ _ _ _ _ _ _ _ _ _ h
  · exact h.elim
theorem corrallaw17_CacheOld.d10_ok {K : Value → Store → Prop} {g : corrallaw17_CacheOld.R10} (hg : ∀ ways usesA usesN usesC cP σ, g ways usesA usesN usesC cP σ → corrallaw17_CacheOld.S10 K ways usesA usesN usesC cP σ) (vs : List AV) (bs : List (List Value)) (σ : Store) (h : corrallaw17_CacheOld.d10 g vs bs σ) : SndF Pr F.corrallaw17_CacheOld corrallaw17_CacheOld.H corrallaw17_CacheOld.T K 10 vs bs σ := by
  unfold corrallaw17_CacheOld.d10 at h
  split at h
  · exact hg _ _ _ _ _ _ h
  · exact h.elim
theorem corrallaw17_CacheOld.d7_ok {K : Value → Store → Prop} {g : corrallaw17_CacheOld.R7} (hg : ∀ ways usesA usesN usesC σ, g ways usesA usesN usesC σ → corrallaw17_CacheOld.S7 K ways usesA usesN usesC σ) (vs : List AV) (bs : List (List Value)) (σ : Store) (h : corrallaw17_CacheOld.d7 g vs bs σ) : SndF Pr F.corrallaw17_CacheOld corrallaw17_CacheOld.H corrallaw17_CacheOld.T K 7 vs bs σ := by
  unfold corrallaw17_CacheOld.d7 at h
  split at h
  · exact hg _ _ _ _ _ h
  · exact h.elim
noncomputable def corrallaw17_CacheOld.h26 (K : Value → Store → Prop) (rr25 : corrallaw17_CacheOld.R25) : Hand := hsel [(25, corrallaw17_CacheOld.d25 rr25)]
theorem corrallaw17_CacheOld.j26_eq (K : Value → Store → Prop) (rr25 : corrallaw17_CacheOld.R25) (ways : Int) (cP lastA : Option Addr) (lastN lastC : Nat) (n_ : Int) (σ : Store) : (seg Pr corrallaw17_CacheOld.H F.corrallaw17_CacheOld corrallaw17_CacheOld.T (corrallaw17_CacheOld.h26 K rr25) K (corrallaw17_CacheOld.T 26) (Ev.cutE corrallaw17_CacheOld.H 26 [.v (.int .i64 ways), .v (.pointer cP), .v (.slice lastA lastN lastC), .v (.int .i64 n_)] []) σ) = corrallaw17_CacheOld.j26 K rr25 ways cP lastA lastN lastC n_ σ := by kernel_rfl
theorem corrallaw17_CacheOld.j26_ok (K : Value → Store → Prop) (rr25 : corrallaw17_CacheOld.R25) (hh25 : ∀ ways cP lastA lastN lastC n_ σ, rr25 ways cP lastA lastN lastC n_ σ → corrallaw17_CacheOld.S25 K ways cP lastA lastN lastC n_ σ) (ways : Int) (cP lastA : Option Addr) (lastN lastC : Nat) (n_ : Int) (σ : Store) (h : corrallaw17_CacheOld.j26 K rr25 ways cP lastA lastN lastC n_ σ) : corrallaw17_CacheOld.S26 K ways cP lastA lastN lastC n_ σ := by
  rw [← corrallaw17_CacheOld.j26_eq] at h
  exact seg_snd Pr_mixed (hsel_sound fun x hx => by
    simp only [List.mem_cons, List.not_mem_nil, or_false] at hx
    subst hx
    exact corrallaw17_CacheOld.d25_ok hh25) h
noncomputable def corrallaw17_CacheOld.h37 (K : Value → Store → Prop) (rr25 : corrallaw17_CacheOld.R25) : Hand := hsel [(26, corrallaw17_CacheOld.d26 (corrallaw17_CacheOld.j26 K rr25)), (25, corrallaw17_CacheOld.d25 rr25)]
theorem corrallaw17_CacheOld.j37_eq (K : Value → Store → Prop) (rr25 : corrallaw17_CacheOld.R25) (ways : Int) (cP lastA : Option Addr) (lastN lastC : Nat) (n_ v0 v1 v2 v3 v4 v5 : Int) (σ : Store) : (seg Pr corrallaw17_CacheOld.H F.corrallaw17_CacheOld corrallaw17_CacheOld.T (corrallaw17_CacheOld.h37 K rr25) K (corrallaw17_CacheOld.T 37) (Ev.cutE corrallaw17_CacheOld.H 37 [.v (.int .i64 ways), .v (.pointer cP), .v (.slice lastA lastN lastC), .v (.int .i64 n_)] [[.int .i64 v0, .int .i64 v1, .int .u32 v2, .int .u32 v3, .int .u32 v4, .int .u32 v5]]) σ) = corrallaw17_CacheOld.j37 K rr25 ways cP lastA lastN lastC n_ v0 v1 v2 v3 v4 v5 σ := by kernel_rfl
theorem corrallaw17_CacheOld.j37_ok (K : Value → Store → Prop) (rr25 : corrallaw17_CacheOld.R25) (hh25 : ∀ ways cP lastA lastN lastC n_ σ, rr25 ways cP lastA lastN lastC n_ σ → corrallaw17_CacheOld.S25 K ways cP lastA lastN lastC n_ σ) (ways : Int) (cP lastA : Option Addr) (lastN lastC : Nat) (n_ v0 v1 v2 v3 v4 v5 : Int) (σ : Store) (h : corrallaw17_CacheOld.j37 K rr25 ways cP lastA lastN lastC n_ v0 v1 v2 v3 v4 v5 σ) : corrallaw17_CacheOld.S37 K ways cP lastA lastN lastC n_ v0 v1 v2 v3 v4 v5 σ := by
  rw [← corrallaw17_CacheOld.j37_eq] at h
  exact seg_snd Pr_mixed (hsel_sound fun x hx => by
    simp only [List.mem_cons, List.not_mem_nil, or_false] at hx
    rcases hx with rfl | rfl
    · exact corrallaw17_CacheOld.d26_ok fun _ _ _ _ _ _ _ h => corrallaw17_CacheOld.j26_ok K rr25 hh25 _ _ _ _ _ _ _ h
    · exact corrallaw17_CacheOld.d25_ok hh25) h
noncomputable def corrallaw17_CacheOld.h32 (K : Value → Store → Prop) (rr25 : corrallaw17_CacheOld.R25) (rr32 : corrallaw17_CacheOld.R32) : Hand := hsel [(37, corrallaw17_CacheOld.d37 (corrallaw17_CacheOld.j37 K rr25)), (25, corrallaw17_CacheOld.d25 rr25), (32, corrallaw17_CacheOld.d32 rr32)]
theorem corrallaw17_CacheOld.b32_eq (K : Value → Store → Prop) (rr25 : corrallaw17_CacheOld.R25) (rr32 : corrallaw17_CacheOld.R32) (ways : Int) (cP lastA : Option Addr) (lastN lastC : Nat) (n_ k i v0 v1 v2 v3 v4 v5 : Int) (σ : Store) : (seg Pr corrallaw17_CacheOld.H F.corrallaw17_CacheOld corrallaw17_CacheOld.T (corrallaw17_CacheOld.h32 K rr25 rr32) K (corrallaw17_CacheOld.T 32) (Ev.cutE corrallaw17_CacheOld.H 32 [.v (.int .i64 ways), .v (.pointer cP), .v (.slice lastA lastN lastC), .v (.int .i64 n_), .v (.int .i64 k), .v (.int .i64 i)] [[.int .i64 v0, .int .i64 v1, .int .u32 v2, .int .u32 v3, .int .u32 v4, .int .u32 v5]]) σ) = corrallaw17_CacheOld.b32 K rr25 rr32 ways cP lastA lastN lastC n_ k i v0 v1 v2 v3 v4 v5 σ := by kernel_rfl
theorem corrallaw17_CacheOld.b32_ok (K : Value → Store → Prop) (rr25 : corrallaw17_CacheOld.R25) (hh25 : ∀ ways cP lastA lastN lastC n_ σ, rr25 ways cP lastA lastN lastC n_ σ → corrallaw17_CacheOld.S25 K ways cP lastA lastN lastC n_ σ) (rr32 : corrallaw17_CacheOld.R32) (hh32 : ∀ ways cP lastA lastN lastC n_ k i v0 v1 v2 v3 v4 v5 σ, rr32 ways cP lastA lastN lastC n_ k i v0 v1 v2 v3 v4 v5 σ → corrallaw17_CacheOld.S32 K ways cP lastA lastN lastC n_ k i v0 v1 v2 v3 v4 v5 σ) (ways : Int) (cP lastA : Option Addr) (lastN lastC : Nat) (n_ k i v0 v1 v2 v3 v4 v5 : Int) (σ : Store) (h : corrallaw17_CacheOld.b32 K rr25 rr32 ways cP lastA lastN lastC n_ k i v0 v1 v2 v3 v4 v5 σ) : corrallaw17_CacheOld.S32 K ways cP lastA lastN lastC n_ k i v0 v1 v2 v3 v4 v5 σ := by
  rw [← corrallaw17_CacheOld.b32_eq] at h
  exact seg_snd Pr_mixed (hsel_sound fun x hx => by
    simp only [List.mem_cons, List.not_mem_nil, or_false] at hx
    rcases hx with rfl | rfl | rfl
    · exact corrallaw17_CacheOld.d37_ok fun _ _ _ _ _ _ _ _ _ _ _ _ _ h => corrallaw17_CacheOld.j37_ok K rr25 hh25 _ _ _ _ _ _ _ _ _ _ _ _ _ h
    · exact corrallaw17_CacheOld.d25_ok hh25
    · exact corrallaw17_CacheOld.d32_ok hh32) h
theorem corrallaw17_CacheOld.l32_ok (K : Value → Store → Prop) (rr25 : corrallaw17_CacheOld.R25) (hh25 : ∀ ways cP lastA lastN lastC n_ σ, rr25 ways cP lastA lastN lastC n_ σ → corrallaw17_CacheOld.S25 K ways cP lastA lastN lastC n_ σ) : ∀ (n : Nat) (ways : Int) (cP lastA : Option Addr) (lastN lastC : Nat) (n_ k i v0 v1 v2 v3 v4 v5 : Int) (σ : Store), corrallaw17_CacheOld.l32 K rr25 n ways cP lastA lastN lastC n_ k i v0 v1 v2 v3 v4 v5 σ → corrallaw17_CacheOld.S32 K ways cP lastA lastN lastC n_ k i v0 v1 v2 v3 v4 v5 σ
  | 0, _, _, _, _, _, _, _, _, _, _, _, _, _, _, _, h => h.elim
  | n + 1, _, _, _, _, _, _, _, _, _, _, _, _, _, _, _, h => corrallaw17_CacheOld.b32_ok K rr25 hh25 (corrallaw17_CacheOld.l32 K rr25 n) (corrallaw17_CacheOld.l32_ok K rr25 hh25 n) _ _ _ _ _ _ _ _ _ _ _ _ _ _ _ h
noncomputable def corrallaw17_CacheOld.h39 (K : Value → Store → Prop) : Hand := hsel []
theorem corrallaw17_CacheOld.j39_eq (K : Value → Store → Prop) (cP : Option Addr) (σ : Store) : (seg Pr corrallaw17_CacheOld.H F.corrallaw17_CacheOld corrallaw17_CacheOld.T (corrallaw17_CacheOld.h39 K ) K (corrallaw17_CacheOld.T 39) (Ev.cutE corrallaw17_CacheOld.H 39 [.v (.pointer cP)] []) σ) = corrallaw17_CacheOld.j39 K cP σ := by kernel_rfl
theorem corrallaw17_CacheOld.j39_ok (K : Value → Store → Prop) (cP : Option Addr) (σ : Store) (h : corrallaw17_CacheOld.j39 K cP σ) : corrallaw17_CacheOld.S39 K cP σ := by
  rw [← corrallaw17_CacheOld.j39_eq] at h
  exact seg_snd Pr_mixed (hsel_sound fun x hx => by
    cases hx) h
noncomputable def corrallaw17_CacheOld.h25 (K : Value → Store → Prop) (rr25 : corrallaw17_CacheOld.R25) : Hand := hsel [(32, corrallaw17_CacheOld.d32 fun ways cP lastA lastN lastC n_ k i v0 v1 v2 v3 v4 v5 σ => ∃ n : Nat, corrallaw17_CacheOld.l32 K rr25 n ways cP lastA lastN lastC n_ k i v0 v1 v2 v3 v4 v5 σ), (39, corrallaw17_CacheOld.d39 (corrallaw17_CacheOld.j39 K )), (25, corrallaw17_CacheOld.d25 rr25)]
theorem corrallaw17_CacheOld.b25_eq (K : Value → Store → Prop) (rr25 : corrallaw17_CacheOld.R25) (ways : Int) (cP lastA : Option Addr) (lastN lastC : Nat) (n_ : Int) (σ : Store) : (seg Pr corrallaw17_CacheOld.H F.corrallaw17_CacheOld corrallaw17_CacheOld.T (corrallaw17_CacheOld.h25 K rr25) K (corrallaw17_CacheOld.T 25) (Ev.cutE corrallaw17_CacheOld.H 25 [.v (.int .i64 ways), .v (.pointer cP), .v (.slice lastA lastN lastC), .v (.int .i64 n_)] []) σ) = corrallaw17_CacheOld.b25 K rr25 ways cP lastA lastN lastC n_ σ := by kernel_rfl
theorem corrallaw17_CacheOld.b25_ok (K : Value → Store → Prop) (rr25 : corrallaw17_CacheOld.R25) (hh25 : ∀ ways cP lastA lastN lastC n_ σ, rr25 ways cP lastA lastN lastC n_ σ → corrallaw17_CacheOld.S25 K ways cP lastA lastN lastC n_ σ) (ways : Int) (cP lastA : Option Addr) (lastN lastC : Nat) (n_ : Int) (σ : Store) (h : corrallaw17_CacheOld.b25 K rr25 ways cP lastA lastN lastC n_ σ) : corrallaw17_CacheOld.S25 K ways cP lastA lastN lastC n_ σ := by
  rw [← corrallaw17_CacheOld.b25_eq] at h
  exact seg_snd Pr_mixed (hsel_sound fun x hx => by
    simp only [List.mem_cons, List.not_mem_nil, or_false] at hx
    rcases hx with rfl | rfl | rfl
    · exact corrallaw17_CacheOld.d32_ok fun _ _ _ _ _ _ _ _ _ _ _ _ _ _ _ ⟨n, h⟩ => corrallaw17_CacheOld.l32_ok K rr25 hh25 n _ _ _ _ _ _ _ _ _ _ _ _ _ _ _ h
    · exact corrallaw17_CacheOld.d39_ok fun _ _ h => corrallaw17_CacheOld.j39_ok K _ _ h
    · exact corrallaw17_CacheOld.d25_ok hh25) h
theorem corrallaw17_CacheOld.l25_ok (K : Value → Store → Prop) : ∀ (n : Nat) (ways : Int) (cP lastA : Option Addr) (lastN lastC : Nat) (n_ : Int) (σ : Store), corrallaw17_CacheOld.l25 K n ways cP lastA lastN lastC n_ σ → corrallaw17_CacheOld.S25 K ways cP lastA lastN lastC n_ σ
  | 0, _, _, _, _, _, _, _, h => h.elim
  | n + 1, _, _, _, _, _, _, _, h => corrallaw17_CacheOld.b25_ok K (corrallaw17_CacheOld.l25 K n) (corrallaw17_CacheOld.l25_ok K n) _ _ _ _ _ _ _ h
noncomputable def corrallaw17_CacheOld.h24 (K : Value → Store → Prop) : Hand := hsel [(25, corrallaw17_CacheOld.d25 fun ways cP lastA lastN lastC n_ σ => ∃ n : Nat, corrallaw17_CacheOld.l25 K n ways cP lastA lastN lastC n_ σ)]
theorem corrallaw17_CacheOld.j24_eq (K : Value → Store → Prop) (ways : Int) (cP lastA : Option Addr) (lastN lastC : Nat) (σ : Store) : (seg Pr corrallaw17_CacheOld.H F.corrallaw17_CacheOld corrallaw17_CacheOld.T (corrallaw17_CacheOld.h24 K ) K (corrallaw17_CacheOld.T 24) (Ev.cutE corrallaw17_CacheOld.H 24 [.v (.int .i64 ways), .v (.pointer cP), .v (.slice lastA lastN lastC)] []) σ) = corrallaw17_CacheOld.j24 K ways cP lastA lastN lastC σ := by kernel_rfl
theorem corrallaw17_CacheOld.j24_ok (K : Value → Store → Prop) (ways : Int) (cP lastA : Option Addr) (lastN lastC : Nat) (σ : Store) (h : corrallaw17_CacheOld.j24 K ways cP lastA lastN lastC σ) : corrallaw17_CacheOld.S24 K ways cP lastA lastN lastC σ := by
  rw [← corrallaw17_CacheOld.j24_eq] at h
  exact seg_snd Pr_mixed (hsel_sound fun x hx => by
    simp only [List.mem_cons, List.not_mem_nil, or_false] at hx
    subst hx
    exact corrallaw17_CacheOld.d25_ok fun _ _ _ _ _ _ _ ⟨n, h⟩ => corrallaw17_CacheOld.l25_ok K n _ _ _ _ _ _ _ h) h
noncomputable def corrallaw17_CacheOld.h18 (K : Value → Store → Prop) (rr18 : corrallaw17_CacheOld.R18) : Hand := hsel [(24, corrallaw17_CacheOld.d24 (corrallaw17_CacheOld.j24 K )), (18, corrallaw17_CacheOld.d18 rr18)]
theorem corrallaw17_CacheOld.b18_eq (K : Value → Store → Prop) (rr18 : corrallaw17_CacheOld.R18) (ways : Int) (usesA : Option Addr) (usesN usesC : Nat) (cP lastA : Option Addr) (lastN lastC : Nat) (i : Int) (σ : Store) : (seg Pr corrallaw17_CacheOld.H F.corrallaw17_CacheOld corrallaw17_CacheOld.T (corrallaw17_CacheOld.h18 K rr18) K (corrallaw17_CacheOld.T 18) (Ev.cutE corrallaw17_CacheOld.H 18 [.v (.int .i64 ways), .v (.slice usesA usesN usesC), .v (.pointer cP), .v (.slice lastA lastN lastC), .v (.int .i64 i)] []) σ) = corrallaw17_CacheOld.b18 K rr18 ways usesA usesN usesC cP lastA lastN lastC i σ := by kernel_rfl
theorem corrallaw17_CacheOld.b18_ok (K : Value → Store → Prop) (rr18 : corrallaw17_CacheOld.R18) (hh18 : ∀ ways usesA usesN usesC cP lastA lastN lastC i σ, rr18 ways usesA usesN usesC cP lastA lastN lastC i σ → corrallaw17_CacheOld.S18 K ways usesA usesN usesC cP lastA lastN lastC i σ) (ways : Int) (usesA : Option Addr) (usesN usesC : Nat) (cP lastA : Option Addr) (lastN lastC : Nat) (i : Int) (σ : Store) (h : corrallaw17_CacheOld.b18 K rr18 ways usesA usesN usesC cP lastA lastN lastC i σ) : corrallaw17_CacheOld.S18 K ways usesA usesN usesC cP lastA lastN lastC i σ := by
  rw [← corrallaw17_CacheOld.b18_eq] at h
  exact seg_snd Pr_mixed (hsel_sound fun x hx => by
    simp only [List.mem_cons, List.not_mem_nil, or_false] at hx
    rcases hx with rfl | rfl
    · exact corrallaw17_CacheOld.d24_ok fun _ _ _ _ _ _ h => corrallaw17_CacheOld.j24_ok K _ _ _ _ _ _ h
    · exact corrallaw17_CacheOld.d18_ok hh18) h
theorem corrallaw17_CacheOld.l18_ok (K : Value → Store → Prop) : ∀ (n : Nat) (ways : Int) (usesA : Option Addr) (usesN usesC : Nat) (cP lastA : Option Addr) (lastN lastC : Nat) (i : Int) (σ : Store), corrallaw17_CacheOld.l18 K n ways usesA usesN usesC cP lastA lastN lastC i σ → corrallaw17_CacheOld.S18 K ways usesA usesN usesC cP lastA lastN lastC i σ
  | 0, _, _, _, _, _, _, _, _, _, _, h => h.elim
  | n + 1, _, _, _, _, _, _, _, _, _, _, h => corrallaw17_CacheOld.b18_ok K (corrallaw17_CacheOld.l18 K n) (corrallaw17_CacheOld.l18_ok K n) _ _ _ _ _ _ _ _ _ _ h
noncomputable def corrallaw17_CacheOld.h17 (K : Value → Store → Prop) : Hand := hsel [(18, corrallaw17_CacheOld.d18 fun ways usesA usesN usesC cP lastA lastN lastC i σ => ∃ n : Nat, corrallaw17_CacheOld.l18 K n ways usesA usesN usesC cP lastA lastN lastC i σ)]
theorem corrallaw17_CacheOld.j17_eq (K : Value → Store → Prop) (ways : Int) (usesA : Option Addr) (usesN usesC : Nat) (cP lastA : Option Addr) (lastN lastC : Nat) (σ : Store) : (seg Pr corrallaw17_CacheOld.H F.corrallaw17_CacheOld corrallaw17_CacheOld.T (corrallaw17_CacheOld.h17 K ) K (corrallaw17_CacheOld.T 17) (Ev.cutE corrallaw17_CacheOld.H 17 [.v (.int .i64 ways), .v (.slice usesA usesN usesC), .v (.pointer cP), .v (.slice lastA lastN lastC)] []) σ) = corrallaw17_CacheOld.j17 K ways usesA usesN usesC cP lastA lastN lastC σ := by kernel_rfl
theorem corrallaw17_CacheOld.j17_ok (K : Value → Store → Prop) (ways : Int) (usesA : Option Addr) (usesN usesC : Nat) (cP lastA : Option Addr) (lastN lastC : Nat) (σ : Store) (h : corrallaw17_CacheOld.j17 K ways usesA usesN usesC cP lastA lastN lastC σ) : corrallaw17_CacheOld.S17 K ways usesA usesN usesC cP lastA lastN lastC σ := by
  rw [← corrallaw17_CacheOld.j17_eq] at h
  exact seg_snd Pr_mixed (hsel_sound fun x hx => by
    simp only [List.mem_cons, List.not_mem_nil, or_false] at hx
    subst hx
    exact corrallaw17_CacheOld.d18_ok fun _ _ _ _ _ _ _ _ _ _ ⟨n, h⟩ => corrallaw17_CacheOld.l18_ok K n _ _ _ _ _ _ _ _ _ _ h) h
noncomputable def corrallaw17_CacheOld.h12 (K : Value → Store → Prop) (rr12 : corrallaw17_CacheOld.R12) : Hand := hsel [(17, corrallaw17_CacheOld.d17 (corrallaw17_CacheOld.j17 K )), (12, corrallaw17_CacheOld.d12 rr12)]
theorem corrallaw17_CacheOld.b12_eq (K : Value → Store → Prop) (rr12 : corrallaw17_CacheOld.R12) (ways : Int) (usesA : Option Addr) (usesN usesC : Nat) (cP lastA : Option Addr) (lastN lastC : Nat) (i : Int) (σ : Store) : (seg Pr corrallaw17_CacheOld.H F.corrallaw17_CacheOld corrallaw17_CacheOld.T (corrallaw17_CacheOld.h12 K rr12) K (corrallaw17_CacheOld.T 12) (Ev.cutE corrallaw17_CacheOld.H 12 [.v (.int .i64 ways), .v (.slice usesA usesN usesC), .v (.pointer cP), .v (.slice lastA lastN lastC), .v (.int .i64 i)] []) σ) = corrallaw17_CacheOld.b12 K rr12 ways usesA usesN usesC cP lastA lastN lastC i σ := by kernel_rfl
theorem corrallaw17_CacheOld.b12_ok (K : Value → Store → Prop) (rr12 : corrallaw17_CacheOld.R12) (hh12 : ∀ ways usesA usesN usesC cP lastA lastN lastC i σ, rr12 ways usesA usesN usesC cP lastA lastN lastC i σ → corrallaw17_CacheOld.S12 K ways usesA usesN usesC cP lastA lastN lastC i σ) (ways : Int) (usesA : Option Addr) (usesN usesC : Nat) (cP lastA : Option Addr) (lastN lastC : Nat) (i : Int) (σ : Store) (h : corrallaw17_CacheOld.b12 K rr12 ways usesA usesN usesC cP lastA lastN lastC i σ) : corrallaw17_CacheOld.S12 K ways usesA usesN usesC cP lastA lastN lastC i σ := by
  rw [← corrallaw17_CacheOld.b12_eq] at h
  exact seg_snd Pr_mixed (hsel_sound fun x hx => by
    simp only [List.mem_cons, List.not_mem_nil, or_false] at hx
    rcases hx with rfl | rfl
    · exact corrallaw17_CacheOld.d17_ok fun _ _ _ _ _ _ _ _ _ h => corrallaw17_CacheOld.j17_ok K _ _ _ _ _ _ _ _ _ h
    · exact corrallaw17_CacheOld.d12_ok hh12) h
theorem corrallaw17_CacheOld.l12_ok (K : Value → Store → Prop) : ∀ (n : Nat) (ways : Int) (usesA : Option Addr) (usesN usesC : Nat) (cP lastA : Option Addr) (lastN lastC : Nat) (i : Int) (σ : Store), corrallaw17_CacheOld.l12 K n ways usesA usesN usesC cP lastA lastN lastC i σ → corrallaw17_CacheOld.S12 K ways usesA usesN usesC cP lastA lastN lastC i σ
  | 0, _, _, _, _, _, _, _, _, _, _, h => h.elim
  | n + 1, _, _, _, _, _, _, _, _, _, _, h => corrallaw17_CacheOld.b12_ok K (corrallaw17_CacheOld.l12 K n) (corrallaw17_CacheOld.l12_ok K n) _ _ _ _ _ _ _ _ _ _ h
noncomputable def corrallaw17_CacheOld.h10 (K : Value → Store → Prop) : Hand := hsel [(12, corrallaw17_CacheOld.d12 fun ways usesA usesN usesC cP lastA lastN lastC i σ => ∃ n : Nat, corrallaw17_CacheOld.l12 K n ways usesA usesN usesC cP lastA lastN lastC i σ)]
theorem corrallaw17_CacheOld.j10_eq (K : Value → Store → Prop) (ways : Int) (usesA : Option Addr) (usesN usesC : Nat) (cP : Option Addr) (σ : Store) : (seg Pr corrallaw17_CacheOld.H F.corrallaw17_CacheOld corrallaw17_CacheOld.T (corrallaw17_CacheOld.h10 K ) K (corrallaw17_CacheOld.T 10) (Ev.cutE corrallaw17_CacheOld.H 10 [.v (.int .i64 ways), .v (.slice usesA usesN usesC), .v (.pointer cP)] []) σ) = corrallaw17_CacheOld.j10 K ways usesA usesN usesC cP σ := by kernel_rfl
theorem corrallaw17_CacheOld.j10_ok (K : Value → Store → Prop) (ways : Int) (usesA : Option Addr) (usesN usesC : Nat) (cP : Option Addr) (σ : Store) (h : corrallaw17_CacheOld.j10 K ways usesA usesN usesC cP σ) : corrallaw17_CacheOld.S10 K ways usesA usesN usesC cP σ := by
  rw [← corrallaw17_CacheOld.j10_eq] at h
  exact seg_snd Pr_mixed (hsel_sound fun x hx => by
    simp only [List.mem_cons, List.not_mem_nil, or_false] at hx
    subst hx
    exact corrallaw17_CacheOld.d12_ok fun _ _ _ _ _ _ _ _ _ _ ⟨n, h⟩ => corrallaw17_CacheOld.l12_ok K n _ _ _ _ _ _ _ _ _ _ h) h
noncomputable def corrallaw17_CacheOld.h7 (K : Value → Store → Prop) : Hand := hsel [(10, corrallaw17_CacheOld.d10 (corrallaw17_CacheOld.j10 K ))]
theorem corrallaw17_CacheOld.j7_eq (K : Value → Store → Prop) (ways : Int) (usesA : Option Addr) (usesN usesC : Nat) (σ : Store) : (seg Pr corrallaw17_CacheOld.H F.corrallaw17_CacheOld corrallaw17_CacheOld.T (corrallaw17_CacheOld.h7 K ) K (corrallaw17_CacheOld.T 7) (Ev.cutE corrallaw17_CacheOld.H 7 [.v (.int .i64 ways), .v (.slice usesA usesN usesC)] []) σ) = corrallaw17_CacheOld.j7 K ways usesA usesN usesC σ := by kernel_rfl
theorem corrallaw17_CacheOld.j7_ok (K : Value → Store → Prop) (ways : Int) (usesA : Option Addr) (usesN usesC : Nat) (σ : Store) (h : corrallaw17_CacheOld.j7 K ways usesA usesN usesC σ) : corrallaw17_CacheOld.S7 K ways usesA usesN usesC σ := by
  rw [← corrallaw17_CacheOld.j7_eq] at h
  exact seg_snd Pr_mixed (hsel_sound fun x hx => by
    simp only [List.mem_cons, List.not_mem_nil, or_false] at hx
    subst hx
    exact corrallaw17_CacheOld.d10_ok fun _ _ _ _ _ _ h => corrallaw17_CacheOld.j10_ok K _ _ _ _ _ _ h) h
noncomputable def corrallaw17_CacheOld.h (K : Value → Store → Prop) : Hand := hsel [(7, corrallaw17_CacheOld.d7 (corrallaw17_CacheOld.j7 K ))]
theorem corrallaw17_CacheOld.m_eq (K : Value → Store → Prop) (ways : Int) (usesA : Option Addr) (usesN usesC : Nat) (σ : Store) : (segF Pr corrallaw17_CacheOld.H F.corrallaw17_CacheOld corrallaw17_CacheOld.T (corrallaw17_CacheOld.h K) K [.int .i64 ways, .slice usesA usesN usesC] σ) = corrallaw17_CacheOld.m K ways usesA usesN usesC σ := by kernel_rfl
theorem corrallaw17_CacheOld.ok {K : Value → Store → Prop} {ways : Int} {usesA : Option Addr} {usesN usesC : Nat} {σ : Store} (h : corrallaw17_CacheOld.m K ways usesA usesN usesC σ) : Spec Pr F.corrallaw17_CacheOld [.int .i64 ways, .slice usesA usesN usesC] σ K := by
  rw [← corrallaw17_CacheOld.m_eq] at h
  exact segF_spec Pr_mixed (hsel_sound fun x hx => by
    simp only [List.mem_cons, List.not_mem_nil, or_false] at hx
    subst hx
    exact corrallaw17_CacheOld.d7_ok fun _ _ _ _ _ h => corrallaw17_CacheOld.j7_ok K _ _ _ _ _ h) h

/-! ### corral/corrallaw17.first -/
def corrallaw17_first.H : Hints := { esc := [], cuts := [(4, [1], [])] }
noncomputable def corrallaw17_first.T : Nat → List Item := stk Pr F.corrallaw17_first [(4, [1, 1, 1])]
abbrev corrallaw17_first.R4 : Type := Option Addr → Store → Prop
def corrallaw17_first.d4 (g : corrallaw17_first.R4) : List AV → List (List Value) → Store → Prop
  | [.v (.pointer cP)], [], σ => g cP σ
  | _, _, _ => False
def corrallaw17_first.S4 (K : Value → Store → Prop) (cP : Option Addr) (σ : Store) : Prop := SndF Pr F.corrallaw17_first corrallaw17_first.H corrallaw17_first.T K 4 [.v (.pointer cP)] [] σ
def corrallaw17_first.j4 (K : Value → Store → Prop) (cP : Option Addr) (σ : Store) : Prop :=
  Spec Pr F.cache_Cache_Put [.pointer cP, .agg #[.int .i64 0, .int .i64 1, .int .u32 0, .int .u32 0, .int .u32 0, .int .u32 0]] σ fun v σ_ => ∃ t20 : Value, v = t20 ∧
  Spec Pr F.cache_Cache_Put [.pointer cP, .agg #[.int .i64 1, .int .i64 1, .int .u32 0, .int .u32 0, .int .u32 0, .int .u32 0]] σ_ fun v1 σ_1 => ∃ t23 : Value, v1 = t23 ∧
  Spec Pr F.cache_Cache_Put [.pointer cP, .agg #[.int .i64 2, .int .i64 1, .int .u32 0, .int .u32 0, .int .u32 0, .int .u32 0]] σ_1 fun v2 σ_2 => ∃ t26 : Value, v2 = t26 ∧
  Spec Pr F.cache_Cache_Victim [.pointer cP, .int .i64 2, .slice none 0 0] σ_2 fun v3 σ_3 => ∃ t29a0 : Int, ∃ t29a1 : Int, ∃ t29a2 : Int, ∃ t29a3 : Int, ∃ t29a4 : Int, ∃ t29a5 : Int, ∃ t29b : Bool, v3 = .tuple #[.agg #[.int .i64 t29a0, .int .i64 t29a1, .int .u32 t29a2, .int .u32 t29a3, .int .u32 t29a4, .int .u32 t29a5], .bool t29b] ∧
  IfaceNil t20 fun t33N =>
  cond t33N
  (IfaceNil t23 fun t36N =>
    cond t36N
    (Spec Pr F.corralsee_Is [t26, .int .i64 107] σ_3 fun v4 σ_4 => ∃ t40 : Bool, v4 = .bool t40 ∧
      cond t40
      (cond t29b
        (K (.bool (t29a0 == 0)) σ_4)
        (K (.bool false) σ_4))
      (K (.bool false) σ_4))
    (K (.bool false) σ_3))
  (K (.bool false) σ_3)
def corrallaw17_first.m (K : Value → Store → Prop) (σ : Store) : Prop :=
  Spec Pr F.cache_New [.int .i64 2, .int .i64 1] σ fun v σ_ => ∃ t9aP : Option Addr, ∃ t9b : Value, v = .tuple #[.pointer t9aP, t9b] ∧
  cond t9aP.isNone
  (K (.bool false) σ_)
  (IfaceNil t9b fun t16N =>
    cond (!t16N)
    (K (.bool false) σ_)
    (Hop (corrallaw17_first.T 4) (corrallaw17_first.T 4) (corrallaw17_first.j4 K t9aP σ_)))
theorem corrallaw17_first.d4_ok {K : Value → Store → Prop} {g : corrallaw17_first.R4} (hg : ∀ cP σ, g cP σ → corrallaw17_first.S4 K cP σ) (vs : List AV) (bs : List (List Value)) (σ : Store) (h : corrallaw17_first.d4 g vs bs σ) : SndF Pr F.corrallaw17_first corrallaw17_first.H corrallaw17_first.T K 4 vs bs σ := by
  unfold corrallaw17_first.d4 at h
  split at h
  · exact hg _ _ h
  · exact h.elim
noncomputable def corrallaw17_first.h4 (K : Value → Store → Prop) : Hand := hsel []
theorem corrallaw17_first.j4_eq (K : Value → Store → Prop) (cP : Option Addr) (σ : Store) : (seg Pr corrallaw17_first.H F.corrallaw17_first corrallaw17_first.T (corrallaw17_first.h4 K ) K (corrallaw17_first.T 4) (Ev.cutE corrallaw17_first.H 4 [.v (.pointer cP)] []) σ) = corrallaw17_first.j4 K cP σ := by kernel_rfl
theorem corrallaw17_first.j4_ok (K : Value → Store → Prop) (cP : Option Addr) (σ : Store) (h : corrallaw17_first.j4 K cP σ) : corrallaw17_first.S4 K cP σ := by
  rw [← corrallaw17_first.j4_eq] at h
  exact seg_snd Pr_mixed (hsel_sound fun x hx => by
    cases hx) h
noncomputable def corrallaw17_first.h (K : Value → Store → Prop) : Hand := hsel [(4, corrallaw17_first.d4 (corrallaw17_first.j4 K ))]
theorem corrallaw17_first.m_eq (K : Value → Store → Prop) (σ : Store) : (segF Pr corrallaw17_first.H F.corrallaw17_first corrallaw17_first.T (corrallaw17_first.h K) K [] σ) = corrallaw17_first.m K σ := by kernel_rfl
theorem corrallaw17_first.ok {K : Value → Store → Prop} {σ : Store} (h : corrallaw17_first.m K σ) : Spec Pr F.corrallaw17_first [] σ K := by
  rw [← corrallaw17_first.m_eq] at h
  exact segF_spec Pr_mixed (hsel_sound fun x hx => by
    simp only [List.mem_cons, List.not_mem_nil, or_false] at hx
    subst hx
    exact corrallaw17_first.d4_ok fun _ _ h => corrallaw17_first.j4_ok K _ _ h) h

/-! ### corral/corralref.Among -/
def corralref_Among.H : Hints := { esc := [], cuts := [(2, [0, 1, 5], []), (6, [], [])] }
noncomputable def corralref_Among.T : Nat → List Item := stk Pr F.corralref_Among [(2, [1, 0, 1, 0, 0]), (6, [1, 1])]
abbrev corralref_Among.R6 : Type := Store → Prop
abbrev corralref_Among.R2 : Type := Option Addr → Nat → Nat → Int → Int → Store → Prop
def corralref_Among.d6 (g : corralref_Among.R6) : List AV → List (List Value) → Store → Prop
  | [], [], σ => g σ
  | _, _, _ => False
def corralref_Among.S6 (K : Value → Store → Prop) (σ : Store) : Prop := SndF Pr F.corralref_Among corralref_Among.H corralref_Among.T K 6 [] [] σ
def corralref_Among.j6 (K : Value → Store → Prop) (σ : Store) : Prop :=
  K (.bool false) σ
def corralref_Among.d2 (g : corralref_Among.R2) : List AV → List (List Value) → Store → Prop
  | [.v (.slice lA lN lC), .v (.int .i64 n_), .v (.int .i64 i)], [], σ => g lA lN lC n_ i σ
  | _, _, _ => False
def corralref_Among.S2 (K : Value → Store → Prop) (lA : Option Addr) (lN lC : Nat) (n_ i : Int) (σ : Store) : Prop := SndF Pr F.corralref_Among corralref_Among.H corralref_Among.T K 2 [.v (.slice lA lN lC), .v (.int .i64 n_), .v (.int .i64 i)] [] σ
def corralref_Among.b2 (K : Value → Store → Prop) (rr2 : corralref_Among.R2) (lA : Option Addr) (lN lC : Nat) (n_ i : Int) (σ : Store) : Prop :=
  cond (decide (i < ((lN : Nat) : Int)))
  (Req (decide (0 ≤ i) && decide (i < ((lN : Nat) : Int))) (
      PtrNN lA fun t14B t14O =>
      ∃ t15 : Int, cellAt σ t14B (t14O + i.toNat * 1) = some (.int .i64 t15) ∧
      cond (t15 == n_)
      (K (.bool true) σ)
      (Hop (corralref_Among.T 2) (corralref_Among.T 2) (rr2 lA lN lC n_ (IntKind.wrap .i64 (i + 1)) σ))))
  (Hop (corralref_Among.T 6) (corralref_Among.T 6) (corralref_Among.j6 K σ))
def corralref_Among.l2 (K : Value → Store → Prop) : Nat → corralref_Among.R2
  | 0, _, _, _, _, _, _ => False
  | n + 1, lA, lN, lC, n_, i, σ => corralref_Among.b2 K (corralref_Among.l2 K n) lA lN lC n_ i σ
def corralref_Among.m (K : Value → Store → Prop) (lA : Option Addr) (lN lC : Nat) (n_ : Int) (σ : Store) : Prop :=
  Hop (corralref_Among.T 2) (corralref_Among.T 2) (∃ n : Nat, corralref_Among.l2 K n lA lN lC n_ 0 σ)
theorem corralref_Among.d6_ok {K : Value → Store → Prop} {g : corralref_Among.R6} (hg : ∀ σ, g σ → corralref_Among.S6 K σ) (vs : List AV) (bs : List (List Value)) (σ : Store) (h : corralref_Among.d6 g vs bs σ) : SndF Pr F.corralref_Among corralref_Among.H corralref_Among.T K 6 vs bs σ := by
  unfold corralref_Among.d6 at h
  split at h
  · exact hg _ h
  · exact h.elim
theorem corralref_Among.d2_ok {K : Value → Store → Prop} {g : corralref_Among.R2} (hg : ∀ lA lN lC n_ i σ, g lA lN lC n_ i σ → corralref_Among.S2 K lA lN lC n_ i σ) (vs : List AV) (bs : List (List Value)) (σ : Store) (h : corralref_Among.d2 g vs bs σ) : SndF Pr F.corralref_Among corralref_Among.H corralref_Among.T K 2 vs bs σ := by
  unfold corralref_Among.d2 at h
  split at h
  · exact hg _ _ _ _ _ _ h
  · exact h.elim
noncomputable def corralref_Among.h6 (K : Value → Store → Prop) : Hand := hsel []
theorem corralref_Among.j6_eq (K : Value → Store → Prop) (σ : Store) : (seg Pr corralref_Among.H F.corralref_Among corralref_Among.T (corralref_Among.h6 K ) K (corralref_Among.T 6) (Ev.cutE corralref_Among.H 6 [] []) σ) = corralref_Among.j6 K σ := by kernel_rfl
theorem corralref_Among.j6_ok (K : Value → Store → Prop) (σ : Store) (h : corralref_Among.j6 K σ) : corralref_Among.S6 K σ := by
  rw [← corralref_Among.j6_eq] at h
  exact seg_snd Pr_mixed (hsel_sound fun x hx => by
    cases hx) h
noncomputable def corralref_Among.h2 (K : Value → Store → Prop) (rr2 : corralref_Among.R2) : Hand := hsel [(6, corralref_Among.d6 (corralref_Among.j6 K )), (2, corralref_Among.d2 rr2)]
theorem corralref_Among.b2_eq (K : Value → Store → Prop) (rr2 : corralref_Among.R2) (lA : Option Addr) (lN lC : Nat) (n_ i : Int) (σ : Store) : (seg Pr corralref_Among.H F.corralref_Among corralref_Among.T (corralref_Among.h2 K rr2) K (corralref_Among.T 2) (Ev.cutE corralref_Among.H 2 [.v (.slice lA lN lC), .v (.int .i64 n_), .v (.int .i64 i)] []) σ) = corralref_Among.b2 K rr2 lA lN lC n_ i σ := by kernel_rfl
theorem corralref_Among.b2_ok (K : Value → Store → Prop) (rr2 : corralref_Among.R2) (hh2 : ∀ lA lN lC n_ i σ, rr2 lA lN lC n_ i σ → corralref_Among.S2 K lA lN lC n_ i σ) (lA : Option Addr) (lN lC : Nat) (n_ i : Int) (σ : Store) (h : corralref_Among.b2 K rr2 lA lN lC n_ i σ) : corralref_Among.S2 K lA lN lC n_ i σ := by
  rw [← corralref_Among.b2_eq] at h
  exact seg_snd Pr_mixed (hsel_sound fun x hx => by
    simp only [List.mem_cons, List.not_mem_nil, or_false] at hx
    rcases hx with rfl | rfl
    · exact corralref_Among.d6_ok fun _ h => corralref_Among.j6_ok K _ h
    · exact corralref_Among.d2_ok hh2) h
theorem corralref_Among.l2_ok (K : Value → Store → Prop) : ∀ (n : Nat) (lA : Option Addr) (lN lC : Nat) (n_ i : Int) (σ : Store), corralref_Among.l2 K n lA lN lC n_ i σ → corralref_Among.S2 K lA lN lC n_ i σ
  | 0, _, _, _, _, _, _, h => h.elim
  | n + 1, _, _, _, _, _, _, h => corralref_Among.b2_ok K (corralref_Among.l2 K n) (corralref_Among.l2_ok K n) _ _ _ _ _ _ h
noncomputable def corralref_Among.h (K : Value → Store → Prop) : Hand := hsel [(2, corralref_Among.d2 fun lA lN lC n_ i σ => ∃ n : Nat, corralref_Among.l2 K n lA lN lC n_ i σ)]
theorem corralref_Among.m_eq (K : Value → Store → Prop) (lA : Option Addr) (lN lC : Nat) (n_ : Int) (σ : Store) : (segF Pr corralref_Among.H F.corralref_Among corralref_Among.T (corralref_Among.h K) K [.slice lA lN lC, .int .i64 n_] σ) = corralref_Among.m K lA lN lC n_ σ := by kernel_rfl
theorem corralref_Among.ok {K : Value → Store → Prop} {lA : Option Addr} {lN lC : Nat} {n_ : Int} {σ : Store} (h : corralref_Among.m K lA lN lC n_ σ) : Spec Pr F.corralref_Among [.slice lA lN lC, .int .i64 n_] σ K := by
  rw [← corralref_Among.m_eq] at h
  exact segF_spec Pr_mixed (hsel_sound fun x hx => by
    simp only [List.mem_cons, List.not_mem_nil, or_false] at hx
    subst hx
    exact corralref_Among.d2_ok fun _ _ _ _ _ _ ⟨n, h⟩ => corralref_Among.l2_ok K n _ _ _ _ _ _ h) h

/-! ### corral/corralref.Sorted -/
def corralref_Sorted.H : Hints := { esc := [], cuts := [(3, [0, 3, 4], []), (6, [0, 3, 4, 5], []), (8, [0, 3, 4, 5], []), (9, [0, 3, 4, 5], []), (4, [0, 3, 4], []), (12, [3], [])] }
noncomputable def corralref_Sorted.T : Nat → List Item := stk Pr F.corralref_Sorted [(3, [1, 1, 0, 1, 0, 0]), (6, [1, 1, 0, 1, 0, 0, 1, 0, 0, 1, 0, 0, 0]), (8, [1, 1, 0, 1, 0, 0, 1, 0, 0, 1, 1]), (9, [1, 1, 0, 1, 0, 0, 1, 0, 0, 1, 1, 1]), (4, [1, 1, 0, 1, 0, 0, 1, 1]), (12, [1, 1, 1])]
abbrev corralref_Sorted.R4 : Type := Option Addr → Nat → Nat → Option Addr → Nat → Nat → Int → Store → Prop
abbrev corralref_Sorted.R9 : Type := Option Addr → Nat → Nat → Option Addr → Nat → Nat → Int → Int → Store → Prop
abbrev corralref_Sorted.R8 : Type := Option Addr → Nat → Nat → Option Addr → Nat → Nat → Int → Int → Store → Prop
abbrev corralref_Sorted.R6 : Type := Option Addr → Nat → Nat → Option Addr → Nat → Nat → Int → Int → Store → Prop
abbrev corralref_Sorted.R12 : Type := Option Addr → Nat → Nat → Store → Prop
abbrev corralref_Sorted.R3 : Type := Option Addr → Nat → Nat → Option Addr → Nat → Nat → Int → Store → Prop
def corralref_Sorted.d4 (g : corralref_Sorted.R4) : List AV → List (List Value) → Store → Prop
  | [.v (.slice lA lN lC), .v (.slice outA outN outC), .v (.int .i64 i)], [], σ => g lA lN lC outA outN outC i σ
  | _, _, _ => False
def corralref_Sorted.S4 (K : Value → Store → Prop) (lA : Option Addr) (lN lC : Nat) (outA : Option Addr) (outN outC : Nat) (i : Int) (σ : Store) : Prop := SndF Pr F.corralref_Sorted corralref_Sorted.H corralref_Sorted.T K 4 [.v (.slice lA lN lC), .v (.slice outA outN outC), .v (.int .i64 i)] [] σ
def corralref_Sorted.j4 (K : Value → Store → Prop) (rr3 : corralref_Sorted.R3) (lA : Option Addr) (lN lC : Nat) (outA : Option Addr) (outN outC : Nat) (i : Int) (σ : Store) : Prop :=
  Hop (corralref_Sorted.T 3) (corralref_Sorted.T 3) (rr3 lA lN lC outA outN outC (IntKind.wrap .i64 (i + 1)) σ)
def corralref_Sorted.d9 (g : corralref_Sorted.R9) : List AV → List (List Value) → Store → Prop
  | [.v (.slice lA lN lC), .v (.slice outA outN outC), .v (.int .i64 i), .v (.int .i64 k)], [], σ => g lA lN lC outA outN outC i k σ
  | _, _, _ => False
def corralref_Sorted.S9 (K : Value → Store → Prop) (lA : Option Addr) (lN lC : Nat) (outA : Option Addr) (outN outC : Nat) (i k : Int) (σ : Store) : Prop := SndF Pr F.corralref_Sorted corralref_Sorted.H corralref_Sorted.T K 9 [.v (.slice lA lN lC), .v (.slice outA outN outC), .v (.int .i64 i), .v (.int .i64 k)] [] σ
def corralref_Sorted.j9 (K : Value → Store → Prop) (rr3 : corralref_Sorted.R3) (lA : Option Addr) (lN lC : Nat) (outA : Option Addr) (outN outC : Nat) (i k : Int) (σ : Store) : Prop :=
  Req (okIdx k outC) (
    MakeK 3 8 [.int .i64 0] σ 0 (IntKind.wrap .i64 (((outN : Nat) : Int) + 1)) fun t48B t48N t48C σ_ =>
    ∃ ys : List Value, srcCells σ_ (slAddr outA 0 outC 1) (k.toNat * 1) = some ys ∧
    AppK 3 1 8 [.int .i64 0] σ_ (some ⟨t48B, 0, none⟩) t48N t48C ys k.toNat fun t52A t52N t52C σ_1 =>
    Req (decide (0 ≤ i) && decide (i < ((lN : Nat) : Int))) (
      PtrNN lA fun t56B t56O =>
      ∃ t57 : Int, cellAt σ_1 t56B (t56O + i.toNat * 1) = some (.int .i64 t57) ∧
      AppK 3 1 8 [.int .i64 0] σ_1 t52A t52N t52C [.int .i64 t57] 1 fun t59A t59N t59C σ_2 =>
      Req (okIdx k outN) (
        ∃ ys1 : List Value, srcCells σ_2 (slAddr outA k.toNat outC 1) ((outN - k.toNat) * 1) = some ys1 ∧
        AppK 3 1 8 [.int .i64 0] σ_2 t59A t59N t59C ys1 (outN - k.toNat) fun t64A t64N t64C σ_3 =>
        Hop (corralref_Sorted.T 4) (corralref_Sorted.T 4) (corralref_Sorted.j4 K rr3 lA lN lC t64A t64N t64C i σ_3))))
def corralref_Sorted.d8 (g : corralref_Sorted.R8) : List AV → List (List Value) → Store → Prop
  | [.v (.slice lA lN lC), .v (.slice outA outN outC), .v (.int .i64 i), .v (.int .i64 k)], [], σ => g lA lN lC outA outN outC i k σ
  | _, _, _ => False
def corralref_Sorted.S8 (K : Value → Store → Prop) (lA : Option Addr) (lN lC : Nat) (outA : Option Addr) (outN outC : Nat) (i k : Int) (σ : Store) : Prop := SndF Pr F.corralref_Sorted corralref_Sorted.H corralref_Sorted.T K 8 [.v (.slice lA lN lC), .v (.slice outA outN outC), .v (.int .i64 i), .v (.int .i64 k)] [] σ
def corralref_Sorted.j8 (K : Value → Store → Prop) (rr3 : corralref_Sorted.R3) (lA : Option Addr) (lN lC : Nat) (outA : Option Addr) (outN outC : Nat) (i k : Int) (σ : Store) : Prop :=
  cond (decide (k < ((outN : Nat) : Int)))
  (Req (decide (0 ≤ k) && decide (k < ((outN : Nat) : Int))) (
      PtrNN outA fun t37B t37O =>
      ∃ t38 : Int, cellAt σ t37B (t37O + k.toNat * 1) = some (.int .i64 t38) ∧
      Req (decide (0 ≤ i) && decide (i < ((lN : Nat) : Int))) (
        PtrNN lA fun t41B t41O =>
        ∃ t42 : Int, cellAt σ t41B (t41O + i.toNat * 1) = some (.int .i64 t42) ∧
        cond (t38 == t42)
        (Hop (corralref_Sorted.T 4) (corralref_Sorted.T 4) (corralref_Sorted.j4 K rr3 lA lN lC outA outN outC i σ))
        (Hop (corralref_Sorted.T 9) (corralref_Sorted.T 9) (corralref_Sorted.j9 K rr3 lA lN lC outA outN outC i k σ)))))
  (Hop (corralref_Sorted.T 9) (corralref_Sorted.T 9) (corralref_Sorted.j9 K rr3 lA lN lC outA outN outC i k σ))
def corralref_Sorted.d6 (g : corralref_Sorted.R6) : List AV → List (List Value) → Store → Prop
  | [.v (.slice lA lN lC), .v (.slice outA outN outC), .v (.int .i64 i), .v (.int .i64 k)], [], σ => g lA lN lC outA outN outC i k σ
  | _, _, _ => False
def corralref_Sorted.S6 (K : Value → Store → Prop) (lA : Option Addr) (lN lC : Nat) (outA : Option Addr) (outN outC : Nat) (i k : Int) (σ : Store) : Prop := SndF Pr F.corralref_Sorted corralref_Sorted.H corralref_Sorted.T K 6 [.v (.slice lA lN lC), .v (.slice outA outN outC), .v (.int .i64 i), .v (.int .i64 k)] [] σ
def corralref_Sorted.b6 (K : Value → Store → Prop) (rr3 : corralref_Sorted.R3) (rr6 : corralref_Sorted.R6) (lA : Option Addr) (lN lC : Nat) (outA : Option Addr) (outN outC : Nat) (i k : Int) (σ : Store) : Prop :=
  cond (decide (k < ((outN : Nat) : Int)))
  (Req (decide (0 ≤ k) && decide (k < ((outN : Nat) : Int))) (
      PtrNN outA fun t20B t20O =>
      ∃ t21 : Int, cellAt σ t20B (t20O + k.toNat * 1) = some (.int .i64 t21) ∧
      Req (decide (0 ≤ i) && decide (i < ((lN : Nat) : Int))) (
        PtrNN lA fun t24B t24O =>
        ∃ t25 : Int, cellAt σ t24B (t24O + i.toNat * 1) = some (.int .i64 t25) ∧
        cond (decide (t21 < t25))
        (Hop (corralref_Sorted.T 6) (corralref_Sorted.T 6) (rr6 lA lN lC outA outN outC i (IntKind.wrap .i64 (k + 1)) σ))
        (Hop (corralref_Sorted.T 8) (corralref_Sorted.T 8) (corralref_Sorted.j8 K rr3 lA lN lC outA outN outC i k σ)))))
  (Hop (corralref_Sorted.T 8) (corralref_Sorted.T 8) (corralref_Sorted.j8 K rr3 lA lN lC outA outN outC i k σ))
def corralref_Sorted.l6 (K : Value → Store → Prop) (rr3 : corralref_Sorted.R3) : Nat → corralref_Sorted.R6
  | 0, _, _, _, _, _, _, _, _, _ => False
  | n + 1, lA, lN, lC, outA, outN, outC, i, k, σ => corralref_Sorted.b6 K rr3 (corralref_Sorted.l6 K rr3 n) lA lN lC outA outN outC i k σ
def corralref_Sorted.d12 (g : corralref_Sorted.R12) : List AV → List (List Value) → Store → Prop
  | [.v (.slice outA outN outC)], [], σ => g outA outN outC σ
  | _, _, _ => False
def corralref_Sorted.S12 (K : Value → Store → Prop) (outA : Option Addr) (outN outC : Nat) (σ : Store) : Prop := SndF Pr F.corralref_Sorted corralref_Sorted.H corralref_Sorted.T K 12 [.v (.slice outA outN outC)] [] σ
def corralref_Sorted.j12 (K : Value → Store → Prop) (outA : Option Addr) (outN outC : Nat) (σ : Store) : Prop :=
  K (.slice outA outN outC) σ
def corralref_Sorted.d3 (g : corralref_Sorted.R3) : List AV → List (List Value) → Store → Prop
  | [.v (.slice lA lN lC), .v (.slice outA outN outC), .v (.int .i64 i)], [], σ => g lA lN lC outA outN outC i σ
  | _, _, _ => False
def corralref_Sorted.S3 (K : Value → Store → Prop) (lA : Option Addr) (lN lC : Nat) (outA : Option Addr) (outN outC : Nat) (i : Int) (σ : Store) : Prop := SndF Pr F.corralref_Sorted corralref_Sorted.H corralref_Sorted.T K 3 [.v (.slice lA lN lC), .v (.slice outA outN outC), .v (.int .i64 i)] [] σ
def corralref_Sorted.b3 (K : Value → Store → Prop) (rr3 : corralref_Sorted.R3) (lA : Option Addr) (lN lC : Nat) (outA : Option Addr) (outN outC : Nat) (i : Int) (σ : Store) : Prop :=
  cond (decide (i < ((lN : Nat) : Int)))
  (Hop (corralref_Sorted.T 6) (corralref_Sorted.T 6) (∃ n : Nat, corralref_Sorted.l6 K rr3 n lA lN lC outA outN outC i 0 σ))
  (Hop (corralref_Sorted.T 12) (corralref_Sorted.T 12) (corralref_Sorted.j12 K outA outN outC σ))
def corralref_Sorted.l3 (K : Value → Store → Prop) : Nat → corralref_Sorted.R3
  | 0, _, _, _, _, _, _, _, _ => False
  | n + 1, lA, lN, lC, outA, outN, outC, i, σ => corralref_Sorted.b3 K (corralref_Sorted.l3 K n) lA lN lC outA outN outC i σ
def corralref_Sorted.m (K : Value → Store → Prop) (lA : Option Addr) (lN lC : Nat) (σ : Store) : Prop :=
  Hop (corralref_Sorted.T 3) (corralref_Sorted.T 3) (∃ n : Nat, corralref_Sorted.l3 K n lA lN lC none 0 0 0 σ)
theorem corralref_Sorted.d4_ok {K : Value → Store → Prop} {g : corralref_Sorted.R4} (hg : ∀ lA lN lC outA outN outC i σ, g lA lN lC outA outN outC i σ → corralref_Sorted.S4 K lA lN lC outA outN outC i σ) (vs : List AV) (bs : List (List Value)) (σ : Store) (h : corralref_Sorted.d4 g vs bs σ) : SndF Pr F.corralref_Sorted corralref_Sorted.H corralref_Sorted.T K 4 vs bs σ := by
  unfold corralref_Sorted.d4 at h
  split at h
  · exact hg _ _ _ _ _ _ _ _ h
  · exact h.elim
theorem corralref_Sorted.d9_ok {K : Value → Store → Prop} {g : corralref_Sorted.R9} (hg : ∀ lA lN lC outA outN outC i k σ, g lA lN lC outA outN outC i k σ → corralref_Sorted.S9 K lA lN lC outA outN outC i k σ) (vs : List AV) (bs : List (List Value)) (σ : Store) (h : corralref_Sorted.d9 g vs bs σ) : SndF Pr F.corralref_Sorted corralref_Sorted.H corralref_Sorted.T K 9 vs bs σ := by
  unfold corralref_Sorted.d9 at h
  split at h
  · exact hg _ _ _ _ _ _ _ _ _ h
  · exact h.elim
theorem corralref_Sorted.d8_ok {K : Value → Store → Prop} {g : corralref_Sorted.R8} (hg : ∀ lA lN lC outA outN outC i k σ, g lA lN lC outA outN outC i k σ → corralref_Sorted.S8 K lA lN lC outA outN outC i k σ) (vs : List AV) (bs : List (List Value)) (σ : Store) (h : corralref_Sorted.d8 g vs bs σ) : SndF Pr F.corralref_Sorted corralref_Sorted.H corralref_Sorted.T K 8 vs bs σ := by
  unfold corralref_Sorted.d8 at h
  split at h
  · exact hg _ _ _ _ _ _ _ _ _ h
  · exact h.elim
theorem corralref_Sorted.d6_ok {K : Value → Store → Prop} {g : corralref_Sorted.R6} (hg : ∀ lA lN lC outA outN outC i k σ, g lA lN lC outA outN outC i k σ → corralref_Sorted.S6 K lA lN lC outA outN outC i k σ) (vs : List AV) (bs : List (List Value)) (σ : Store) (h : corralref_Sorted.d6 g vs bs σ) : SndF Pr F.corralref_Sorted corralref_Sorted.H corralref_Sorted.T K 6 vs bs σ := by
  unfold corralref_Sorted.d6 at h
  split at h
  · exact hg _ _ _ _ _ _ _ _ _ h
  · exact h.elim
theorem corralref_Sorted.d12_ok {K : Value → Store → Prop} {g : corralref_Sorted.R12} (hg : ∀ outA outN outC σ, g outA outN outC σ → corralref_Sorted.S12 K outA outN outC σ) (vs : List AV) (bs : List (List Value)) (σ : Store) (h : corralref_Sorted.d12 g vs bs σ) : SndF Pr F.corralref_Sorted corralref_Sorted.H corralref_Sorted.T K 12 vs bs σ := by
  unfold corralref_Sorted.d12 at h
  split at h
  · exact hg _ _ _ _ h
  · exact h.elim
theorem corralref_Sorted.d3_ok {K : Value → Store → Prop} {g : corralref_Sorted.R3} (hg : ∀ lA lN lC outA outN outC i σ, g lA lN lC outA outN outC i σ → corralref_Sorted.S3 K lA lN lC outA outN outC i σ) (vs : List AV) (bs : List (List Value)) (σ : Store) (h : corralref_Sorted.d3 g vs bs σ) : SndF Pr F.corralref_Sorted corralref_Sorted.H corralref_Sorted.T K 3 vs bs σ := by
  unfold corralref_Sorted.d3 at h
  split at h
  · exact hg _ _ _ _ _ _ _ _ h
  · exact h.elim
noncomputable def corralref_Sorted.h4 (K : Value → Store → Prop) (rr3 : corralref_Sorted.R3) : Hand := hsel [(3, corralref_Sorted.d3 rr3)]
theorem corralref_Sorted.j4_eq (K : Value → Store → Prop) (rr3 : corralref_Sorted.R3) (lA : Option Addr) (lN lC : Nat) (outA : Option Addr) (outN outC : Nat) (i : Int) (σ : Store) : (seg Pr corralref_Sorted.H F.corralref_Sorted corralref_Sorted.T (corralref_Sorted.h4 K rr3) K (corralref_Sorted.T 4) (Ev.cutE corralref_Sorted.H 4 [.v (.slice lA lN lC), .v (.slice outA outN outC), .v (.int .i64 i)] []) σ) = corralref_Sorted.j4 K rr3 lA lN lC outA outN outC i σ := by kernel_rfl
theorem corralref_Sorted.j4_ok (K : Value → Store → Prop) (rr3 : corralref_Sorted.R3) (hh3 : ∀ lA lN lC outA outN outC i σ, rr3 lA lN lC outA outN outC i σ → corralref_Sorted.S3 K lA lN lC outA outN outC i σ) (lA : Option Addr) (lN lC : Nat) (outA : Option Addr) (outN outC : Nat) (i : Int) (σ : Store) (h : corralref_Sorted.j4 K rr3 lA lN lC outA outN outC i σ) : corralref_Sorted.S4 K lA lN lC outA outN outC i σ := by
  rw [← corralref_Sorted.j4_eq] at h
  exact seg_snd Pr_mixed (hsel_sound fun x hx => by
    simp only [List.mem_cons, List.not_mem_nil, or_false] at hx
    subst hx
    exact corralref_Sorted.d3_ok hh3) h
noncomputable def corralref_Sorted.h9 (K : Value → Store → Prop) (rr3 : corralref_Sorted.R3) : Hand := hsel [(4, corralref_Sorted.d4 (corralref_Sorted.j4 K rr3)), (3, corralref_Sorted.d3 rr3)]
theorem corralref_Sorted.j9_eq (K : Value → Store → Prop) (rr3 : corralref_Sorted.R3) (lA : Option Addr) (lN lC : Nat) (outA : Option Addr) (outN outC : Nat) (i k : Int) (σ : Store) : (seg Pr corralref_Sorted.H F.corralref_Sorted corralref_Sorted.T (corralref_Sorted.h9 K rr3) K (corralref_Sorted.T 9) (Ev.cutE corralref_Sorted.H 9 [.v (.slice lA lN lC), .v (.slice outA outN outC), .v (.int .i64 i), .v (.int .i64 k)] []) σ) = corralref_Sorted.j9 K rr3 lA lN lC outA outN outC i k σ := by kernel_rfl
theorem corralref_Sorted.j9_ok (K : Value → Store → Prop) (rr3 : corralref_Sorted.R3) (hh3 : ∀ lA lN lC outA outN outC i σ, rr3 lA lN lC outA outN outC i σ → corralref_Sorted.S3 K lA lN lC outA outN outC i σ) (lA : Option Addr) (lN lC : Nat) (outA : Option Addr) (outN outC : Nat) (i k : Int) (σ : Store) (h : corralref_Sorted.j9 K rr3 lA lN lC outA outN outC i k σ) : corralref_Sorted.S9 K lA lN lC outA outN outC i k σ := by
  rw [← corralref_Sorted.j9_eq] at h
  exact seg_snd Pr_mixed (hsel_sound fun x hx => by
    simp only [List.mem_cons, List.not_mem_nil, or_false] at hx
    rcases hx with rfl | rfl
    · exact corralref_Sorted.d4_ok fun _ _ _ _ _ _ _ _ h => corralref_Sorted.j4_ok K rr3 hh3 _ _ _ _ _ _ _ _ h
    · exact corralref_Sorted.d3_ok hh3) h
noncomputable def corralref_Sorted.h8 (K : Value → Store → Prop) (rr3 : corralref_Sorted.R3) : Hand := hsel [(4, corralref_Sorted.d4 (corralref_Sorted.j4 K rr3)), (9, corralref_Sorted.d9 (corralref_Sorted.j9 K rr3)), (3, corralref_Sorted.d3 rr3)]
theorem corralref_Sorted.j8_eq (K : Value → Store → Prop) (rr3 : corralref_Sorted.R3) (lA : Option Addr) (lN lC : Nat) (outA : Option Addr) (outN outC : Nat) (i k : Int) (σ : Store) : (seg Pr corralref_Sorted.H F.corralref_Sorted corralref_Sorted.T (corralref_Sorted.h8 K rr3) K (corralref_Sorted.T 8) (Ev.cutE corralref_Sorted.H 8 [.v (.slice lA lN lC), .v (.slice outA outN outC), .v (.int .i64 i), .v (.int .i64 k)] []) σ) = corralref_Sorted.j8 K rr3 lA lN lC outA outN outC i k σ := by kernel_rfl
theorem corralref_Sorted.j8_ok (K : Value → Store → Prop) (rr3 : corralref_Sorted.R3) (hh3 : ∀ lA lN lC outA outN outC i σ, rr3 lA lN lC outA outN outC i σ → corralref_Sorted.S3 K lA lN lC outA outN outC i σ) (lA : Option Addr) (lN lC : Nat) (outA : Option Addr) (outN outC : Nat) (i k : Int) (σ : Store) (h : corralref_Sorted.j8 K rr3 lA lN lC outA outN outC i k σ) : corralref_Sorted.S8 K lA lN lC outA outN outC i k σ := by
  rw [← corralref_Sorted.j8_eq] at h
  exact seg_snd Pr_mixed (hsel_sound fun x hx => by
    simp only [List.mem_cons, List.not_mem_nil, or_false] at hx
    rcases hx with rfl | rfl | rfl
    · exact corralref_Sorted.d4_ok fun _ _ _ _ _ _ _ _ h => corralref_Sorted.j4_ok K rr3 hh3 _ _ _ _ _ _ _ _ h
    · exact corralref_Sorted.d9_ok fun _ _ _ _ _ _ _ _ _ h => corralref_Sorted.j9_ok K rr3 hh3 _ _ _ _ _ _ _ _ _ h
    · exact corralref_Sorted.d3_ok hh3) h
noncomputable def corralref_Sorted.h6 (K : Value → Store → Prop) (rr3 : corralref_Sorted.R3) (rr6 : corralref_Sorted.R6) : Hand := hsel [(8, corralref_Sorted.d8 (corralref_Sorted.j8 K rr3)), (3, corralref_Sorted.d3 rr3), (6, corralref_Sorted.d6 rr6)]
theorem corralref_Sorted.b6_eq (K : Value → Store → Prop) (rr3 : corralref_Sorted.R3) (rr6 : corralref_Sorted.R6) (lA : Option Addr) (lN lC : Nat) (outA : Option Addr) (outN outC : Nat) (i k : Int) (σ : Store) : (seg Pr corralref_Sorted.H F.corralref_Sorted corralref_Sorted.T (corralref_Sorted.h6 K rr3 rr6) K (corralref_Sorted.T 6) (Ev.cutE corralref_Sorted.H 6 [.v (.slice lA lN lC), .v (.slice outA outN outC), .v (.int .i64 i), .v (.int .i64 k)] []) σ) = corralref_Sorted.b6 K rr3 rr6 lA lN lC outA outN outC i k σ := by kernel_rfl
theorem corralref_Sorted.b6_ok (K : Value → Store → Prop) (rr3 : corralref_Sorted.R3) (hh3 : ∀ lA lN lC outA outN outC i σ, rr3 lA lN lC outA outN outC i σ → corralref_Sorted.S3 K lA lN lC outA outN outC i σ) (rr6 : corralref_Sorted.R6) (hh6 : ∀ lA lN lC outA outN outC i k σ, rr6 lA lN lC outA outN outC i k σ → corralref_Sorted.S6 K lA lN lC outA outN outC i k σ) (lA : Option Addr) (lN lC : Nat) (outA : Option Addr) (outN outC : Nat) (i k : Int) (σ : Store) (h : corralref_Sorted.b6 K rr3 rr6 lA lN lC outA outN outC i k σ) : corralref_Sorted.S6 K lA lN lC outA outN outC i k σ := by
  rw [← corralref_Sorted.b6_eq] at h
  exact seg_snd Pr_mixed (hsel_sound fun x hx => by
    simp only [List.mem_cons, List.not_mem_nil, or_false] at hx
    rcases hx with rfl | rfl | rfl
    · exact corralref_Sorted.d8_ok fun _ _ _ _ _ _ _ _ _ h => corralref_Sorted.j8_ok K rr3 hh3 _ _ _ _ _ _ _ _ _ h
    · exact corralref_Sorted.d3_ok hh3
    · exact corralref_Sorted.d6_ok hh6) h
theorem corralref_Sorted.l6_ok (K : Value → Store → Prop) (rr3 : corralref_Sorted.R3) (hh3 : ∀ lA lN lC outA outN outC i σ, rr3 lA lN lC outA outN outC i σ → corralref_Sorted.S3 K lA lN lC outA outN outC i σ) : ∀ (n : Nat) (lA : Option Addr) (lN lC : Nat) (outA : Option Addr) (outN outC : Nat) (i k : Int) (σ : Store), corralref_Sorted.l6 K rr3 n lA lN lC outA outN outC i k σ → corralref_Sorted.S6 K lA lN lC outA outN outC i k σ
  | 0, _, _, _, _, _, _, _, _, _, h => h.elim
  | n + 1, _, _, _, _, _, _, _, _, _, h => corralref_Sorted.b6_ok K rr3 hh3 (corralref_Sorted.l6 K rr3 n) (corralref_Sorted.l6_ok K rr3 hh3 n) _ _ _ _ _ _ _ _ _ h
noncomputable def corralref_Sorted.h12 (K : Value → Store → Prop) : Hand := hsel []
theorem corralref_Sorted.j12_eq (K : Value → Store → Prop) (outA : Option Addr) (outN outC : Nat) (σ : Store) : (seg Pr corralref_Sorted.H F.corralref_Sorted corralref_Sorted.T (corralref_Sorted.h12 K ) K (corralref_Sorted.T 12) (Ev.cutE corralref_Sorted.H 12 [.v (.slice outA outN outC)] []) σ) = corralref_Sorted.j12 K outA outN outC σ := by kernel_rfl
theorem corralref_Sorted.j12_ok (K : Value → Store → Prop) (outA : Option Addr) (outN outC : Nat) (σ : Store) (h : corralref_Sorted.j12 K outA outN outC σ) : corralref_Sorted.S12 K outA outN outC σ := by
  rw [← corralref_Sorted.j12_eq] at h
  exact seg_snd Pr_mixed (hsel_sound fun x hx => by
    cases hx) h
noncomputable def corralref_Sorted.h3 (K : Value → Store → Prop) (rr3 : corralref_Sorted.R3) : Hand := hsel [(6, corralref_Sorted.d6 fun lA lN lC outA outN outC i k σ => ∃ n : Nat, corralref_Sorted.l6 K rr3 n lA lN lC outA outN outC i k σ), (12, corralref_Sorted.d12 (corralref_Sorted.j12 K )), (3, corralref_Sorted.d3 rr3)]
theorem corralref_Sorted.b3_eq (K : Value → Store → Prop) (rr3 : corralref_Sorted.R3) (lA : Option Addr) (lN lC : Nat) (outA : Option Addr) (outN outC : Nat) (i : Int) (σ : Store) : (seg Pr corralref_Sorted.H F.corralref_Sorted corralref_Sorted.T (corralref_Sorted.h3 K rr3) K (corralref_Sorted.T 3) (Ev.cutE corralref_Sorted.H 3 [.v (.slice lA lN lC), .v (.slice outA outN outC), .v (.int .i64 i)] []) σ) = corralref_Sorted.b3 K rr3 lA lN lC outA outN outC i σ := by kernel_rfl
theorem corralref_Sorted.b3_ok (K : Value → Store → Prop) (rr3 : corralref_Sorted.R3) (hh3 : ∀ lA lN lC outA outN outC i σ, rr3 lA lN lC outA outN outC i σ → corralref_Sorted.S3 K lA lN lC outA outN outC i σ) (lA : Option Addr) (lN lC : Nat) (outA : Option Addr) (outN outC : Nat) (i : Int) (σ : Store) (h : corralref_Sorted.b3 K rr3 lA lN lC outA outN outC i σ) : corralref_Sorted.S3 K lA lN lC outA outN outC i σ := by
  rw [← corralref_Sorted.b3_eq] at h
  exact seg_snd Pr_mixed (hsel_sound fun x hx => by
    simp only [List.mem_cons, List.not_mem_nil, or_false] at hx
    rcases hx with rfl | rfl | rfl
    · exact corralref_Sorted.d6_ok fun _ _ _ _ _ _ _ _ _ ⟨n, h⟩ => corralref_Sorted.l6_ok K rr3 hh3 n _ _ _ _ _ _ _ _ _ h
    · exact corralref_Sorted.d12_ok fun _ _ _ _ h => corralref_Sorted.j12_ok K _ _ _ _ h
    · exact corralref_Sorted.d3_ok hh3) h
theorem corralref_Sorted.l3_ok (K : Value → Store → Prop) : ∀ (n : Nat) (lA : Option Addr) (lN lC : Nat) (outA : Option Addr) (outN outC : Nat) (i : Int) (σ : Store), corralref_Sorted.l3 K n lA lN lC outA outN outC i σ → corralref_Sorted.S3 K lA lN lC outA outN outC i σ
  | 0, _, _, _, _, _, _, _, _, h => h.elim
  | n + 1, _, _, _, _, _, _, _, _, h => corralref_Sorted.b3_ok K (corralref_Sorted.l3 K n) (corralref_Sorted.l3_ok K n) _ _ _ _ _ _ _ _ h
noncomputable def corralref_Sorted.h (K : Value → Store → Prop) : Hand := hsel [(3, corralref_Sorted.d3 fun lA lN lC outA outN outC i σ => ∃ n : Nat, corralref_Sorted.l3 K n lA lN lC outA outN outC i σ)]
theorem corralref_Sorted.m_eq (K : Value → Store → Prop) (lA : Option Addr) (lN lC : Nat) (σ : Store) : (segF Pr corralref_Sorted.H F.corralref_Sorted corralref_Sorted.T (corralref_Sorted.h K) K [.slice lA lN lC] σ) = corralref_Sorted.m K lA lN lC σ := by kernel_rfl
theorem corralref_Sorted.ok {K : Value → Store → Prop} {lA : Option Addr} {lN lC : Nat} {σ : Store} (h : corralref_Sorted.m K lA lN lC σ) : Spec Pr F.corralref_Sorted [.slice lA lN lC] σ K := by
  rw [← corralref_Sorted.m_eq] at h
  exact segF_spec Pr_mixed (hsel_sound fun x hx => by
    simp only [List.mem_cons, List.not_mem_nil, or_false] at hx
    subst hx
    exact corralref_Sorted.d3_ok fun _ _ _ _ _ _ _ _ ⟨n, h⟩ => corralref_Sorted.l3_ok K n _ _ _ _ _ _ _ _ h) h

/-! ### corral/corralref.SameLine -/
def corralref_SameLine.H : Hints := { esc := [], cuts := [] }
noncomputable def corralref_SameLine.T : Nat → List Item := stk Pr F.corralref_SameLine []
def corralref_SameLine.m (K : Value → Store → Prop) (a0 a1 a2 a3 b0 b1 b2 b3 : Int) (σ : Store) : Prop :=
  cond (a0 == b0)
  (cond (a1 == b1)
    (cond (a2 == b2)
      (K (.bool (a3 == b3)) σ)
      (K (.bool false) σ))
    (K (.bool false) σ))
  (K (.bool false) σ)
noncomputable def corralref_SameLine.h (K : Value → Store → Prop) : Hand := hsel []
theorem corralref_SameLine.m_eq (K : Value → Store → Prop) (a0 a1 a2 a3 b0 b1 b2 b3 : Int) (σ : Store) : (segF Pr corralref_SameLine.H F.corralref_SameLine corralref_SameLine.T (corralref_SameLine.h K) K [.agg #[.int .u32 a0, .int .u32 a1, .int .u32 a2, .int .u32 a3], .agg #[.int .u32 b0, .int .u32 b1, .int .u32 b2, .int .u32 b3]] σ) = corralref_SameLine.m K a0 a1 a2 a3 b0 b1 b2 b3 σ := by kernel_rfl
theorem corralref_SameLine.ok {K : Value → Store → Prop} {a0 a1 a2 a3 b0 b1 b2 b3 : Int} {σ : Store} (h : corralref_SameLine.m K a0 a1 a2 a3 b0 b1 b2 b3 σ) : Spec Pr F.corralref_SameLine [.agg #[.int .u32 a0, .int .u32 a1, .int .u32 a2, .int .u32 a3], .agg #[.int .u32 b0, .int .u32 b1, .int .u32 b2, .int .u32 b3]] σ K := by
  rw [← corralref_SameLine.m_eq] at h
  exact segF_spec Pr_mixed (hsel_sound fun x hx => by
    cases hx) h

/-! ### corral/corralworld.Number -/
def corralworld_Number.H : Hints := { esc := [], cuts := [] }
noncomputable def corralworld_Number.T : Nat → List Item := stk Pr F.corralworld_Number []
def corralworld_Number.m (K : Value → Store → Prop) (n_ below : Int) (σ : Store) : Prop :=
  Req (!decide (below = 0)) (
    Req (!decide (below = 0)) (
      K (.int .i64 (Int.tmod (IntKind.wrap .i64 ((Int.tmod n_ below) + below)) below)) σ))
noncomputable def corralworld_Number.h (K : Value → Store → Prop) : Hand := hsel []
theorem corralworld_Number.m_eq (K : Value → Store → Prop) (n_ below : Int) (σ : Store) : (segF Pr corralworld_Number.H F.corralworld_Number corralworld_Number.T (corralworld_Number.h K) K [.int .i64 n_, .int .i64 below] σ) = corralworld_Number.m K n_ below σ := by kernel_rfl
theorem corralworld_Number.ok {K : Value → Store → Prop} {n_ below : Int} {σ : Store} (h : corralworld_Number.m K n_ below σ) : Spec Pr F.corralworld_Number [.int .i64 n_, .int .i64 below] σ K := by
  rw [← corralworld_Number.m_eq] at h
  exact segF_spec Pr_mixed (hsel_sound fun x hx => by
    cases hx) h

end Go.Ev
