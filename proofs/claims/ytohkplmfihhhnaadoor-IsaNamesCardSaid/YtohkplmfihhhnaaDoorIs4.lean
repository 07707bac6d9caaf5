/-
  Instructions: the document's Of and Decode keep to plain functions.
  Conditions: none.
-/
import Derived.Test.YtohkplmfihhhnaaDoorIs3
set_option linter.unusedVariables false
namespace Go.Ev
open Go

/-! ### The document's Of -/
def zrr : RRow := ⟨0, ByteArray.empty, 0#32, 0#32, 0#32, false, false, 0#8, false, false, false, false, 0#32, false⟩
def findR (op : Int) : List RRow → RRow × Bool
  | [] => (zrr, false)
  | r :: l => bif r.op == op then (r, true) else findR op l
def ofR (op : Int) : RRow × Bool := bif decide (op < 1) then (zrr, false) else bif decide (op > 69) then (zrr, false) else findR op rrows
def corralref1_Of.v (op : Int) : Int × ByteArray × BitVec 32 × BitVec 32 × BitVec 32 × Bool × Bool × BitVec 8 × Bool × Bool × Bool × Bool × BitVec 32 × Bool × Bool :=
  ((ofR op).1.op, (ofR op).1.name, (ofR op).1.oc, (ofR op).1.f3, (ofR op).1.f7, (ofR op).1.hasF3, (ofR op).1.hasF7, (ofR op).1.format, (ofR op).1.rd, (ofR op).1.rs1, (ofR op).1.rs2, (ofR op).1.csr, (ofR op).1.whole, (ofR op).1.pair, (ofR op).2)
abbrev Of.enc (r : RRow × Bool) : Value := .tuple #[.agg r.1.cells.toArray, .bool r.2]

theorem of_loop {σ : Store} {a : Option Addr} {n c : Nat} {xs : List RRow} (h : IsL RRow.cells 14 σ a n xs) (hn : xs.length ≤ 69) (op : Int) {K : Value → Store → Prop} :
    ∀ (r i : Nat), i + r = xs.length → K (Of.enc (findR op (xs.drop i))) σ →
      corralref1_Of.l5 K (r + 1) op a n c (i : Int) 0 ByteArray.empty (BitVec.toNat 0#32 : Int) (BitVec.toNat 0#32 : Int) (BitVec.toNat 0#32 : Int) false false (BitVec.toNat 0#8 : Int) false false false false (BitVec.toNat 0#32 : Int) false σ
  | 0, i, hi, hK => by
    refine cond_f (by simp [h.1]; omega) (hopI ?_)
    rw [List.drop_of_length_le (by omega)] at hK
    exact hK
  | r + 1, i, hi, hK => by
    rw [List.drop_eq_getElem_cons (by omega)] at hK
    refine corralref1_Of.b5_v (fun s => match s with
      | .inl r => K (.tuple #[.agg #[.int .i64 r.1, .string r.2.1, .int .u32 (BitVec.toNat r.2.2.1 : Int), .int .u32 (BitVec.toNat r.2.2.2.1 : Int), .int .u32 (BitVec.toNat r.2.2.2.2.1 : Int), .bool r.2.2.2.2.2.1, .bool r.2.2.2.2.2.2.1, .int .u8 (BitVec.toNat r.2.2.2.2.2.2.2.1 : Int), .bool r.2.2.2.2.2.2.2.2.1, .bool r.2.2.2.2.2.2.2.2.2.1, .bool r.2.2.2.2.2.2.2.2.2.2.1, .bool r.2.2.2.2.2.2.2.2.2.2.2.1, .int .u32 (BitVec.toNat r.2.2.2.2.2.2.2.2.2.2.2.2.1 : Int), .bool r.2.2.2.2.2.2.2.2.2.2.2.2.2.1], .bool r.2.2.2.2.2.2.2.2.2.2.2.2.2.2]) σ
      | .inr s => s = (op, IntKind.wrap .i64 ((i : Int) + 1), 0, ByteArray.empty, 0#32, 0#32, 0#32, false, false, 0#8, false, false, false, false, 0#32, false) ∧ K (Of.enc (findR op (xs.drop (i + 1)))) σ)
      op a n c i 0 ByteArray.empty 0#32 0#32 0#32 false false 0#8 false false false false 0#32 false xs[i].op xs[i].op xs[i].name xs[i].oc xs[i].f3 xs[i].f7 xs[i].hasF3 xs[i].hasF7 xs[i].format xs[i].rd xs[i].rs1 xs[i].rs2 xs[i].csr xs[i].whole xs[i].pair
      (fun _ h => h) (fun s hs => ?_) (by simp [h.1]; omega) (fun Body hB => h.at RRow.cells_len i rfl (by omega) fun B O hc => hB B O ?_) (fun Body hB => h.at RRow.cells_len i rfl (by omega) fun B O hc => hB B O hc) ?_
    · obtain ⟨rfl, hK⟩ := hs
      show corralref1_Of.l5 K (r + 1) op a n c (IntKind.wrap .i64 ((i : Int) + 1)) _ _ _ _ _ _ _ _ _ _ _ _ _ _ σ
      rw [wrap_succ (by omega)]
      exact of_loop h hn op r (i + 1) (by omega) hK
    · unfold cellsAt at hc
      unfold cellAt
      cases e : σ B with
      | none => rw [e] at hc; cases hc
      | some k =>
        rw [e] at hc
        simp only at hc ⊢
        split at hc
        · rename_i hl
          rw [Option.some.injEq] at hc
          rw [List.drop_eq_getElem_cons (by omega), List.take_succ_cons] at hc
          unfold RRow.cells at hc
          rw [List.cons.injEq] at hc
          rw [Int.toNat_natCast, List.getElem?_eq_getElem (by omega), hc.1]
        · cases hc
    · unfold corralref1_Of.bv5
      unfold findR at hK
      cases hb : (xs[i].op == op) <;> rw [hb] at hK
      · exact ⟨rfl, hK⟩
      · exact hK

theorem Of_pur (op : Int) (σ : Store) : Pur Pr F.corralref1_Of [.int .i64 op] σ (Of.enc (ofR op)) := by
  refine Pur.le (corralref1_Of.ok ?_)
  unfold ofR
  refine cond_i (fun h => ?_) (fun h => cond_i (fun h1 => ?_) (fun h1 => hopI ?_))
  · rw [h]; exact ⟨rfl, Store.le_rfl⟩
  · rw [h, h1]; exact ⟨rfl, Store.le_rfl⟩
  · rw [h, h1]
    refine Rows_spec σ fun a σ' hl hle => ⟨_, _, _, rfl, hopI ⟨70, ?_⟩⟩
    exact of_loop (c := 69) hl (by decide) op (K := fun v' σ'' => v' = Of.enc (findR op rrows) ∧ σ.le σ'') 69 0 (by rfl) ⟨rfl, hle⟩

theorem corralref1_Of.pur (op : Int) (σ : Store) : Pur Pr F.corralref1_Of [.int .i64 op] σ (.tuple #[.agg #[.int .i64 (corralref1_Of.v op).1, .string (corralref1_Of.v op).2.1, .int .u32 (BitVec.toNat (corralref1_Of.v op).2.2.1 : Int), .int .u32 (BitVec.toNat (corralref1_Of.v op).2.2.2.1 : Int), .int .u32 (BitVec.toNat (corralref1_Of.v op).2.2.2.2.1 : Int), .bool (corralref1_Of.v op).2.2.2.2.2.1, .bool (corralref1_Of.v op).2.2.2.2.2.2.1, .int .u8 (BitVec.toNat (corralref1_Of.v op).2.2.2.2.2.2.2.1 : Int), .bool (corralref1_Of.v op).2.2.2.2.2.2.2.2.1, .bool (corralref1_Of.v op).2.2.2.2.2.2.2.2.2.1, .bool (corralref1_Of.v op).2.2.2.2.2.2.2.2.2.2.1, .bool (corralref1_Of.v op).2.2.2.2.2.2.2.2.2.2.2.1, .int .u32 (BitVec.toNat (corralref1_Of.v op).2.2.2.2.2.2.2.2.2.2.2.2.1 : Int), .bool (corralref1_Of.v op).2.2.2.2.2.2.2.2.2.2.2.2.2.1], .bool (corralref1_Of.v op).2.2.2.2.2.2.2.2.2.2.2.2.2.2]) := Of_pur op σ

/-! ### The document's Decode -/
def RRow.inst (r : RRow) (w : BitVec 32) : InstV :=
  (r.op, bif r.rd then (BitVec.toNat (corralref1_Bits.v w 7 5) : Int) else 0, bif r.rs1 then (BitVec.toNat (corralref1_Bits.v w 15 5) : Int) else 0, bif r.rs2 then (BitVec.toNat (corralref1_Bits.v w 20 5) : Int) else 0,
    bif r.csr then (BitVec.toNat (corralref1_Bits.v w 20 12) : Int) else 0, corralref1_imm.v r.format w, bif r.pair then corralref1_Bits.v w 26 1 == 1#32 else false, bif r.pair then corralref1_Bits.v w 25 1 == 1#32 else false)
def RRow.word (r : RRow) (i : InstV) : BitVec 32 :=
  corralref1_word.v r.op r.name r.oc r.f3 r.f7 r.hasF3 r.hasF7 r.format r.rd r.rs1 r.rs2 r.csr r.whole r.pair i.1 i.2.1 i.2.2.1 i.2.2.2.1 i.2.2.2.2.1 i.2.2.2.2.2.1 i.2.2.2.2.2.2.1 i.2.2.2.2.2.2.2
def RRow.fits (r : RRow) (w : BitVec 32) : Bool := bif r.whole != 0#32 then w == r.whole else r.word (r.inst w) == w
def RRow.dec (r : RRow) (w : BitVec 32) : InstV := bif r.whole != 0#32 then (r.op, 0, 0, 0, 0, 0#32, false, false) else r.inst w
abbrev InstV.and (i : InstV) (b : Bool) : Int × Int × Int × Int × Int × BitVec 32 × Bool × Bool × Bool := (i.1, i.2.1, i.2.2.1, i.2.2.2.1, i.2.2.2.2.1, i.2.2.2.2.2.1, i.2.2.2.2.2.2.1, i.2.2.2.2.2.2.2, b)

def decR (w : BitVec 32) : List RRow → Int × Int × Int × Int × Int × BitVec 32 × Bool × Bool × Bool
  | [] => (0, 0, 0, 0, 0, 0#32, false, false, false)
  | r :: l => bif r.fits w then (r.dec w).and true else decR w l

theorem bv3_eq (w : BitVec 32) (a : Option Addr) (n c : Nat) (k t0 t1 t2 t3 t4 : Int) (t5 : BitVec 32) (t6 t7 : Bool) (r : RRow) :
    corralref1_Decode.bv3 w a n c k t0 t1 t2 t3 t4 t5 t6 t7 r.op r.name r.oc r.f3 r.f7 r.hasF3 r.hasF7 r.format r.rd r.rs1 r.rs2 r.csr r.whole r.pair =
      bif r.fits w then .inl ((r.dec w).and true) else .inr (w, IntKind.wrap .i64 (k + 1), t0, t1, t2, t3, t4, t5, t6, t7) := by
  unfold corralref1_Decode.bv3 RRow.fits RRow.dec RRow.word RRow.inst InstV.and
  cases hw : r.whole != 0#32
  · unfold corralref1_Decode.v12 corralref1_Decode.v14 corralref1_Decode.v16 corralref1_Decode.v18 corralref1_Decode.v21
    cases r.rd <;> cases r.rs1 <;> cases r.rs2 <;> cases r.csr <;> cases r.pair <;> rfl
  · cases hx : w == r.whole <;> rfl

theorem decR_loop {σ : Store} {a : Option Addr} {n c : Nat} {xs : List RRow} (h : IsL RRow.cells 14 σ a n xs) (hn : xs.length ≤ 69) (w : BitVec 32) {K : Value → Store → Prop} (t0 t1 t2 t3 t4 : Int) (t5 : BitVec 32) (t6 t7 : Bool) :
    ∀ (r i : Nat), i + r = xs.length → K (isa_Decode.enc (decR w (xs.drop i))) σ →
      corralref1_Decode.l3 K (r + 1) (BitVec.toNat w : Int) a n c (i : Int) t0 t1 t2 t3 t4 (BitVec.toNat t5 : Int) t6 t7 σ
  | 0, i, hi, hK => by
    refine cond_f (by simp [h.1]; omega) (hopI ?_)
    rw [List.drop_of_length_le (by omega)] at hK
    exact hK
  | r + 1, i, hi, hK => by
    rw [List.drop_eq_getElem_cons (by omega)] at hK
    refine corralref1_Decode.b3_v (fun s => match s with | .inl r => K (isa_Decode.enc r) σ | .inr s => s = (w, IntKind.wrap .i64 ((i : Int) + 1), t0, t1, t2, t3, t4, t5, t6, t7) ∧ K (isa_Decode.enc (decR w (xs.drop (i + 1)))) σ)
      w a n c i t0 t1 t2 t3 t4 t5 t6 t7 xs[i].op xs[i].name xs[i].oc xs[i].f3 xs[i].f7 xs[i].hasF3 xs[i].hasF7 xs[i].format xs[i].rd xs[i].rs1 xs[i].rs2 xs[i].csr xs[i].whole xs[i].pair (fun _ h => h) (fun s hs => ?_) (by simp [h.1]; omega) (fun Body hB => h.at RRow.cells_len i rfl (by omega) fun B O hc => hB B O hc) ?_
    · obtain ⟨rfl, hK⟩ := hs
      show corralref1_Decode.l3 K (r + 1) _ a n c (IntKind.wrap .i64 ((i : Int) + 1)) _ _ _ _ _ _ _ _ σ
      rw [wrap_succ (by omega)]
      exact decR_loop h hn w t0 t1 t2 t3 t4 t5 t6 t7 r (i + 1) (by omega) hK
    · rw [bv3_eq]
      unfold decR at hK
      cases hb : xs[i].fits w <;> rw [hb] at hK
      · exact ⟨rfl, hK⟩
      · exact hK

def corralref1_Decode.v (w : BitVec 32) := decR w rrows

theorem corralref1_Decode.pur (w : BitVec 32) (σ : Store) : Pur Pr F.corralref1_Decode [.int .u32 (BitVec.toNat w : Int)] σ (isa_Decode.enc (corralref1_Decode.v w)) := by
  refine Pur.le (corralref1_Decode.ok (Rows_spec σ fun a σ' hl hle => ⟨_, _, _, rfl, hopI ⟨70, ?_⟩⟩))
  exact decR_loop (c := 69) hl (by decide) w (K := fun v' σ'' => v' = isa_Decode.enc (corralref1_Decode.v w) ∧ σ.le σ'') 0 0 0 0 0 0#32 false false 69 0 (by rfl) ⟨rfl, hle⟩
end Go.Ev
