/-
  Instructions: laying immediates and fields, the program's table, its Decode, keep to plain functions.
  Conditions: none.
-/
import Derived.Test.YtohkplmfihhhnaaDoorV2
set_option linter.unusedVariables false
namespace Go.Ev
open Go

/-! ### enc.Lay -/
def layF (im : BitVec 32) : List (Int × Int × Int) → BitVec 32 → BitVec 32
  | [], w => w
  | p :: r, w => layF im r (w ||| word_Bits.v im p.2.2 p.2.1 <<< p.1.toNat)

def enc_Lay.v (f : BitVec 8) (im : BitVec 32) : BitVec 32 × Bool :=
  bif (pieces f).1.isEmpty then (0#32, false) else bif enc_Imm.v f (layF im (pieces f).1 0#32) != im then (0#32, false) else (layF im (pieces f).1 0#32, true)

theorem lay_loop {σ : Store} {a b : Option Addr} {n c n' c' : Nat} {xs : List (Int × Int × Int)} (h : IsL pcC 3 σ a n xs) (hn : xs.length ≤ 4) (hp : ∀ p ∈ xs, 0 ≤ p.1 ∧ 0 ≤ p.2.2) (f : BitVec 8) (im : BitVec 32) {K : Value → Store → Prop} :
    ∀ (r i : Nat) (x : BitVec 32), i + r = xs.length → K (.tuple #[.int .u32 (BitVec.toNat (enc_Lay.v8 f im b n' c' (layF im (xs.drop i) x)).1 : Int), .bool (enc_Lay.v8 f im b n' c' (layF im (xs.drop i) x)).2]) σ →
      enc_Lay.l4 K (r + 1) (BitVec.toNat f : Int) (BitVec.toNat im : Int) b n' c' (BitVec.toNat x : Int) a n c ((n : Nat) : Int) (i : Int) σ
  | 0, i, x, hi, hK => by
    refine cond_f (by simp [h.1]; omega) (hopI ?_)
    rw [List.drop_of_length_le (by omega)] at hK
    exact enc_Lay.j8_v (fun r => K (.tuple #[.int .u32 (BitVec.toNat r.1 : Int), .bool r.2]) σ) f im b n' c' x (fun _ h => h) hK
  | r + 1, i, x, hi, hK => by
    rw [List.drop_eq_getElem_cons (by omega)] at hK
    have hm := hp _ (List.getElem_mem (l := xs) (n := i) (by omega))
    refine enc_Lay.b4_v (fun s => s = enc_Lay.bv4 f im b n' c' x a n c n i xs[i].1 xs[i].2.1 xs[i].2.2) f im b n' c' x a n c n i xs[i].1 xs[i].2.1 xs[i].2.2 (fun _ h => by cases h) (fun s hs => ?_) hm.1 (by simp [h.1]; omega) (fun Body hB => h.at pcC_len i rfl (by omega) fun B O hc => hB B O hc) rfl
    cases hs
    show enc_Lay.l4 K (r + 1) _ _ b n' c' _ a n c n (IntKind.wrap .i64 ((i : Int) + 1)) σ
    rw [wrap_succ (by omega)]
    exact lay_loop h hn hp f im r (i + 1) _ (by omega) hK

theorem enc_Lay.pur (f : BitVec 8) (im : BitVec 32) (σ : Store) : Pur Pr F.enc_Lay [.int .u8 (BitVec.toNat f : Int), .int .u32 (BitVec.toNat im : Int)] σ (.tuple #[.int .u32 (BitVec.toNat (enc_Lay.v f im).1 : Int), .bool (enc_Lay.v f im).2]) := by
  refine Pur.le (enc_Lay.ok (pieces_spec f σ fun a n c σ' hl hle hno => ⟨_, _, _, _, rfl, hopI ⟨(pieces f).1.length + 1, ?_⟩⟩))
  have e : enc_Lay.v8 f im a n c (layF im (pieces f).1 0#32) = enc_Lay.v f im := by unfold enc_Lay.v8 enc_Lay.v; rw [hno]
  exact lay_loop (c := c) hl (pieces_len f) (pieces_at f) f im (K := fun v' σ'' => v' = .tuple #[.int .u32 (BitVec.toNat (enc_Lay.v f im).1 : Int), .bool (enc_Lay.v f im).2] ∧ σ.le σ'') (pieces f).1.length 0 0#32 (by omega) ⟨by rw [List.drop_zero, e], hle⟩

/-! ### word.Pack, enc.Join -/
abbrev fdC (p : Int × Int × BitVec 32) : List Value := [.int .i64 p.1, .int .i64 p.2.1, .int .u32 (BitVec.toNat p.2.2 : Int)]
theorem fdC_len (p : Int × Int × BitVec 32) : (fdC p).length = 3 := rfl

def packF : List (Int × Int × BitVec 32) → BitVec 32 → BitVec 32
  | [], w => w
  | p :: r, w => packF r (bif decide (p.1 ≥ 0) then (bif decide (p.1 < 32) then w ||| (p.2.2 &&& word_mask.v p.2.1) <<< p.1.toNat else w) else w)

theorem pack_loop {σ : Store} {a : Option Addr} {n c : Nat} {xs : List (Int × Int × BitVec 32)} (h : IsL fdC 3 σ a n xs) (hn : xs.length < 4611686018427387904) {K : Value → Store → Prop} :
    ∀ (r i : Nat) (x : BitVec 32), i + r = xs.length → K (.int .u32 (BitVec.toNat (packF (xs.drop i) x) : Int)) σ → word_Pack.l3 K (r + 1) (BitVec.toNat x : Int) a n c ((n : Nat) : Int) (i : Int) σ
  | 0, i, x, hi, hK => by
    refine cond_f (by simp [h.1]; omega) (hopI ?_)
    rw [List.drop_of_length_le (by omega)] at hK
    exact hK
  | r + 1, i, x, hi, hK => by
    rw [List.drop_eq_getElem_cons (by omega)] at hK
    refine word_Pack.b3_v (fun s => s = word_Pack.bv3 x a n c n i xs[i].1 xs[i].2.1 xs[i].2.2) x a n c n i xs[i].1 xs[i].2.1 xs[i].2.2 (fun r h => ?_) (fun s hs => ?_) (by simp [h.1]; omega) (fun Body hB => h.at fdC_len i rfl (by omega) fun B O hc => hB B O hc) rfl
    · unfold word_Pack.bv3 word_Pack.v6 at h
      cases h0 : decide (xs[i].1 ≥ 0) <;> cases h1 : decide (xs[i].1 < 32) <;> simp [h0, h1] at h
    · have e : s = (bif decide (xs[i].1 ≥ 0) then (bif decide (xs[i].1 < 32) then x ||| (xs[i].2.2 &&& word_mask.v xs[i].2.1) <<< xs[i].1.toNat else x) else x, (n : Int), IntKind.wrap .i64 ((i : Int) + 1)) := by
        unfold word_Pack.bv3 word_Pack.v6 at hs
        cases h0 : decide (xs[i].1 ≥ 0) <;> cases h1 : decide (xs[i].1 < 32) <;> simp only [h0, h1, cond_true, cond_false, Sum.inr.injEq] at hs ⊢ <;> exact hs
      subst e
      show word_Pack.l3 K (r + 1) _ a n c n (IntKind.wrap .i64 ((i : Int) + 1)) σ
      rw [wrap_succ (by omega)]
      exact pack_loop h hn r (i + 1) _ (by omega) hK

theorem pack_pur {σ : Store} {a : Option Addr} {n c : Nat} {xs : List (Int × Int × BitVec 32)} (h : IsL fdC 3 σ a n xs) (hn : xs.length < 4611686018427387904) :
    Pur Pr F.word_Pack [.slice a n c] σ (.int .u32 (BitVec.toNat (packF xs 0#32) : Int)) := fun K hK =>
  word_Pack.ok (hopI ⟨xs.length + 1, pack_loop h hn xs.length 0 0#32 (by omega) hK⟩)

def enc_Join.v (h0 h1 h2 h3 h4 h5 : BitVec 32) : BitVec 32 := packF [(0, 7, h0), (7, 5, h1), (12, 3, h2), (15, 5, h3), (20, 5, h4), (25, 7, h5)] 0#32

theorem enc_Join.pur (h0 h1 h2 h3 h4 h5 : BitVec 32) (σ : Store) :
    Pur Pr F.enc_Join [.agg #[.int .u32 (BitVec.toNat h0 : Int), .int .u32 (BitVec.toNat h1 : Int), .int .u32 (BitVec.toNat h2 : Int), .int .u32 (BitVec.toNat h3 : Int), .int .u32 (BitVec.toNat h4 : Int), .int .u32 (BitVec.toNat h5 : Int)]] σ (.int .u32 (BitVec.toNat (enc_Join.v h0 h1 h2 h3 h4 h5) : Int)) := by
  refine Pur.le (enc_Join.ok ?_)
  intro b hb
  refine pack_pur (IsL.new fdC_len [(0, 7, h0), (7, 5, h1), (12, 3, h2), (15, 5, h3), (20, 5, h4), (25, 7, h5)] rfl rfl) (by simp) _ ⟨_, rfl, rfl, le_new _ hb⟩

/-! ### The program's table -/
theorem PRow.cells_len (r : PRow) : r.cells.length = 7 := rfl
theorem RRow.cells_len (r : RRow) : r.cells.length = 14 := rfl

theorem isa_rows_spec (σ : Store) {K : Value → Store → Prop} (hK : ∀ a σ', IsL PRow.cells 7 σ' a 69 prows → σ.le σ' → K (.slice a 69 69) σ') : Spec Pr F.isa_rows [] σ K := by
  refine isa_rows.ok ?_
  intro b hb
  exact hK _ _ (IsL.new PRow.cells_len prows rfl (by kernel_rfl)) (le_new _ hb)

def zrow : PRow := ⟨0, ByteArray.empty, 0, 0#32, 0#32, 0#32, 0⟩
def findP (op : Int) : PRow × Bool := bif decide (op < 1) then (zrow, false) else bif decide (op > 69) then (zrow, false) else (prows.getD (op.toNat - 1) zrow, true)
def isa_find.v (op : Int) : Int × ByteArray × Int × BitVec 32 × BitVec 32 × BitVec 32 × Int × Bool :=
  ((findP op).1.op, (findP op).1.name, (findP op).1.form, (findP op).1.oc, (findP op).1.f3, (findP op).1.f7, (findP op).1.kind, (findP op).2)

theorem isa_find.pur (op : Int) (σ : Store) : Pur Pr F.isa_find [.int .i64 op] σ
    (.tuple #[.agg #[.int .i64 (isa_find.v op).1, .string (isa_find.v op).2.1, .int .i64 (isa_find.v op).2.2.1, .int .u32 (BitVec.toNat (isa_find.v op).2.2.2.1 : Int), .int .u32 (BitVec.toNat (isa_find.v op).2.2.2.2.1 : Int), .int .u32 (BitVec.toNat (isa_find.v op).2.2.2.2.2.1 : Int), .int .i64 (isa_find.v op).2.2.2.2.2.2.1], .bool (isa_find.v op).2.2.2.2.2.2.2]) := by
  refine Pur.le (isa_find.ok ?_)
  show isa_find.m (fun v' σ' => v' = .tuple #[.agg (findP op).1.cells.toArray, .bool (findP op).2] ∧ σ.le σ') op σ
  unfold findP
  refine cond_i (fun h => ⟨by rw [h]; rfl, Store.le_rfl⟩) (fun h => cond_i (fun h1 => ⟨by rw [h, h1]; rfl, Store.le_rfl⟩) (fun h1 => hopI ?_))
  rw [h, h1]
  have h := of_decide_eq_false h
  have h1 := of_decide_eq_false h1
  refine isa_rows_spec σ fun a σ' hl hle => ⟨_, _, _, rfl, ?_⟩
  have e : IntKind.wrap .i64 (op - 1) = ((op.toNat - 1 : Nat) : Int) := by rw [wrap_id (by omega) (by omega)]; omega
  rw [e]
  have hi : op.toNat - 1 < prows.length := by rw [prows_length]; omega
  refine hl.at PRow.cells_len (op.toNat - 1) rfl hi fun B O hc => ⟨_, _, _, _, _, _, _, hc, ?_, hle⟩
  show Value.tuple _ = .tuple #[.agg (prows.getD (op.toNat - 1) zrow).cells.toArray, .bool true]
  have e2 : prows.getD (op.toNat - 1) zrow = prows[op.toNat - 1] := by simp [List.getD, hi]
  rw [e2]; rfl

/-! ### isa.Decode -/
abbrev InstV := Int × Int × Int × Int × Int × BitVec 32 × Bool × Bool
def PRow.fits (r : PRow) (w : BitVec 32) : Bool := isa_row_fits.v r.op r.name r.form r.oc r.f3 r.f7 r.kind w
def PRow.dec (r : PRow) (w : BitVec 32) : InstV := isa_row_decode.v r.op r.name r.form r.oc r.f3 r.f7 r.kind w

def decP (w : BitVec 32) : List PRow → Int × Int × Int × Int × Int × BitVec 32 × Bool × Bool × Bool
  | [] => (0, 0, 0, 0, 0, 0#32, false, false, false)
  | r :: l => bif r.fits w then ((r.dec w).1, (r.dec w).2.1, (r.dec w).2.2.1, (r.dec w).2.2.2.1, (r.dec w).2.2.2.2.1, (r.dec w).2.2.2.2.2.1, (r.dec w).2.2.2.2.2.2.1, (r.dec w).2.2.2.2.2.2.2, true) else decP w l

def isa_Decode.v (w : BitVec 32) := decP w prows
abbrev isa_Decode.enc (r : Int × Int × Int × Int × Int × BitVec 32 × Bool × Bool × Bool) : Value :=
  .tuple #[.agg #[.int .i64 r.1, .int .i64 r.2.1, .int .i64 r.2.2.1, .int .i64 r.2.2.2.1, .int .i64 r.2.2.2.2.1, .int .u32 (BitVec.toNat r.2.2.2.2.2.1 : Int), .bool r.2.2.2.2.2.2.1, .bool r.2.2.2.2.2.2.2.1], .bool r.2.2.2.2.2.2.2.2]

theorem decode_loop {σ : Store} {a : Option Addr} {n c : Nat} {xs : List PRow} (h : IsL PRow.cells 7 σ a n xs) (hn : xs.length ≤ 69) (w : BitVec 32) {K : Value → Store → Prop} :
    ∀ (r i : Nat) (t0 t1 t2 t3 t4 : Int) (t5 : BitVec 32) (t6 t7 : Bool), i + r = xs.length → K (isa_Decode.enc (decP w (xs.drop i))) σ →
      isa_Decode.l2 K (r + 1) (BitVec.toNat w : Int) a n c ((n : Nat) : Int) (i : Int) t0 t1 t2 t3 t4 (BitVec.toNat t5 : Int) t6 t7 σ
  | 0, i, t0, t1, t2, t3, t4, t5, t6, t7, hi, hK => by
    refine cond_f (by simp [h.1]; omega) (hopI ?_)
    rw [List.drop_of_length_le (by omega)] at hK
    exact hK
  | r + 1, i, t0, t1, t2, t3, t4, t5, t6, t7, hi, hK => by
    rw [List.drop_eq_getElem_cons (by omega)] at hK
    refine isa_Decode.b2_v (fun s => match s with | .inl r => K (isa_Decode.enc r) σ | .inr s => s = (w, (n : Int), IntKind.wrap .i64 ((i : Int) + 1), t0, t1, t2, t3, t4, t5, t6, t7) ∧ K (isa_Decode.enc (decP w (xs.drop (i + 1)))) σ)
      w a n c n i t0 t1 t2 t3 t4 t5 t6 t7 xs[i].op xs[i].name xs[i].form xs[i].oc xs[i].f3 xs[i].f7 xs[i].kind (fun _ h => h) (fun s hs => ?_) (by simp [h.1]; omega) (fun Body hB => h.at PRow.cells_len i rfl (by omega) fun B O hc => hB B O hc) ?_
    · obtain ⟨rfl, hK⟩ := hs
      show isa_Decode.l2 K (r + 1) _ a n c n (IntKind.wrap .i64 ((i : Int) + 1)) _ _ _ _ _ _ _ _ σ
      rw [wrap_succ (by omega)]
      exact decode_loop h hn w r (i + 1) _ _ _ _ _ _ _ _ (by omega) hK
    · unfold isa_Decode.bv2
      unfold decP at hK
      unfold PRow.fits PRow.dec at hK
      cases hb : isa_row_fits.v xs[i].op xs[i].name xs[i].form xs[i].oc xs[i].f3 xs[i].f7 xs[i].kind w <;> rw [hb] at hK
      · exact ⟨rfl, hK⟩
      · exact hK

theorem isa_Decode.pur (w : BitVec 32) (σ : Store) : Pur Pr F.isa_Decode [.int .u32 (BitVec.toNat w : Int)] σ (isa_Decode.enc (isa_Decode.v w)) := by
  refine Pur.le (isa_Decode.ok (isa_rows_spec σ fun a σ' hl hle => ⟨_, _, _, rfl, hopI ⟨70, ?_⟩⟩))
  exact decode_loop (c := 69) hl (by decide) w (K := fun v' σ'' => v' = isa_Decode.enc (isa_Decode.v w) ∧ σ.le σ'') 69 0 0 0 0 0 0 0#32 false false (by rfl) ⟨rfl, hle⟩

/-! ### isa.Op -/
def opP (name : ByteArray) : List PRow → Int
  | [] => 0
  | r :: l => bif r.name.toList == name.toList then r.op else opP name l
def isa_Op.v (name : ByteArray) : Int := opP name prows

theorem op_loop {σ : Store} {a : Option Addr} {n c : Nat} {xs : List PRow} (h : IsL PRow.cells 7 σ a n xs) (hn : xs.length ≤ 69) (name : ByteArray) {K : Value → Store → Prop} :
    ∀ (r i : Nat), i + r = xs.length → K (.int .i64 (opP name (xs.drop i))) σ → isa_Op.l2 K (r + 1) name a n c ((n : Nat) : Int) (i : Int) σ
  | 0, i, hi, hK => by
    refine cond_f (by simp [h.1]; omega) (hopI ?_)
    rw [List.drop_of_length_le (by omega)] at hK
    exact hK
  | r + 1, i, hi, hK => by
    rw [List.drop_eq_getElem_cons (by omega)] at hK
    refine isa_Op.b2_v (fun s => match s with | .inl r => K (.int .i64 r) σ | .inr s => s = (name, (n : Int), IntKind.wrap .i64 ((i : Int) + 1)) ∧ K (.int .i64 (opP name (xs.drop (i + 1)))) σ)
      name a n c n i xs[i].op xs[i].name xs[i].form xs[i].oc xs[i].f3 xs[i].f7 xs[i].kind (fun _ h => h) (fun s hs => ?_) (by simp [h.1]; omega) (fun Body hB => h.at PRow.cells_len i rfl (by omega) fun B O hc => hB B O hc) ?_
    · obtain ⟨rfl, hK⟩ := hs
      show isa_Op.l2 K (r + 1) _ a n c n (IntKind.wrap .i64 ((i : Int) + 1)) σ
      rw [wrap_succ (by omega)]
      exact op_loop h hn name r (i + 1) (by omega) hK
    · unfold isa_Op.bv2
      unfold opP at hK
      cases hb : (xs[i].name.toList == name.toList) <;> rw [hb] at hK
      · exact ⟨rfl, hK⟩
      · exact hK

theorem isa_Op.pur (name : ByteArray) (σ : Store) : Pur Pr F.isa_Op [.string name] σ (.int .i64 (isa_Op.v name)) := by
  refine Pur.le (isa_Op.ok (isa_rows_spec σ fun a σ' hl hle => ⟨_, _, _, rfl, hopI ⟨70, ?_⟩⟩))
  exact op_loop (c := 69) hl (by decide) name (K := fun v' σ'' => v' = .int .i64 (isa_Op.v name) ∧ σ.le σ'') 69 0 (by rfl) ⟨rfl, hle⟩
end Go.Ev
