/-
  Instructions: functions over short lists keep to plain ones.
  Conditions: none.
-/
import Derived.Test.YtohkplmfihhhnaaDoorV1
import Derived.Test.YtohkplmfihhhnaaDoorFr
import Derived.Test.YtohkplmfihhhnaaDoorPi
import Derived.Test.YtohkplmfihhhnaaDoorEv12
set_option linter.unusedVariables false
namespace Go.Ev
open Go

theorem le_new {σ : Store} {b : Nat} (k : Blk) (hb : σ b = none) : σ.le (σ.set b k) := fun i x hi => by
  rw [set_diff (fun e => by rw [e, hb] at hi; cases hi)]; exact hi
theorem Store.le_rfl {σ : Store} : σ.le σ := fun _ _ h => h
theorem Store.le.trans {σ σ' σ'' : Store} (h : σ.le σ') (h' : σ'.le σ'') : σ.le σ'' := fun b k hb => h' b k (h b k hb)

theorem Pur.le {f : FuncId} {args : List Value} {σ : Store} {v : Value} (h : Spec Pr f args σ fun v' σ' => v' = v ∧ σ.le σ') : Pur Pr f args σ v :=
  fun K hK => Spec.shrink (h.mono fun _ _ ⟨e, hl⟩ => ⟨σ, hl, by rw [e]; exact hK⟩)

/-- What holds of a store holds of those that know more. -/
def KMono (K : Value → Store → Prop) : Prop := ∀ v σ σ', σ.le σ' → K v σ → K v σ'
theorem KMono.le (v : Value) (σ : Store) : KMono fun v' σ' => v' = v ∧ σ.le σ' := fun _ _ _ hl h => ⟨h.1, h.2.trans hl⟩

theorem IsL.new {α : Type} {enc : α → List Value} {esz : Nat} (he : ∀ x, (enc x).length = esz) {σ : Store} {b : Nat} {ty : TypeId} {fz : Nat × Nat} (xs : List α) {n : Nat} (hn : n = xs.length) {cs : List Value} (hc : cs = xs.flatMap enc) :
    IsL enc esz (σ.set b ⟨ty, cs, fz⟩) (some ⟨b, 0, none⟩) n xs := by
  subst hc
  refine ⟨hn, fun _ => ⟨b, 0, _, rfl, set_same _ _ _, ?_, ?_⟩⟩
  · show 0 + n * esz ≤ (xs.flatMap enc).length
    rw [flatMap_length he, hn]; omega
  · show ((xs.flatMap enc).drop 0).take (n * esz) = _
    rw [List.drop_zero, List.take_of_length_le (by rw [flatMap_length he, hn]; exact Nat.le_refl _)]

/-! ### slices.Index, slices.Contains -/
abbrev iC (x : Int) : List Value := [.int .i64 x]

def idxI (v : Int) : Int → List Int → Int
  | _, [] => -1
  | i, b :: bs => bif v == b then i else idxI v (i + 1) bs

theorem idxI_ge (v : Int) : ∀ (bs : List Int) (i : Nat), decide (idxI v i bs ≥ 0) = bs.contains v
  | [], i => by simp [idxI]
  | b :: bs, i => by
    unfold idxI
    have ih := idxI_ge v bs (i + 1)
    by_cases h : v = b
    · subst h; simp
    · have h1 : (v == b) = false := by simp [h]
      rw [h1, cond_false]
      simp only [List.contains_cons, h1, Bool.false_or]
      rw [← ih]; rfl

theorem index_loop {σ : Store} {a : Option Addr} {n c : Nat} {xs : List Int} (h : IsL iC 1 σ a n xs) (hn : xs.length < 4611686018427387904) (v : Int) {K : Value → Store → Prop} :
    ∀ (r i : Nat), i + r = xs.length → K (.int .i64 (idxI v i (xs.drop i))) σ → slices_Index.l2 K (r + 1) a n c v ((n : Nat) : Int) (i : Int) σ
  | 0, i, hi, hK => by
    refine cond_f (by simp [h.1]; omega) (hopI ?_)
    rw [List.drop_of_length_le (by omega)] at hK
    exact hK
  | r + 1, i, hi, hK => by
    rw [List.drop_eq_getElem_cons (by omega)] at hK
    refine slices_Index.b2_v (fun s => match s with | .inl r => K (.int .i64 r) σ | .inr s => s = (v, (n : Int), IntKind.wrap .i64 ((i : Int) + 1)) ∧ K (.int .i64 (idxI v ((i : Int) + 1) (xs.drop (i + 1)))) σ) a n c v n i (xs[i]'(by omega)) (fun _ h => h) (fun s hs => ?_) (by simp [h.1]; omega)
      (fun Body hB => h.at1 (e := fun x => Value.int .i64 x) i rfl (by omega) hB) ?_
    · obtain ⟨rfl, hK⟩ := hs
      show slices_Index.l2 K (r + 1) a n c v n _ σ
      rw [wrap_succ (by omega)]
      exact index_loop h hn v r (i + 1) (by omega) hK
    · unfold slices_Index.bv2
      unfold idxI at hK
      cases hb : (v == xs[i]'(by omega)) <;> rw [hb] at hK
      · exact ⟨rfl, hK⟩
      · exact hK

theorem contains_pur {σ : Store} {a : Option Addr} {n c : Nat} {xs : List Int} (h : IsL iC 1 σ a n xs) (hn : xs.length < 4611686018427387904) (v : Int) :
    Pur Pr F.slices_Contains [.slice a n c, .int .i64 v] σ (.bool (xs.contains v)) := fun K hK => by
  refine slices_Contains.ok (slices_Index.ok (hopI ⟨_, index_loop h hn v xs.length 0 (by omega) ⟨_, rfl, ?_⟩⟩))
  rw [List.drop_zero, idxI_ge]; exact hK

/-! ### What a form uses -/
theorem uses1_pur {σ : Store} {a : Option Addr} {n c : Nat} {xs : List Int} (h : IsL iC 1 σ a n xs) (hn : xs.length < 4611686018427387904) {b o : Nat} {v : Int} (hv : cellAt σ b (o + 2) = some (.int .i64 v)) :
    Pur Pr F.isa_row_uses_1 [.slice a n c, .pointer (some ⟨b, o, none⟩)] σ (.bool (xs.contains v)) := fun K hK =>
  isa_row_uses_1.ok ⟨_, hv, contains_pur h hn v _ ⟨_, rfl, hK⟩⟩

def isa_row_uses.v (r0 : Int) (r1 : ByteArray) (r2 : Int) (r3 r4 r5 : BitVec 32) (r6 : Int) : Bool × Bool × Bool × Bool :=
  (!([3, 4, 7, 8, 9] : List Int).contains r2, !([0, 1, 7, 8, 11] : List Int).contains r2, ([3, 4, 6, 9, 13] : List Int).contains r2, ([0, 1, 2, 3, 4, 5, 7, 11] : List Int).contains r2)

theorem iC_len (x : Int) : (iC x).length = 1 := rfl

theorem isa_row_uses.pur (r0 : Int) (r1 : ByteArray) (r2 : Int) (r3 r4 r5 : BitVec 32) (r6 : Int) (σ : Store) :
    Pur Pr F.isa_row_uses [.agg #[.int .i64 r0, .string r1, .int .i64 r2, .int .u32 (BitVec.toNat r3 : Int), .int .u32 (BitVec.toNat r4 : Int), .int .u32 (BitVec.toNat r5 : Int), .int .i64 r6]] σ
      (.tuple #[.bool (isa_row_uses.v r0 r1 r2 r3 r4 r5 r6).1, .bool (isa_row_uses.v r0 r1 r2 r3 r4 r5 r6).2.1, .bool (isa_row_uses.v r0 r1 r2 r3 r4 r5 r6).2.2.1, .bool (isa_row_uses.v r0 r1 r2 r3 r4 r5 r6).2.2.2]) := by
  refine Pur.le (isa_row_uses.ok ?_)
  intro rB h0 t9 h1
  have d : ∀ {τ : Store} {b : Nat} {k : Blk}, τ rB ≠ none → τ b = none → (τ.set b k) rB = τ rB := fun hr hb => set_diff fun e => hr (e ▸ hb)
  have c0 : (σ.set rB ⟨Ty.isa_row, [.int .i64 r0, .string r1, .int .i64 r2, .int .u32 (BitVec.toNat r3 : Int), .int .u32 (BitVec.toNat r4 : Int), .int .u32 (BitVec.toNat r5 : Int), .int .i64 r6], (0, 0)⟩) rB = some ⟨Ty.isa_row, [.int .i64 r0, .string r1, .int .i64 r2, .int .u32 (BitVec.toNat r3 : Int), .int .u32 (BitVec.toNat r4 : Int), .int .u32 (BitVec.toNat r5 : Int), .int .i64 r6], (0, 0)⟩ := set_same _ _ _
  have nn : ∀ {τ : Store} {k : Blk}, τ rB = some k → τ rB ≠ none := fun h => by rw [h]; simp
  have c1 := (d (k := ⟨3, [.int .i64 3, .int .i64 4, .int .i64 7, .int .i64 8, .int .i64 9], (0, 0)⟩) (nn c0) h1).trans c0
  refine uses1_pur (IsL.new iC_len [3, 4, 7, 8, 9] rfl rfl) (by decide) (rd c1 rfl) _ ⟨_, rfl, ?_⟩
  intro t13 h2
  have c2 := (d (k := ⟨3, [.int .i64 0, .int .i64 1, .int .i64 7, .int .i64 8, .int .i64 11], (0, 0)⟩) (nn c1) h2).trans c1
  refine uses1_pur (IsL.new iC_len [0, 1, 7, 8, 11] rfl rfl) (by decide) (rd c2 rfl) _ ⟨_, rfl, ?_⟩
  intro t17 h3
  have c3 := (d (k := ⟨3, [.int .i64 3, .int .i64 4, .int .i64 6, .int .i64 9, .int .i64 13], (0, 0)⟩) (nn c2) h3).trans c2
  refine uses1_pur (IsL.new iC_len [3, 4, 6, 9, 13] rfl rfl) (by decide) (rd c3 rfl) _ ⟨_, rfl, ?_⟩
  intro t20 h4
  have c4 := (d (k := ⟨3, [.int .i64 0, .int .i64 1, .int .i64 2, .int .i64 3, .int .i64 4, .int .i64 5, .int .i64 7, .int .i64 11], (0, 0)⟩) (nn c3) h4).trans c3
  refine uses1_pur (IsL.new iC_len [0, 1, 2, 3, 4, 5, 7, 11] rfl rfl) (by decide) (rd c4 rfl) _ ⟨_, rfl, rfl, ?_⟩
  exact (le_new _ h0).trans ((le_new _ h1).trans ((le_new _ h2).trans ((le_new _ h3).trans (le_new _ h4))))

/-! ### Immediates -/
abbrev pcC (p : Int × Int × Int) : List Value := [.int .i64 p.1, .int .i64 p.2.1, .int .i64 p.2.2]
theorem pcC_len (p : Int × Int × Int) : (pcC p).length = 3 := rfl

def pieces (f : BitVec 8) : List (Int × Int × Int) × Int :=
  bif f == 73#8 then ([(20, 12, 0)], 12) else bif f == 83#8 then ([(25, 7, 5), (7, 5, 0)], 12) else bif f == 66#8 then ([(31, 1, 12), (7, 1, 11), (25, 6, 5), (8, 4, 1)], 13) else
  bif f == 85#8 then ([(12, 20, 12)], 32) else bif f == 74#8 then ([(31, 1, 20), (12, 8, 12), (20, 1, 11), (21, 10, 1)], 21) else ([], 0)

theorem pieces_at (f : BitVec 8) : ∀ p ∈ (pieces f).1, 0 ≤ p.1 ∧ 0 ≤ p.2.2 := by
  unfold pieces
  cases f == 73#8 <;> cases f == 83#8 <;> cases f == 66#8 <;> cases f == 85#8 <;> cases f == 74#8 <;> simp
theorem pieces_len (f : BitVec 8) : (pieces f).1.length ≤ 4 := by
  unfold pieces
  cases f == 73#8 <;> cases f == 83#8 <;> cases f == 66#8 <;> cases f == 85#8 <;> cases f == 74#8 <;> simp

theorem pieces_spec (f : BitVec 8) (σ : Store) {K : Value → Store → Prop}
    (hK : ∀ a n c σ', IsL pcC 3 σ' a n (pieces f).1 → σ.le σ' → a.isNone = (pieces f).1.isEmpty → K (.tuple #[.slice a n c, .int .i64 (pieces f).2]) σ') :
    Spec Pr F.enc_pieces [.int .u8 (BitVec.toNat f : Int)] σ K := by
  refine enc_pieces.ok ?_
  unfold enc_pieces.m
  unfold pieces at hK
  have go : ∀ (xs : List (Int × Int × Int)) (m : Int) (n : Nat) (hn : n = xs.length) (cs : List Value) (hc : cs = xs.flatMap pcC) (hx : xs.isEmpty = false),
      (∀ a n c σ', IsL pcC 3 σ' a n xs → σ.le σ' → a.isNone = xs.isEmpty → K (.tuple #[.slice a n c, .int .i64 m]) σ') → New σ ⟨Ty.enc_piece, cs, (0, 0)⟩ fun b σ' => K (.tuple #[.slice (some ⟨b, 0, none⟩) n n, .int .i64 m]) σ' :=
    fun xs m n hn cs hc hx h b hb => h _ _ _ _ (IsL.new pcC_len xs hn hc) (le_new _ hb) (by rw [hx]; rfl)
  refine cond_v (F := fun r : List (Int × Int × Int) × Int => ∀ a n c σ', IsL pcC 3 σ' a n r.1 → σ.le σ' → a.isNone = r.1.isEmpty → K (.tuple #[.slice a n c, .int .i64 r.2]) σ') (beq_lit f (i := 73) (by decide)) hK (fun _ hK => go _ _ _ rfl _ rfl rfl hK) (fun _ hK => ?_)
  refine cond_v (F := fun r : List (Int × Int × Int) × Int => ∀ a n c σ', IsL pcC 3 σ' a n r.1 → σ.le σ' → a.isNone = r.1.isEmpty → K (.tuple #[.slice a n c, .int .i64 r.2]) σ') (beq_lit f (i := 83) (by decide)) hK (fun _ hK => go _ _ _ rfl _ rfl rfl hK) (fun _ hK => ?_)
  refine cond_v (F := fun r : List (Int × Int × Int) × Int => ∀ a n c σ', IsL pcC 3 σ' a n r.1 → σ.le σ' → a.isNone = r.1.isEmpty → K (.tuple #[.slice a n c, .int .i64 r.2]) σ') (beq_lit f (i := 66) (by decide)) hK (fun _ hK => go _ _ _ rfl _ rfl rfl hK) (fun _ hK => ?_)
  refine cond_v (F := fun r : List (Int × Int × Int) × Int => ∀ a n c σ', IsL pcC 3 σ' a n r.1 → σ.le σ' → a.isNone = r.1.isEmpty → K (.tuple #[.slice a n c, .int .i64 r.2]) σ') (beq_lit f (i := 85) (by decide)) hK (fun _ hK => go _ _ _ rfl _ rfl rfl hK) (fun _ hK => ?_)
  refine cond_v (F := fun r : List (Int × Int × Int) × Int => ∀ a n c σ', IsL pcC 3 σ' a n r.1 → σ.le σ' → a.isNone = r.1.isEmpty → K (.tuple #[.slice a n c, .int .i64 r.2]) σ') (beq_lit f (i := 74) (by decide)) hK (fun _ hK => go _ _ _ rfl _ rfl rfl hK) (fun _ hK => ?_)
  exact hK none 0 0 σ ⟨rfl, fun h => (h rfl).elim⟩ Store.le_rfl rfl

def immF (w : BitVec 32) : List (Int × Int × Int) → BitVec 32 → BitVec 32
  | [], x => x
  | p :: r, x => immF w r (x ||| word_Bits.v w p.1 p.2.1 <<< p.2.2.toNat)

def enc_Imm.v (f : BitVec 8) (w : BitVec 32) : BitVec 32 := word_Sign.v (immF w (pieces f).1 0#32) (pieces f).2

theorem imm_loop {σ : Store} {a : Option Addr} {n c : Nat} {xs : List (Int × Int × Int)} (h : IsL pcC 3 σ a n xs) (hn : xs.length ≤ 4) (hp : ∀ p ∈ xs, 0 ≤ p.1 ∧ 0 ≤ p.2.2) (w : BitVec 32) (m : Int) {K : Value → Store → Prop} :
    ∀ (r i : Nat) (x : BitVec 32), i + r = xs.length → K (.int .u32 (BitVec.toNat (word_Sign.v (immF w (xs.drop i) x) m) : Int)) σ → enc_Imm.l4 K (r + 1) (BitVec.toNat w : Int) m (BitVec.toNat x : Int) a n c ((n : Nat) : Int) (i : Int) σ
  | 0, i, x, hi, hK => by
    refine cond_f (by simp [h.1]; omega) (hopI ?_)
    rw [List.drop_of_length_le (by omega)] at hK
    exact enc_Imm.j8_v (fun r => K (.int .u32 (BitVec.toNat r : Int)) σ) m x (fun _ h => h) hK
  | r + 1, i, x, hi, hK => by
    rw [List.drop_eq_getElem_cons (by omega)] at hK
    have hm := hp _ (List.getElem_mem (l := xs) (n := i) (by omega))
    refine enc_Imm.b4_v (fun s => s = enc_Imm.bv4 w m x a n c n i xs[i].1 xs[i].2.1 xs[i].2.2) w m x a n c n i xs[i].1 xs[i].2.1 xs[i].2.2 (fun _ h => by cases h) (fun s hs => ?_) hm.2 (by simp [h.1]; omega) (fun Body hB => h.at pcC_len i rfl (by omega) fun B O hc => hB B O hc) rfl
    cases hs
    show enc_Imm.l4 K (r + 1) _ m _ a n c n (IntKind.wrap .i64 ((i : Int) + 1)) σ
    rw [wrap_succ (by omega)]
    exact imm_loop h hn hp w m r (i + 1) _ (by omega) hK

theorem enc_Imm.pur (f : BitVec 8) (w : BitVec 32) (σ : Store) : Pur Pr F.enc_Imm [.int .u8 (BitVec.toNat f : Int), .int .u32 (BitVec.toNat w : Int)] σ (.int .u32 (BitVec.toNat (enc_Imm.v f w) : Int)) := by
  refine Pur.le (enc_Imm.ok (pieces_spec f σ fun a n c σ' hl hle hno => ⟨_, _, _, _, rfl, hopI ⟨(pieces f).1.length + 1, ?_⟩⟩))
  have := imm_loop (c := c) hl (pieces_len f) (pieces_at f) w (pieces f).2 (K := fun v' σ'' => v' = .int .u32 (BitVec.toNat (enc_Imm.v f w) : Int) ∧ σ.le σ'') (pieces f).1.length 0 0#32 (by omega) ⟨rfl, hle⟩
  exact this

end Go.Ev
