import Derived.Test.YtohkplmfihhhnaaDoorIs1
set_option linter.unusedVariables false
set_option linter.unusedSimpArgs false
namespace Go.Ev
open Go
/-! ### enc_Lay -/
def enc_Lay.v8 (format : BitVec 8) (imm : BitVec 32) (lA : Option Addr) (lN : Nat) (lC : Nat) (w : BitVec 32) : BitVec 32 × Bool :=
  bif lA.isNone then
    (0#32, false)
  else
    let c1 := enc_Imm.v format w
    bif (c1 != imm) then
      (0#32, false)
    else
      (w, true)
theorem enc_Lay.j8_v {K : Value → Store → Prop} {σ : Store} (F : (BitVec 32 × Bool) → Prop) (format : BitVec 8) (imm : BitVec 32) (lA : Option Addr) (lN : Nat) (lC : Nat) (w : BitVec 32) (hk : ∀ r, F r → K (.tuple #[.int .u32 (BitVec.toNat r.1 : Int), .bool r.2]) σ) (hF : F (enc_Lay.v8 format imm lA lN lC w)) : enc_Lay.j8 K (BitVec.toNat format : Int) (BitVec.toNat imm : Int) lA lN lC (BitVec.toNat w : Int) σ := by
  unfold enc_Lay.j8
  unfold enc_Lay.v8 at hF
  try dsimp only at hF
  refine cond_v (F := F) (rfl) hF (fun h hF => ?_) (fun h hF => ?_)
  · skip
    exact hk _ hF
  · skip
    refine Pur.use (enc_Imm.pur format w σ) (rfl) ⟨_, rfl, ?_⟩
    refine cond_v (F := F) (by simp only [bne_nat, bne_lit, ofInt_toNat, ofInt_toNat', ofInt_toInt, BitVec.setWidth_eq, lit_u, BitVec.reduceOfInt, BitVec.reduceToNat, Nat.reducePow, Nat.reduceMod, Int.cast_ofNat_Int, Int.natCast_zero, Int.natCast_one, Int.reduceLT, Int.reduceLE, Int.reducePow, and_self, Int.zero_sub, BitVec.zero_sub]) hF (fun h hF => ?_) (fun h hF => ?_)
    · skip
      exact hk _ hF
    · skip
      exact hk _ hF
def enc_Lay.bv4 (format : BitVec 8) (imm : BitVec 32) (lA : Option Addr) (lN : Nat) (lC : Nat) (w : BitVec 32) (t16A : Option Addr) (t16N : Nat) (t16C : Nat) (t17 : Int) (t18 : Int) (t210 : Int) (t211 : Int) (t212 : Int) : (BitVec 32 × Bool) ⊕ (BitVec 8 × BitVec 32 × BitVec 32 × Int × Int) :=
  let c1 := word_Bits.v imm t212 t211
  .inr (format, imm, (w ||| (c1 <<< (Int.toNat t210))), t17, (IntKind.wrap .i64 (t18 + 1)))
theorem enc_Lay.b4_v {K : Value → Store → Prop} {σ : Store} {rr4 : enc_Lay.R4} (F : ((BitVec 32 × Bool) ⊕ (BitVec 8 × BitVec 32 × BitVec 32 × Int × Int)) → Prop) (format : BitVec 8) (imm : BitVec 32) (lA : Option Addr) (lN : Nat) (lC : Nat) (w : BitVec 32) (t16A : Option Addr) (t16N : Nat) (t16C : Nat) (t17 : Int) (t18 : Int) (t210 : Int) (t211 : Int) (t212 : Int) (hk : ∀ r, F (.inl r) → K (.tuple #[.int .u32 (BitVec.toNat r.1 : Int), .bool r.2]) σ) (hrr : ∀ s, F (.inr s) → rr4 (BitVec.toNat s.1 : Int) (BitVec.toNat s.2.1 : Int) lA lN lC (BitVec.toNat s.2.2.1 : Int) t16A t16N t16C s.2.2.2.1 s.2.2.2.2 σ) (hp : 0 ≤ t210) (hc : ((decide (t18 < t17))) = true) (hr0 : ∀ Body : Nat → Nat → Prop, (∀ B O, cellsAt σ B (O + t18.toNat * 3) 3 = some [.int .i64 t210, .int .i64 t211, .int .i64 t212] → Body B O) → Req ((decide (0 ≤ t18)) && (decide (t18 < ((t16N : Nat) : Int)))) (PtrNN t16A Body)) (hF : F (enc_Lay.bv4 format imm lA lN lC w t16A t16N t16C t17 t18 t210 t211 t212)) : enc_Lay.b4 K rr4 (BitVec.toNat format : Int) (BitVec.toNat imm : Int) lA lN lC (BitVec.toNat w : Int) t16A t16N t16C t17 t18 σ := by
  unfold enc_Lay.b4
  unfold enc_Lay.bv4 at hF
  try dsimp only at hF
  refine cond_t (hc) ?_
  refine hr0 _ fun B O hc => ⟨_, _, _, hc, ?_⟩
  refine Pur.use (word_Bits.pur imm t212 t211 σ) (rfl) ⟨_, rfl, ?_⟩
  refine rq (by (try clear hF); (try clear hk); (try clear hrr); (try simp only [IntKind.wrap_i64, wrap_u64_lit, decide_eq_true_eq, decide_eq_false_iff_not, Bool.and_eq_true, bne_iff_ne, beq_iff_eq, Bool.not_eq_true', Bool.not_eq_false', ne_eq, beq_eq_false_iff_ne, Int.not_lt, Int.not_le, Bool.false_eq_true, false_implies, true_implies] at *) <;> first | omega | (split <;> omega) | (simp_all; done) | (simp_all; omega)) ?_
  exact hopI (Eq.mp (by simp only [or_u32, shl_u32, Int.toNat_natCast, Int.reduceToNat, toI64_u32, toI64_u8, toI64_u64, wrap_i64_toInt32, BitVec.ofInt_add, ofInt_toNat, ofInt_toNat', ofInt_toInt, BitVec.setWidth_eq, lit_u, BitVec.reduceOfInt, BitVec.reduceToNat, Nat.reducePow, Nat.reduceMod, Int.cast_ofNat_Int, Int.natCast_zero, Int.natCast_one, Int.reduceLT, Int.reduceLE, Int.reducePow, and_self, Int.zero_sub, BitVec.zero_sub]) (hrr _ hF))

/-! ### isa_row_imm -/
def isa_row_imm.v (r0 : Int) (r1 : ByteArray) (r2 : Int) (r3 : BitVec 32) (r4 : BitVec 32) (r5 : BitVec 32) (r6 : Int) (w : BitVec 32) : BitVec 32 :=
  bif (r2 == 5) then
    let c1 := word_Bits.v w 20 5
    c1
  else
    bif (r2 == 7) then
      let c2 := word_Bits.v w 20 8
      c2
    else
      bif (r2 == 11) then
        let c3 := word_Bits.v w 15 5
        c3
      else
        let c4 := isa_row_format.v r0 r1 r2 r3 r4 r5 r6
        let c5 := enc_Imm.v c4 w
        c5
theorem isa_row_imm.m_v {K : Value → Store → Prop} {σ : Store} (F : (BitVec 32) → Prop) (r0 : Int) (r1 : ByteArray) (r2 : Int) (r3 : BitVec 32) (r4 : BitVec 32) (r5 : BitVec 32) (r6 : Int) (w : BitVec 32) (hk : ∀ r, F r → K (.int .u32 (BitVec.toNat r : Int)) σ) (hF : F (isa_row_imm.v r0 r1 r2 r3 r4 r5 r6 w)) : isa_row_imm.m K r0 r1 r2 (BitVec.toNat r3 : Int) (BitVec.toNat r4 : Int) (BitVec.toNat r5 : Int) r6 (BitVec.toNat w : Int) σ := by
  unfold isa_row_imm.m
  unfold isa_row_imm.v at hF
  try dsimp only at hF
  refine cond_v (F := F) (rfl) hF (fun h hF => ?_) (fun h hF => ?_)
  · skip
    refine Pur.use (word_Bits.pur w 20 5 σ) (rfl) ⟨_, rfl, ?_⟩
    exact hk _ hF
  · skip
    refine cond_v (F := F) (rfl) hF (fun h hF => ?_) (fun h hF => ?_)
    · skip
      refine Pur.use (word_Bits.pur w 20 8 σ) (rfl) ⟨_, rfl, ?_⟩
      exact hk _ hF
    · skip
      refine cond_v (F := F) (rfl) hF (fun h hF => ?_) (fun h hF => ?_)
      · skip
        refine Pur.use (word_Bits.pur w 15 5 σ) (rfl) ⟨_, rfl, ?_⟩
        exact hk _ hF
      · skip
        refine Pur.use (isa_row_format.pur r0 r1 r2 r3 r4 r5 r6 σ) (rfl) ⟨_, rfl, ?_⟩
        refine Pur.use (enc_Imm.pur (isa_row_format.v r0 r1 r2 r3 r4 r5 r6) w σ) (rfl) ⟨_, rfl, ?_⟩
        exact hk _ hF
theorem isa_row_imm.pur (r0 : Int) (r1 : ByteArray) (r2 : Int) (r3 : BitVec 32) (r4 : BitVec 32) (r5 : BitVec 32) (r6 : Int) (w : BitVec 32) (σ : Store) : Pur Pr F.isa_row_imm [.agg #[.int .i64 r0, .string r1, .int .i64 r2, .int .u32 (BitVec.toNat r3 : Int), .int .u32 (BitVec.toNat r4 : Int), .int .u32 (BitVec.toNat r5 : Int), .int .i64 r6], .int .u32 (BitVec.toNat w : Int)] σ (.int .u32 (BitVec.toNat ((isa_row_imm.v r0 r1 r2 r3 r4 r5 r6 w)) : Int)) := fun K hK =>
  isa_row_imm.ok (isa_row_imm.m_v (fun r => K (.int .u32 (BitVec.toNat r : Int)) σ) r0 r1 r2 r3 r4 r5 r6 w (fun _ h => h) hK)

/-! ### isa_row_decode -/
def isa_row_decode.v18 (w : BitVec 32) (t52 : Bool) (t40 : Int) (t41 : Int) (t42 : Int) (t43 : Int) (t44 : Int) (t45 : BitVec 32) (t46 : Bool) (t47 : Bool) (i0 : Int) (i1 : Int) (i2 : Int) (i3 : Int) (i4 : Int) (i5 : BitVec 32) (i6 : Bool) (i7 : Bool) : Int × Int × Int × Int × Int × BitVec 32 × Bool × Bool :=
  bif t52 then
    let c1 := word_Bits.v w 26 1
    let c2 := word_Bits.v w 25 1
    (i0, i1, i2, i3, i4, i5, (c1 == 1#32), (c2 == 1#32))
  else
    (i0, i1, i2, i3, i4, i5, i6, i7)
theorem isa_row_decode.j18_v {K : Value → Store → Prop} {σ : Store} (F : (Int × Int × Int × Int × Int × BitVec 32 × Bool × Bool) → Prop) (w : BitVec 32) (t52 : Bool) (t40 : Int) (t41 : Int) (t42 : Int) (t43 : Int) (t44 : Int) (t45 : BitVec 32) (t46 : Bool) (t47 : Bool) (i0 : Int) (i1 : Int) (i2 : Int) (i3 : Int) (i4 : Int) (i5 : BitVec 32) (i6 : Bool) (i7 : Bool) (hk : ∀ r, F r → K (.agg #[.int .i64 r.1, .int .i64 r.2.1, .int .i64 r.2.2.1, .int .i64 r.2.2.2.1, .int .i64 r.2.2.2.2.1, .int .u32 (BitVec.toNat r.2.2.2.2.2.1 : Int), .bool r.2.2.2.2.2.2.1, .bool r.2.2.2.2.2.2.2]) σ) (hF : F (isa_row_decode.v18 w t52 t40 t41 t42 t43 t44 t45 t46 t47 i0 i1 i2 i3 i4 i5 i6 i7)) : isa_row_decode.j18 K (BitVec.toNat w : Int) t52 t40 t41 t42 t43 t44 (BitVec.toNat t45 : Int) t46 t47 i0 i1 i2 i3 i4 (BitVec.toNat i5 : Int) i6 i7 σ := by
  unfold isa_row_decode.j18
  unfold isa_row_decode.v18 at hF
  try dsimp only at hF
  refine cond_v (F := F) (rfl) hF (fun h hF => ?_) (fun h hF => ?_)
  · skip
    refine Pur.use (word_Bits.pur w 26 1 σ) (rfl) ⟨_, rfl, ?_⟩
    refine Pur.use (word_Bits.pur w 25 1 σ) (rfl) ⟨_, rfl, ?_⟩
    exact Eq.mp (by simp only [beq_nat, beq_lit, ofInt_toNat, ofInt_toNat', ofInt_toInt, BitVec.setWidth_eq, lit_u, BitVec.reduceOfInt, BitVec.reduceToNat, Nat.reducePow, Nat.reduceMod, Int.cast_ofNat_Int, Int.natCast_zero, Int.natCast_one, Int.reduceLT, Int.reduceLE, Int.reducePow, and_self, Int.zero_sub, BitVec.zero_sub]) (hk _ hF)
  · skip
    exact hk _ hF
def isa_row_decode.v15 (w : BitVec 32) (t44 : Int) (t45 : Bool) (t40 : Int) (t41 : Int) (t42 : Int) (t43 : Int) (t44_1 : Int) (t45_1 : BitVec 32) (t46 : Bool) (t47 : Bool) (i0 : Int) (i1 : Int) (i2 : Int) (i3 : Int) (i4 : Int) (i5 : BitVec 32) (i6 : Bool) (i7 : Bool) : Int × Int × Int × Int × Int × BitVec 32 × Bool × Bool :=
  bif t45 then
    let c1 := word_Bits.v w 20 12
    (i0, i1, i2, i3, (BitVec.toNat c1 : Int), i5, i6, i7)
  else
    bif (t44 == 12) then
      isa_row_decode.v18 w true t40 t41 t42 t43 t44_1 t45_1 t46 t47 i0 i1 i2 i3 i4 i5 i6 i7
    else
      isa_row_decode.v18 w (t44 == 13) t40 t41 t42 t43 t44_1 t45_1 t46 t47 i0 i1 i2 i3 i4 i5 i6 i7
theorem isa_row_decode.j15_v {K : Value → Store → Prop} {σ : Store} (F : (Int × Int × Int × Int × Int × BitVec 32 × Bool × Bool) → Prop) (w : BitVec 32) (t44 : Int) (t45 : Bool) (t40 : Int) (t41 : Int) (t42 : Int) (t43 : Int) (t44_1 : Int) (t45_1 : BitVec 32) (t46 : Bool) (t47 : Bool) (i0 : Int) (i1 : Int) (i2 : Int) (i3 : Int) (i4 : Int) (i5 : BitVec 32) (i6 : Bool) (i7 : Bool) (hk : ∀ r, F r → K (.agg #[.int .i64 r.1, .int .i64 r.2.1, .int .i64 r.2.2.1, .int .i64 r.2.2.2.1, .int .i64 r.2.2.2.2.1, .int .u32 (BitVec.toNat r.2.2.2.2.2.1 : Int), .bool r.2.2.2.2.2.2.1, .bool r.2.2.2.2.2.2.2]) σ) (hF : F (isa_row_decode.v15 w t44 t45 t40 t41 t42 t43 t44_1 t45_1 t46 t47 i0 i1 i2 i3 i4 i5 i6 i7)) : isa_row_decode.j15 K (BitVec.toNat w : Int) t44 t45 t40 t41 t42 t43 t44_1 (BitVec.toNat t45_1 : Int) t46 t47 i0 i1 i2 i3 i4 (BitVec.toNat i5 : Int) i6 i7 σ := by
  unfold isa_row_decode.j15
  unfold isa_row_decode.v15 at hF
  try dsimp only at hF
  refine cond_v (F := F) (rfl) hF (fun h hF => ?_) (fun h hF => ?_)
  · skip
    refine Pur.use (word_Bits.pur w 20 12 σ) (rfl) ⟨_, rfl, ?_⟩
    exact Eq.mp (by simp only [toI64_u32, toI64_u8, toI64_u64, wrap_i64_toInt32, ofInt_toNat, ofInt_toNat', ofInt_toInt, BitVec.setWidth_eq, lit_u, BitVec.reduceOfInt, BitVec.reduceToNat, Nat.reducePow, Nat.reduceMod, Int.cast_ofNat_Int, Int.natCast_zero, Int.natCast_one, Int.reduceLT, Int.reduceLE, Int.reducePow, and_self, Int.zero_sub, BitVec.zero_sub]) (hk _ hF)
  · skip
    refine cond_v (F := F) (rfl) hF (fun h hF => ?_) (fun h hF => ?_)
    · skip
      exact hopI (isa_row_decode.j18_v F w true t40 t41 t42 t43 t44_1 t45_1 t46 t47 i0 i1 i2 i3 i4 i5 i6 i7 hk hF)
    · skip
      exact hopI (isa_row_decode.j18_v F w (t44 == 13) t40 t41 t42 t43 t44_1 t45_1 t46 t47 i0 i1 i2 i3 i4 i5 i6 i7 hk hF)
def isa_row_decode.v12 (w : BitVec 32) (r0 : Int) (r1 : ByteArray) (r2 : Int) (r3 : BitVec 32) (r4 : BitVec 32) (r5 : BitVec 32) (r6 : Int) (t40 : Int) (t41 : Int) (t42 : Int) (t43 : Int) (t44 : Int) (t45 : BitVec 32) (t46 : Bool) (t47 : Bool) (i0 : Int) (i1 : Int) (i2 : Int) (i3 : Int) (i4 : Int) (i5 : BitVec 32) (i6 : Bool) (i7 : Bool) : Int × Int × Int × Int × Int × BitVec 32 × Bool × Bool :=
  bif (r2 == 10) then
    isa_row_decode.v15 w r2 true t40 t41 t42 t43 t44 t45 t46 t47 i0 i1 i2 i3 i4 i5 i6 i7
  else
    isa_row_decode.v15 w r2 (r2 == 11) t40 t41 t42 t43 t44 t45 t46 t47 i0 i1 i2 i3 i4 i5 i6 i7
theorem isa_row_decode.j12_v {K : Value → Store → Prop} {σ : Store} (F : (Int × Int × Int × Int × Int × BitVec 32 × Bool × Bool) → Prop) (w : BitVec 32) (r0 : Int) (r1 : ByteArray) (r2 : Int) (r3 : BitVec 32) (r4 : BitVec 32) (r5 : BitVec 32) (r6 : Int) (t40 : Int) (t41 : Int) (t42 : Int) (t43 : Int) (t44 : Int) (t45 : BitVec 32) (t46 : Bool) (t47 : Bool) (i0 : Int) (i1 : Int) (i2 : Int) (i3 : Int) (i4 : Int) (i5 : BitVec 32) (i6 : Bool) (i7 : Bool) (hk : ∀ r, F r → K (.agg #[.int .i64 r.1, .int .i64 r.2.1, .int .i64 r.2.2.1, .int .i64 r.2.2.2.1, .int .i64 r.2.2.2.2.1, .int .u32 (BitVec.toNat r.2.2.2.2.2.1 : Int), .bool r.2.2.2.2.2.2.1, .bool r.2.2.2.2.2.2.2]) σ) (hF : F (isa_row_decode.v12 w r0 r1 r2 r3 r4 r5 r6 t40 t41 t42 t43 t44 t45 t46 t47 i0 i1 i2 i3 i4 i5 i6 i7)) : isa_row_decode.j12 K (BitVec.toNat w : Int) r0 r1 r2 (BitVec.toNat r3 : Int) (BitVec.toNat r4 : Int) (BitVec.toNat r5 : Int) r6 t40 t41 t42 t43 t44 (BitVec.toNat t45 : Int) t46 t47 i0 i1 i2 i3 i4 (BitVec.toNat i5 : Int) i6 i7 σ := by
  unfold isa_row_decode.j12
  unfold isa_row_decode.v12 at hF
  try dsimp only at hF
  refine cond_v (F := F) (rfl) hF (fun h hF => ?_) (fun h hF => ?_)
  · skip
    exact hopI (isa_row_decode.j15_v F w r2 true t40 t41 t42 t43 t44 t45 t46 t47 i0 i1 i2 i3 i4 i5 i6 i7 hk hF)
  · skip
    exact hopI (isa_row_decode.j15_v F w r2 (r2 == 11) t40 t41 t42 t43 t44 t45 t46 t47 i0 i1 i2 i3 i4 i5 i6 i7 hk hF)
def isa_row_decode.v10 (w : BitVec 32) (imm : Bool) (r0 : Int) (r1 : ByteArray) (r2 : Int) (r3 : BitVec 32) (r4 : BitVec 32) (r5 : BitVec 32) (r6 : Int) (t40 : Int) (t41 : Int) (t42 : Int) (t43 : Int) (t44 : Int) (t45 : BitVec 32) (t46 : Bool) (t47 : Bool) (i0 : Int) (i1 : Int) (i2 : Int) (i3 : Int) (i4 : Int) (i5 : BitVec 32) (i6 : Bool) (i7 : Bool) : Int × Int × Int × Int × Int × BitVec 32 × Bool × Bool :=
  bif imm then
    let c1 := isa_row_imm.v r0 r1 r2 r3 r4 r5 r6 w
    isa_row_decode.v12 w r0 r1 r2 r3 r4 r5 r6 t40 t41 t42 t43 t44 t45 t46 t47 i0 i1 i2 i3 i4 c1 i6 i7
  else
    isa_row_decode.v12 w r0 r1 r2 r3 r4 r5 r6 t40 t41 t42 t43 t44 t45 t46 t47 i0 i1 i2 i3 i4 i5 i6 i7
theorem isa_row_decode.j10_v {K : Value → Store → Prop} {σ : Store} (F : (Int × Int × Int × Int × Int × BitVec 32 × Bool × Bool) → Prop) (w : BitVec 32) (imm : Bool) (r0 : Int) (r1 : ByteArray) (r2 : Int) (r3 : BitVec 32) (r4 : BitVec 32) (r5 : BitVec 32) (r6 : Int) (t40 : Int) (t41 : Int) (t42 : Int) (t43 : Int) (t44 : Int) (t45 : BitVec 32) (t46 : Bool) (t47 : Bool) (i0 : Int) (i1 : Int) (i2 : Int) (i3 : Int) (i4 : Int) (i5 : BitVec 32) (i6 : Bool) (i7 : Bool) (hk : ∀ r, F r → K (.agg #[.int .i64 r.1, .int .i64 r.2.1, .int .i64 r.2.2.1, .int .i64 r.2.2.2.1, .int .i64 r.2.2.2.2.1, .int .u32 (BitVec.toNat r.2.2.2.2.2.1 : Int), .bool r.2.2.2.2.2.2.1, .bool r.2.2.2.2.2.2.2]) σ) (hF : F (isa_row_decode.v10 w imm r0 r1 r2 r3 r4 r5 r6 t40 t41 t42 t43 t44 t45 t46 t47 i0 i1 i2 i3 i4 i5 i6 i7)) : isa_row_decode.j10 K (BitVec.toNat w : Int) imm r0 r1 r2 (BitVec.toNat r3 : Int) (BitVec.toNat r4 : Int) (BitVec.toNat r5 : Int) r6 t40 t41 t42 t43 t44 (BitVec.toNat t45 : Int) t46 t47 i0 i1 i2 i3 i4 (BitVec.toNat i5 : Int) i6 i7 σ := by
  unfold isa_row_decode.j10
  unfold isa_row_decode.v10 at hF
  try dsimp only at hF
  refine cond_v (F := F) (rfl) hF (fun h hF => ?_) (fun h hF => ?_)
  · skip
    refine Pur.use (isa_row_imm.pur r0 r1 r2 r3 r4 r5 r6 w σ) (rfl) ⟨_, rfl, ?_⟩
    exact hopI (isa_row_decode.j12_v F w r0 r1 r2 r3 r4 r5 r6 t40 t41 t42 t43 t44 t45 t46 t47 i0 i1 i2 i3 i4 (isa_row_imm.v r0 r1 r2 r3 r4 r5 r6 w) i6 i7 hk hF)
  · skip
    exact hopI (isa_row_decode.j12_v F w r0 r1 r2 r3 r4 r5 r6 t40 t41 t42 t43 t44 t45 t46 t47 i0 i1 i2 i3 i4 i5 i6 i7 hk hF)
def isa_row_decode.v8 (w : BitVec 32) (rs2 : Bool) (imm : Bool) (r0 : Int) (r1 : ByteArray) (r2 : Int) (r3 : BitVec 32) (r4 : BitVec 32) (r5 : BitVec 32) (r6 : Int) (t40 : Int) (t41 : Int) (t42 : Int) (t43 : Int) (t44 : Int) (t45 : BitVec 32) (t46 : Bool) (t47 : Bool) (h0 : BitVec 32) (h1 : BitVec 32) (h2 : BitVec 32) (h3 : BitVec 32) (h4 : BitVec 32) (h5 : BitVec 32) (i0 : Int) (i1 : Int) (i2 : Int) (i3 : Int) (i4 : Int) (i5 : BitVec 32) (i6 : Bool) (i7 : Bool) : Int × Int × Int × Int × Int × BitVec 32 × Bool × Bool :=
  bif rs2 then
    isa_row_decode.v10 w imm r0 r1 r2 r3 r4 r5 r6 t40 t41 t42 t43 t44 t45 t46 t47 i0 i1 i2 (BitVec.toNat h4 : Int) i4 i5 i6 i7
  else
    isa_row_decode.v10 w imm r0 r1 r2 r3 r4 r5 r6 t40 t41 t42 t43 t44 t45 t46 t47 i0 i1 i2 i3 i4 i5 i6 i7
theorem isa_row_decode.j8_v {K : Value → Store → Prop} {σ : Store} (F : (Int × Int × Int × Int × Int × BitVec 32 × Bool × Bool) → Prop) (w : BitVec 32) (rs2 : Bool) (imm : Bool) (r0 : Int) (r1 : ByteArray) (r2 : Int) (r3 : BitVec 32) (r4 : BitVec 32) (r5 : BitVec 32) (r6 : Int) (t40 : Int) (t41 : Int) (t42 : Int) (t43 : Int) (t44 : Int) (t45 : BitVec 32) (t46 : Bool) (t47 : Bool) (h0 : BitVec 32) (h1 : BitVec 32) (h2 : BitVec 32) (h3 : BitVec 32) (h4 : BitVec 32) (h5 : BitVec 32) (i0 : Int) (i1 : Int) (i2 : Int) (i3 : Int) (i4 : Int) (i5 : BitVec 32) (i6 : Bool) (i7 : Bool) (hk : ∀ r, F r → K (.agg #[.int .i64 r.1, .int .i64 r.2.1, .int .i64 r.2.2.1, .int .i64 r.2.2.2.1, .int .i64 r.2.2.2.2.1, .int .u32 (BitVec.toNat r.2.2.2.2.2.1 : Int), .bool r.2.2.2.2.2.2.1, .bool r.2.2.2.2.2.2.2]) σ) (hF : F (isa_row_decode.v8 w rs2 imm r0 r1 r2 r3 r4 r5 r6 t40 t41 t42 t43 t44 t45 t46 t47 h0 h1 h2 h3 h4 h5 i0 i1 i2 i3 i4 i5 i6 i7)) : isa_row_decode.j8 K (BitVec.toNat w : Int) rs2 imm r0 r1 r2 (BitVec.toNat r3 : Int) (BitVec.toNat r4 : Int) (BitVec.toNat r5 : Int) r6 t40 t41 t42 t43 t44 (BitVec.toNat t45 : Int) t46 t47 (BitVec.toNat h0 : Int) (BitVec.toNat h1 : Int) (BitVec.toNat h2 : Int) (BitVec.toNat h3 : Int) (BitVec.toNat h4 : Int) (BitVec.toNat h5 : Int) i0 i1 i2 i3 i4 (BitVec.toNat i5 : Int) i6 i7 σ := by
  unfold isa_row_decode.j8
  unfold isa_row_decode.v8 at hF
  try dsimp only at hF
  refine cond_v (F := F) (rfl) hF (fun h hF => ?_) (fun h hF => ?_)
  · skip
    exact hopI (Eq.mp (by simp only [toI64_u32, toI64_u8, toI64_u64, wrap_i64_toInt32, ofInt_toNat, ofInt_toNat', ofInt_toInt, BitVec.setWidth_eq, lit_u, BitVec.reduceOfInt, BitVec.reduceToNat, Nat.reducePow, Nat.reduceMod, Int.cast_ofNat_Int, Int.natCast_zero, Int.natCast_one, Int.reduceLT, Int.reduceLE, Int.reducePow, and_self, Int.zero_sub, BitVec.zero_sub]) (isa_row_decode.j10_v F w imm r0 r1 r2 r3 r4 r5 r6 t40 t41 t42 t43 t44 t45 t46 t47 i0 i1 i2 (BitVec.toNat h4 : Int) i4 i5 i6 i7 hk hF))
  · skip
    exact hopI (isa_row_decode.j10_v F w imm r0 r1 r2 r3 r4 r5 r6 t40 t41 t42 t43 t44 t45 t46 t47 i0 i1 i2 i3 i4 i5 i6 i7 hk hF)
def isa_row_decode.v6 (w : BitVec 32) (rs1 : Bool) (rs2 : Bool) (imm : Bool) (r0 : Int) (r1 : ByteArray) (r2 : Int) (r3 : BitVec 32) (r4 : BitVec 32) (r5 : BitVec 32) (r6 : Int) (t40 : Int) (t41 : Int) (t42 : Int) (t43 : Int) (t44 : Int) (t45 : BitVec 32) (t46 : Bool) (t47 : Bool) (h0 : BitVec 32) (h1 : BitVec 32) (h2 : BitVec 32) (h3 : BitVec 32) (h4 : BitVec 32) (h5 : BitVec 32) (i0 : Int) (i1 : Int) (i2 : Int) (i3 : Int) (i4 : Int) (i5 : BitVec 32) (i6 : Bool) (i7 : Bool) : Int × Int × Int × Int × Int × BitVec 32 × Bool × Bool :=
  bif rs1 then
    isa_row_decode.v8 w rs2 imm r0 r1 r2 r3 r4 r5 r6 t40 t41 t42 t43 t44 t45 t46 t47 h0 h1 h2 h3 h4 h5 i0 i1 (BitVec.toNat h3 : Int) i3 i4 i5 i6 i7
  else
    isa_row_decode.v8 w rs2 imm r0 r1 r2 r3 r4 r5 r6 t40 t41 t42 t43 t44 t45 t46 t47 h0 h1 h2 h3 h4 h5 i0 i1 i2 i3 i4 i5 i6 i7
theorem isa_row_decode.j6_v {K : Value → Store → Prop} {σ : Store} (F : (Int × Int × Int × Int × Int × BitVec 32 × Bool × Bool) → Prop) (w : BitVec 32) (rs1 : Bool) (rs2 : Bool) (imm : Bool) (r0 : Int) (r1 : ByteArray) (r2 : Int) (r3 : BitVec 32) (r4 : BitVec 32) (r5 : BitVec 32) (r6 : Int) (t40 : Int) (t41 : Int) (t42 : Int) (t43 : Int) (t44 : Int) (t45 : BitVec 32) (t46 : Bool) (t47 : Bool) (h0 : BitVec 32) (h1 : BitVec 32) (h2 : BitVec 32) (h3 : BitVec 32) (h4 : BitVec 32) (h5 : BitVec 32) (i0 : Int) (i1 : Int) (i2 : Int) (i3 : Int) (i4 : Int) (i5 : BitVec 32) (i6 : Bool) (i7 : Bool) (hk : ∀ r, F r → K (.agg #[.int .i64 r.1, .int .i64 r.2.1, .int .i64 r.2.2.1, .int .i64 r.2.2.2.1, .int .i64 r.2.2.2.2.1, .int .u32 (BitVec.toNat r.2.2.2.2.2.1 : Int), .bool r.2.2.2.2.2.2.1, .bool r.2.2.2.2.2.2.2]) σ) (hF : F (isa_row_decode.v6 w rs1 rs2 imm r0 r1 r2 r3 r4 r5 r6 t40 t41 t42 t43 t44 t45 t46 t47 h0 h1 h2 h3 h4 h5 i0 i1 i2 i3 i4 i5 i6 i7)) : isa_row_decode.j6 K (BitVec.toNat w : Int) rs1 rs2 imm r0 r1 r2 (BitVec.toNat r3 : Int) (BitVec.toNat r4 : Int) (BitVec.toNat r5 : Int) r6 t40 t41 t42 t43 t44 (BitVec.toNat t45 : Int) t46 t47 (BitVec.toNat h0 : Int) (BitVec.toNat h1 : Int) (BitVec.toNat h2 : Int) (BitVec.toNat h3 : Int) (BitVec.toNat h4 : Int) (BitVec.toNat h5 : Int) i0 i1 i2 i3 i4 (BitVec.toNat i5 : Int) i6 i7 σ := by
  unfold isa_row_decode.j6
  unfold isa_row_decode.v6 at hF
  try dsimp only at hF
  refine cond_v (F := F) (rfl) hF (fun h hF => ?_) (fun h hF => ?_)
  · skip
    exact hopI (Eq.mp (by simp only [toI64_u32, toI64_u8, toI64_u64, wrap_i64_toInt32, ofInt_toNat, ofInt_toNat', ofInt_toInt, BitVec.setWidth_eq, lit_u, BitVec.reduceOfInt, BitVec.reduceToNat, Nat.reducePow, Nat.reduceMod, Int.cast_ofNat_Int, Int.natCast_zero, Int.natCast_one, Int.reduceLT, Int.reduceLE, Int.reducePow, and_self, Int.zero_sub, BitVec.zero_sub]) (isa_row_decode.j8_v F w rs2 imm r0 r1 r2 r3 r4 r5 r6 t40 t41 t42 t43 t44 t45 t46 t47 h0 h1 h2 h3 h4 h5 i0 i1 (BitVec.toNat h3 : Int) i3 i4 i5 i6 i7 hk hF))
  · skip
    exact hopI (isa_row_decode.j8_v F w rs2 imm r0 r1 r2 r3 r4 r5 r6 t40 t41 t42 t43 t44 t45 t46 t47 h0 h1 h2 h3 h4 h5 i0 i1 i2 i3 i4 i5 i6 i7 hk hF)
def isa_row_decode.v (r0 : Int) (r1 : ByteArray) (r2 : Int) (r3 : BitVec 32) (r4 : BitVec 32) (r5 : BitVec 32) (r6 : Int) (w : BitVec 32) : Int × Int × Int × Int × Int × BitVec 32 × Bool × Bool :=
  let c1 := enc_Split.v w
  let c2 := isa_row_uses.v r0 r1 r2 r3 r4 r5 r6
  bif c2.1 then
    isa_row_decode.v6 w c2.2.1 c2.2.2.1 c2.2.2.2 r0 r1 r2 r3 r4 r5 r6 0 0 0 0 0 0#32 false false c1.1 c1.2.1 c1.2.2.1 c1.2.2.2.1 c1.2.2.2.2.1 c1.2.2.2.2.2 r0 (BitVec.toNat c1.2.1 : Int) 0 0 0 0#32 false false
  else
    isa_row_decode.v6 w c2.2.1 c2.2.2.1 c2.2.2.2 r0 r1 r2 r3 r4 r5 r6 0 0 0 0 0 0#32 false false c1.1 c1.2.1 c1.2.2.1 c1.2.2.2.1 c1.2.2.2.2.1 c1.2.2.2.2.2 r0 0 0 0 0 0#32 false false
theorem isa_row_decode.m_v {K : Value → Store → Prop} {σ : Store} (F : (Int × Int × Int × Int × Int × BitVec 32 × Bool × Bool) → Prop) (r0 : Int) (r1 : ByteArray) (r2 : Int) (r3 : BitVec 32) (r4 : BitVec 32) (r5 : BitVec 32) (r6 : Int) (w : BitVec 32) (hk : ∀ r, F r → K (.agg #[.int .i64 r.1, .int .i64 r.2.1, .int .i64 r.2.2.1, .int .i64 r.2.2.2.1, .int .i64 r.2.2.2.2.1, .int .u32 (BitVec.toNat r.2.2.2.2.2.1 : Int), .bool r.2.2.2.2.2.2.1, .bool r.2.2.2.2.2.2.2]) σ) (hF : F (isa_row_decode.v r0 r1 r2 r3 r4 r5 r6 w)) : isa_row_decode.m K r0 r1 r2 (BitVec.toNat r3 : Int) (BitVec.toNat r4 : Int) (BitVec.toNat r5 : Int) r6 (BitVec.toNat w : Int) σ := by
  unfold isa_row_decode.m
  unfold isa_row_decode.v at hF
  try dsimp only at hF
  refine Pur.use (enc_Split.pur w σ) (rfl) ⟨_, _, _, _, _, _, rfl, ?_⟩
  refine Pur.use (isa_row_uses.pur r0 r1 r2 r3 r4 r5 r6 σ) (rfl) ⟨_, _, _, _, rfl, ?_⟩
  refine cond_v (F := F) (rfl) hF (fun h hF => ?_) (fun h hF => ?_)
  · skip
    exact hopI (Eq.mp (by simp only [toI64_u32, toI64_u8, toI64_u64, wrap_i64_toInt32, ofInt_toNat, ofInt_toNat', ofInt_toInt, BitVec.setWidth_eq, lit_u, BitVec.reduceOfInt, BitVec.reduceToNat, Nat.reducePow, Nat.reduceMod, Int.cast_ofNat_Int, Int.natCast_zero, Int.natCast_one, Int.reduceLT, Int.reduceLE, Int.reducePow, and_self, Int.zero_sub, BitVec.zero_sub]) (isa_row_decode.j6_v F w ((isa_row_uses.v r0 r1 r2 r3 r4 r5 r6).2.1) ((isa_row_uses.v r0 r1 r2 r3 r4 r5 r6).2.2.1) ((isa_row_uses.v r0 r1 r2 r3 r4 r5 r6).2.2.2) r0 r1 r2 r3 r4 r5 r6 0 0 0 0 0 0#32 false false ((enc_Split.v w).1) ((enc_Split.v w).2.1) ((enc_Split.v w).2.2.1) ((enc_Split.v w).2.2.2.1) ((enc_Split.v w).2.2.2.2.1) ((enc_Split.v w).2.2.2.2.2) r0 (BitVec.toNat (enc_Split.v w).2.1 : Int) 0 0 0 0#32 false false hk hF))
  · skip
    exact hopI (Eq.mp (by simp only [ofInt_toNat, ofInt_toNat', ofInt_toInt, BitVec.setWidth_eq, lit_u, BitVec.reduceOfInt, BitVec.reduceToNat, Nat.reducePow, Nat.reduceMod, Int.cast_ofNat_Int, Int.natCast_zero, Int.natCast_one, Int.reduceLT, Int.reduceLE, Int.reducePow, and_self, Int.zero_sub, BitVec.zero_sub]) (isa_row_decode.j6_v F w ((isa_row_uses.v r0 r1 r2 r3 r4 r5 r6).2.1) ((isa_row_uses.v r0 r1 r2 r3 r4 r5 r6).2.2.1) ((isa_row_uses.v r0 r1 r2 r3 r4 r5 r6).2.2.2) r0 r1 r2 r3 r4 r5 r6 0 0 0 0 0 0#32 false false ((enc_Split.v w).1) ((enc_Split.v w).2.1) ((enc_Split.v w).2.2.1) ((enc_Split.v w).2.2.2.1) ((enc_Split.v w).2.2.2.2.1) ((enc_Split.v w).2.2.2.2.2) r0 0 0 0 0 0#32 false false hk hF))
theorem isa_row_decode.pur (r0 : Int) (r1 : ByteArray) (r2 : Int) (r3 : BitVec 32) (r4 : BitVec 32) (r5 : BitVec 32) (r6 : Int) (w : BitVec 32) (σ : Store) : Pur Pr F.isa_row_decode [.agg #[.int .i64 r0, .string r1, .int .i64 r2, .int .u32 (BitVec.toNat r3 : Int), .int .u32 (BitVec.toNat r4 : Int), .int .u32 (BitVec.toNat r5 : Int), .int .i64 r6], .int .u32 (BitVec.toNat w : Int)] σ (.agg #[.int .i64 ((isa_row_decode.v r0 r1 r2 r3 r4 r5 r6 w).1), .int .i64 ((isa_row_decode.v r0 r1 r2 r3 r4 r5 r6 w).2.1), .int .i64 ((isa_row_decode.v r0 r1 r2 r3 r4 r5 r6 w).2.2.1), .int .i64 ((isa_row_decode.v r0 r1 r2 r3 r4 r5 r6 w).2.2.2.1), .int .i64 ((isa_row_decode.v r0 r1 r2 r3 r4 r5 r6 w).2.2.2.2.1), .int .u32 (BitVec.toNat ((isa_row_decode.v r0 r1 r2 r3 r4 r5 r6 w).2.2.2.2.2.1) : Int), .bool ((isa_row_decode.v r0 r1 r2 r3 r4 r5 r6 w).2.2.2.2.2.2.1), .bool ((isa_row_decode.v r0 r1 r2 r3 r4 r5 r6 w).2.2.2.2.2.2.2)]) := fun K hK =>
  isa_row_decode.ok (isa_row_decode.m_v (fun r => K (.agg #[.int .i64 r.1, .int .i64 r.2.1, .int .i64 r.2.2.1, .int .i64 r.2.2.2.1, .int .i64 r.2.2.2.2.1, .int .u32 (BitVec.toNat r.2.2.2.2.2.1 : Int), .bool r.2.2.2.2.2.2.1, .bool r.2.2.2.2.2.2.2]) σ) r0 r1 r2 r3 r4 r5 r6 w (fun _ h => h) hK)

/-! ### isa_Decode -/
def isa_Decode.v7 (t20 : Int) (t21 : Int) (t22 : Int) (t23 : Int) (t24 : Int) (t25 : BitVec 32) (t26 : Bool) (t27 : Bool) : Int × Int × Int × Int × Int × BitVec 32 × Bool × Bool × Bool :=
  (0, 0, 0, 0, 0, 0#32, false, false, false)
theorem isa_Decode.j7_v {K : Value → Store → Prop} {σ : Store} (F : (Int × Int × Int × Int × Int × BitVec 32 × Bool × Bool × Bool) → Prop) (t20 : Int) (t21 : Int) (t22 : Int) (t23 : Int) (t24 : Int) (t25 : BitVec 32) (t26 : Bool) (t27 : Bool) (hk : ∀ r, F r → K (.tuple #[.agg #[.int .i64 r.1, .int .i64 r.2.1, .int .i64 r.2.2.1, .int .i64 r.2.2.2.1, .int .i64 r.2.2.2.2.1, .int .u32 (BitVec.toNat r.2.2.2.2.2.1 : Int), .bool r.2.2.2.2.2.2.1, .bool r.2.2.2.2.2.2.2.1], .bool r.2.2.2.2.2.2.2.2]) σ) (hF : F (isa_Decode.v7 t20 t21 t22 t23 t24 t25 t26 t27)) : isa_Decode.j7 K t20 t21 t22 t23 t24 (BitVec.toNat t25 : Int) t26 t27 σ := by
  unfold isa_Decode.j7
  unfold isa_Decode.v7 at hF
  try dsimp only at hF
  exact hk _ hF
def isa_Decode.bv2 (w : BitVec 32) (t6A : Option Addr) (t6N : Nat) (t6C : Nat) (t7 : Int) (t8 : Int) (t20 : Int) (t21 : Int) (t22 : Int) (t23 : Int) (t24 : Int) (t25 : BitVec 32) (t26 : Bool) (t27 : Bool) (t110 : Int) (t111 : ByteArray) (t112 : Int) (t113 : BitVec 32) (t114 : BitVec 32) (t115 : BitVec 32) (t116 : Int) : (Int × Int × Int × Int × Int × BitVec 32 × Bool × Bool × Bool) ⊕ (BitVec 32 × Int × Int × Int × Int × Int × Int × Int × BitVec 32 × Bool × Bool) :=
  let c1 := isa_row_fits.v t110 t111 t112 t113 t114 t115 t116 w
  bif c1 then
    let c2 := isa_row_decode.v t110 t111 t112 t113 t114 t115 t116 w
    .inl (c2.1, c2.2.1, c2.2.2.1, c2.2.2.2.1, c2.2.2.2.2.1, c2.2.2.2.2.2.1, c2.2.2.2.2.2.2.1, c2.2.2.2.2.2.2.2, true)
  else
    .inr (w, t7, (IntKind.wrap .i64 (t8 + 1)), t20, t21, t22, t23, t24, t25, t26, t27)
theorem isa_Decode.b2_v {K : Value → Store → Prop} {σ : Store} {rr2 : isa_Decode.R2} (F : ((Int × Int × Int × Int × Int × BitVec 32 × Bool × Bool × Bool) ⊕ (BitVec 32 × Int × Int × Int × Int × Int × Int × Int × BitVec 32 × Bool × Bool)) → Prop) (w : BitVec 32) (t6A : Option Addr) (t6N : Nat) (t6C : Nat) (t7 : Int) (t8 : Int) (t20 : Int) (t21 : Int) (t22 : Int) (t23 : Int) (t24 : Int) (t25 : BitVec 32) (t26 : Bool) (t27 : Bool) (t110 : Int) (t111 : ByteArray) (t112 : Int) (t113 : BitVec 32) (t114 : BitVec 32) (t115 : BitVec 32) (t116 : Int) (hk : ∀ r, F (.inl r) → K (.tuple #[.agg #[.int .i64 r.1, .int .i64 r.2.1, .int .i64 r.2.2.1, .int .i64 r.2.2.2.1, .int .i64 r.2.2.2.2.1, .int .u32 (BitVec.toNat r.2.2.2.2.2.1 : Int), .bool r.2.2.2.2.2.2.1, .bool r.2.2.2.2.2.2.2.1], .bool r.2.2.2.2.2.2.2.2]) σ) (hrr : ∀ s, F (.inr s) → rr2 (BitVec.toNat s.1 : Int) t6A t6N t6C s.2.1 s.2.2.1 s.2.2.2.1 s.2.2.2.2.1 s.2.2.2.2.2.1 s.2.2.2.2.2.2.1 s.2.2.2.2.2.2.2.1 (BitVec.toNat s.2.2.2.2.2.2.2.2.1 : Int) s.2.2.2.2.2.2.2.2.2.1 s.2.2.2.2.2.2.2.2.2.2 σ) (hc : ((decide (t8 < t7))) = true) (hr0 : ∀ Body : Nat → Nat → Prop, (∀ B O, cellsAt σ B (O + t8.toNat * 7) 7 = some [.int .i64 t110, .string t111, .int .i64 t112, .int .u32 (BitVec.toNat t113 : Int), .int .u32 (BitVec.toNat t114 : Int), .int .u32 (BitVec.toNat t115 : Int), .int .i64 t116] → Body B O) → Req ((decide (0 ≤ t8)) && (decide (t8 < ((t6N : Nat) : Int)))) (PtrNN t6A Body)) (hF : F (isa_Decode.bv2 w t6A t6N t6C t7 t8 t20 t21 t22 t23 t24 t25 t26 t27 t110 t111 t112 t113 t114 t115 t116)) : isa_Decode.b2 K rr2 (BitVec.toNat w : Int) t6A t6N t6C t7 t8 t20 t21 t22 t23 t24 (BitVec.toNat t25 : Int) t26 t27 σ := by
  unfold isa_Decode.b2
  unfold isa_Decode.bv2 at hF
  try dsimp only at hF
  refine cond_t (hc) ?_
  refine hr0 _ fun B O hc => ⟨_, _, _, _, _, _, _, hc, ?_⟩
  refine Pur.use (isa_row_fits.pur t110 t111 t112 t113 t114 t115 t116 w σ) (rfl) ⟨_, rfl, ?_⟩
  refine cond_v (F := F) (rfl) hF (fun h hF => ?_) (fun h hF => ?_)
  · skip
    refine Pur.use (isa_row_decode.pur t110 t111 t112 t113 t114 t115 t116 w σ) (rfl) ⟨_, _, _, _, _, _, _, _, rfl, ?_⟩
    exact hk _ hF
  · skip
    exact hopI (hrr _ hF)

end Go.Ev
