/-
  Instructions: the document's table, its Of and Decode keep to plain functions.
  Conditions: none.
-/
import Derived.Test.YtohkplmfihhhnaaDoorV3
set_option linter.unusedVariables false
namespace Go.Ev
open Go

theorem row_loop {σ : Store} (u : ByteArray) (hu : u.size < 4611686018427387904) {K : Value → Store → Prop} (t0 : Int) (t1 : ByteArray) (t2 t3 t4 : BitVec 32) (t5 t6 : Bool) (t7 : BitVec 8) (t8 t9 t10 t11 : Bool) (t12 : BitVec 32) (t13 : Bool) (r0 : Int) (r1 : ByteArray) (r2 r3 r4 : BitVec 32) (r5 r6 : Bool) (r7 : BitVec 8) (r12 : BitVec 32) :
    ∀ (r i : Nat) (f : Flags), i + r = u.size → K (.agg (RRow.cells ⟨r0, r1, r2, r3, r4, r5, r6, r7, (flagsF u r i f).rd, (flagsF u r i f).rs1, (flagsF u r i f).rs2, (flagsF u r i f).csr, r12, (flagsF u r i f).pair⟩).toArray) σ →
      corralref1_row.l9 K (r + 1) u (i : Int) t0 t1 (BitVec.toNat t2 : Int) (BitVec.toNat t3 : Int) (BitVec.toNat t4 : Int) t5 t6 (BitVec.toNat t7 : Int) t8 t9 t10 t11 (BitVec.toNat t12 : Int) t13 r0 r1 (BitVec.toNat r2 : Int) (BitVec.toNat r3 : Int) (BitVec.toNat r4 : Int) r5 r6 (BitVec.toNat r7 : Int) f.rd f.rs1 f.rs2 f.csr (BitVec.toNat r12 : Int) f.pair σ
  | 0, i, f, hi, hK => by
    refine cond_f (by simp; omega) (hopI ?_)
    exact hK
  | r + 1, i, f, hi, hK => by
    have hi2 : i < u.size := by omega
    refine corralref1_row.b9_v (fun s => s = corralref1_row.bv9 u i t0 t1 t2 t3 t4 t5 t6 t7 t8 t9 t10 t11 t12 t13 r0 r1 r2 r3 r4 r5 r6 r7 f.rd f.rs1 f.rs2 f.csr r12 f.pair) u i t0 t1 t2 t3 t4 t5 t6 t7 t8 t9 t10 t11 t12 t13 r0 r1 r2 r3 r4 r5 r6 r7 f.rd f.rs1 f.rs2 f.csr r12 f.pair (fun s hs => ?_) (fun s hs => ?_) (by omega) (by simp; omega) rfl
    · unfold corralref1_row.bv9 at hs
      exfalso
      revert hs
      cases byteAt u (Int.toNat i) == 100 <;> cases byteAt u (Int.toNat i) == 97 <;> cases byteAt u (Int.toNat i) == 98 <;> cases byteAt u (Int.toNat i) == 99 <;> cases byteAt u (Int.toNat i) == 112 <;> (intro hs; cases hs)
    · have e : s = (u, IntKind.wrap .i64 ((i : Int) + 1), t0, t1, t2, t3, t4, t5, t6, t7, t8, t9, t10, t11, t12, t13, r0, r1, r2, r3, r4, r5, r6, r7, (f.step (byteAt u i)).rd, (f.step (byteAt u i)).rs1, (f.step (byteAt u i)).rs2, (f.step (byteAt u i)).csr, r12, (f.step (byteAt u i)).pair) := by
        unfold corralref1_row.bv9 at hs
        unfold Flags.step
        rw [Int.toNat_natCast] at hs
        revert hs
        cases byteAt u i == 100 <;> cases byteAt u i == 97 <;> cases byteAt u i == 98 <;> cases byteAt u i == 99 <;> cases byteAt u i == 112 <;> (intro hs; cases hs; rfl)
      subst e
      show corralref1_row.l9 K (r + 1) u (IntKind.wrap .i64 ((i : Int) + 1)) _ _ _ _ _ _ _ _ _ _ _ _ _ _ _ _ _ _ _ _ _ _ _ _ _ _ _ _ σ
      rw [wrap_succ (by omega)]
      exact row_loop u hu t0 t1 t2 t3 t4 t5 t6 t7 t8 t9 t10 t11 t12 t13 r0 r1 r2 r3 r4 r5 r6 r7 r12 r (i + 1) (f.step (byteAt u i)) (by omega) hK

theorem row_pur (op : Int) (name : ByteArray) (oc f3 f7 : Int) (fm : BitVec 8) (u : ByteArray) (hu : u.size < 4611686018427387904) (σ : Store) :
    Pur Pr F.corralref1_row [.int .i64 op, .string name, .int .i64 oc, .int .i64 f3, .int .i64 f7, .int .u8 (BitVec.toNat fm : Int), .string u] σ (.agg (RRow.row op name oc f3 f7 fm u).cells.toArray) := fun K hK => by
  refine corralref1_row.ok ?_
  unfold corralref1_row.m corralref1_row.j5 corralref1_row.j8
  simp only [wrap_u32]
  unfold RRow.row at hK
  refine cond_i (fun h3 => hopI ?_) (fun h3 => hopI ?_) <;> refine cond_i (fun h7 => hopI ?_) (fun h7 => hopI ?_) <;>
    (rw [h3, h7] at hK; exact hopI ⟨u.size + 1, row_loop u hu 0 ByteArray.empty 0#32 0#32 0#32 false false 0#8 false false false false 0#32 false op name _ _ _ _ _ fm 0#32 u.size 0 ⟨false, false, false, false, false⟩ (by omega) hK⟩)

theorem one_pur (op : Int) (name : ByteArray) (w : BitVec 32) (σ : Store) :
    Pur Pr F.corralref1_whole [.int .i64 op, .string name, .int .u32 (BitVec.toNat w : Int)] σ (.agg (RRow.one op name w).cells.toArray) := fun K hK => by
  exact corralref1_whole.pur op name w σ K hK

set_option maxRecDepth 100000 in
theorem Rows_spec (σ : Store) {K : Value → Store → Prop} (hK : ∀ a σ', IsL RRow.cells 14 σ' a 69 rrows → σ.le σ' → K (.slice a 69 69) σ') : Spec Pr F.corralref1_Rows [] σ K := by
  refine corralref1_Rows.ok ?_
  unfold corralref1_Rows.m
  refine row_pur 1 ⟨#[108, 117, 105]⟩ 55 (-1) (-1) 85#8 ⟨#[100]⟩ (by decide) σ _ ⟨_, rfl, ?_⟩
  refine row_pur 2 ⟨#[97, 117, 105, 112, 99]⟩ 23 (-1) (-1) 85#8 ⟨#[100]⟩ (by decide) σ _ ⟨_, rfl, ?_⟩
  refine row_pur 3 ⟨#[106, 97, 108]⟩ 111 (-1) (-1) 74#8 ⟨#[100]⟩ (by decide) σ _ ⟨_, rfl, ?_⟩
  refine row_pur 4 ⟨#[106, 97, 108, 114]⟩ 103 0 (-1) 73#8 ⟨#[100, 97]⟩ (by decide) σ _ ⟨_, rfl, ?_⟩
  refine row_pur 5 ⟨#[98, 101, 113]⟩ 99 0 (-1) 66#8 ⟨#[97, 98]⟩ (by decide) σ _ ⟨_, rfl, ?_⟩
  refine row_pur 6 ⟨#[98, 110, 101]⟩ 99 1 (-1) 66#8 ⟨#[97, 98]⟩ (by decide) σ _ ⟨_, rfl, ?_⟩
  refine row_pur 7 ⟨#[98, 108, 116]⟩ 99 4 (-1) 66#8 ⟨#[97, 98]⟩ (by decide) σ _ ⟨_, rfl, ?_⟩
  refine row_pur 8 ⟨#[98, 103, 101]⟩ 99 5 (-1) 66#8 ⟨#[97, 98]⟩ (by decide) σ _ ⟨_, rfl, ?_⟩
  refine row_pur 9 ⟨#[98, 108, 116, 117]⟩ 99 6 (-1) 66#8 ⟨#[97, 98]⟩ (by decide) σ _ ⟨_, rfl, ?_⟩
  refine row_pur 10 ⟨#[98, 103, 101, 117]⟩ 99 7 (-1) 66#8 ⟨#[97, 98]⟩ (by decide) σ _ ⟨_, rfl, ?_⟩
  refine row_pur 11 ⟨#[108, 98]⟩ 3 0 (-1) 73#8 ⟨#[100, 97]⟩ (by decide) σ _ ⟨_, rfl, ?_⟩
  refine row_pur 12 ⟨#[108, 104]⟩ 3 1 (-1) 73#8 ⟨#[100, 97]⟩ (by decide) σ _ ⟨_, rfl, ?_⟩
  refine row_pur 13 ⟨#[108, 119]⟩ 3 2 (-1) 73#8 ⟨#[100, 97]⟩ (by decide) σ _ ⟨_, rfl, ?_⟩
  refine row_pur 14 ⟨#[108, 98, 117]⟩ 3 4 (-1) 73#8 ⟨#[100, 97]⟩ (by decide) σ _ ⟨_, rfl, ?_⟩
  refine row_pur 15 ⟨#[108, 104, 117]⟩ 3 5 (-1) 73#8 ⟨#[100, 97]⟩ (by decide) σ _ ⟨_, rfl, ?_⟩
  refine row_pur 16 ⟨#[115, 98]⟩ 35 0 (-1) 83#8 ⟨#[97, 98]⟩ (by decide) σ _ ⟨_, rfl, ?_⟩
  refine row_pur 17 ⟨#[115, 104]⟩ 35 1 (-1) 83#8 ⟨#[97, 98]⟩ (by decide) σ _ ⟨_, rfl, ?_⟩
  refine row_pur 18 ⟨#[115, 119]⟩ 35 2 (-1) 83#8 ⟨#[97, 98]⟩ (by decide) σ _ ⟨_, rfl, ?_⟩
  refine row_pur 19 ⟨#[97, 100, 100, 105]⟩ 19 0 (-1) 73#8 ⟨#[100, 97]⟩ (by decide) σ _ ⟨_, rfl, ?_⟩
  refine row_pur 20 ⟨#[115, 108, 116, 105]⟩ 19 2 (-1) 73#8 ⟨#[100, 97]⟩ (by decide) σ _ ⟨_, rfl, ?_⟩
  refine row_pur 21 ⟨#[115, 108, 116, 105, 117]⟩ 19 3 (-1) 73#8 ⟨#[100, 97]⟩ (by decide) σ _ ⟨_, rfl, ?_⟩
  refine row_pur 22 ⟨#[120, 111, 114, 105]⟩ 19 4 (-1) 73#8 ⟨#[100, 97]⟩ (by decide) σ _ ⟨_, rfl, ?_⟩
  refine row_pur 23 ⟨#[111, 114, 105]⟩ 19 6 (-1) 73#8 ⟨#[100, 97]⟩ (by decide) σ _ ⟨_, rfl, ?_⟩
  refine row_pur 24 ⟨#[97, 110, 100, 105]⟩ 19 7 (-1) 73#8 ⟨#[100, 97]⟩ (by decide) σ _ ⟨_, rfl, ?_⟩
  refine row_pur 25 ⟨#[115, 108, 108, 105]⟩ 19 1 0 90#8 ⟨#[100, 97]⟩ (by decide) σ _ ⟨_, rfl, ?_⟩
  refine row_pur 26 ⟨#[115, 114, 108, 105]⟩ 19 5 0 90#8 ⟨#[100, 97]⟩ (by decide) σ _ ⟨_, rfl, ?_⟩
  refine row_pur 27 ⟨#[115, 114, 97, 105]⟩ 19 5 32 90#8 ⟨#[100, 97]⟩ (by decide) σ _ ⟨_, rfl, ?_⟩
  refine row_pur 28 ⟨#[97, 100, 100]⟩ 51 0 0 0#8 ⟨#[100, 97, 98]⟩ (by decide) σ _ ⟨_, rfl, ?_⟩
  refine row_pur 29 ⟨#[115, 117, 98]⟩ 51 0 32 0#8 ⟨#[100, 97, 98]⟩ (by decide) σ _ ⟨_, rfl, ?_⟩
  refine row_pur 30 ⟨#[115, 108, 108]⟩ 51 1 0 0#8 ⟨#[100, 97, 98]⟩ (by decide) σ _ ⟨_, rfl, ?_⟩
  refine row_pur 31 ⟨#[115, 108, 116]⟩ 51 2 0 0#8 ⟨#[100, 97, 98]⟩ (by decide) σ _ ⟨_, rfl, ?_⟩
  refine row_pur 32 ⟨#[115, 108, 116, 117]⟩ 51 3 0 0#8 ⟨#[100, 97, 98]⟩ (by decide) σ _ ⟨_, rfl, ?_⟩
  refine row_pur 33 ⟨#[120, 111, 114]⟩ 51 4 0 0#8 ⟨#[100, 97, 98]⟩ (by decide) σ _ ⟨_, rfl, ?_⟩
  refine row_pur 34 ⟨#[115, 114, 108]⟩ 51 5 0 0#8 ⟨#[100, 97, 98]⟩ (by decide) σ _ ⟨_, rfl, ?_⟩
  refine row_pur 35 ⟨#[115, 114, 97]⟩ 51 5 32 0#8 ⟨#[100, 97, 98]⟩ (by decide) σ _ ⟨_, rfl, ?_⟩
  refine row_pur 36 ⟨#[111, 114]⟩ 51 6 0 0#8 ⟨#[100, 97, 98]⟩ (by decide) σ _ ⟨_, rfl, ?_⟩
  refine row_pur 37 ⟨#[97, 110, 100]⟩ 51 7 0 0#8 ⟨#[100, 97, 98]⟩ (by decide) σ _ ⟨_, rfl, ?_⟩
  refine row_pur 38 ⟨#[102, 101, 110, 99, 101]⟩ 15 0 (-1) 70#8 ⟨#[]⟩ (by decide) σ _ ⟨_, rfl, ?_⟩
  refine one_pur 39 ⟨#[102, 101, 110, 99, 101, 46, 105]⟩ 4111#32 σ _ ⟨_, rfl, ?_⟩
  refine one_pur 40 ⟨#[101, 99, 97, 108, 108]⟩ 115#32 σ _ ⟨_, rfl, ?_⟩
  refine one_pur 41 ⟨#[101, 98, 114, 101, 97, 107]⟩ 1048691#32 σ _ ⟨_, rfl, ?_⟩
  refine one_pur 42 ⟨#[109, 114, 101, 116]⟩ 807403635#32 σ _ ⟨_, rfl, ?_⟩
  refine one_pur 43 ⟨#[119, 102, 105]⟩ 273678451#32 σ _ ⟨_, rfl, ?_⟩
  refine row_pur 44 ⟨#[115, 102, 101, 110, 99, 101, 46, 118, 109, 97]⟩ 115 0 9 0#8 ⟨#[97, 98]⟩ (by decide) σ _ ⟨_, rfl, ?_⟩
  refine row_pur 45 ⟨#[99, 115, 114, 114, 119]⟩ 115 1 (-1) 0#8 ⟨#[100, 97, 99]⟩ (by decide) σ _ ⟨_, rfl, ?_⟩
  refine row_pur 46 ⟨#[99, 115, 114, 114, 115]⟩ 115 2 (-1) 0#8 ⟨#[100, 97, 99]⟩ (by decide) σ _ ⟨_, rfl, ?_⟩
  refine row_pur 47 ⟨#[99, 115, 114, 114, 99]⟩ 115 3 (-1) 0#8 ⟨#[100, 97, 99]⟩ (by decide) σ _ ⟨_, rfl, ?_⟩
  refine row_pur 48 ⟨#[99, 115, 114, 114, 119, 105]⟩ 115 5 (-1) 67#8 ⟨#[100, 99]⟩ (by decide) σ _ ⟨_, rfl, ?_⟩
  refine row_pur 49 ⟨#[99, 115, 114, 114, 115, 105]⟩ 115 6 (-1) 67#8 ⟨#[100, 99]⟩ (by decide) σ _ ⟨_, rfl, ?_⟩
  refine row_pur 50 ⟨#[99, 115, 114, 114, 99, 105]⟩ 115 7 (-1) 67#8 ⟨#[100, 99]⟩ (by decide) σ _ ⟨_, rfl, ?_⟩
  refine row_pur 51 ⟨#[109, 117, 108]⟩ 51 0 1 0#8 ⟨#[100, 97, 98]⟩ (by decide) σ _ ⟨_, rfl, ?_⟩
  refine row_pur 52 ⟨#[109, 117, 108, 104]⟩ 51 1 1 0#8 ⟨#[100, 97, 98]⟩ (by decide) σ _ ⟨_, rfl, ?_⟩
  refine row_pur 53 ⟨#[109, 117, 108, 104, 115, 117]⟩ 51 2 1 0#8 ⟨#[100, 97, 98]⟩ (by decide) σ _ ⟨_, rfl, ?_⟩
  refine row_pur 54 ⟨#[109, 117, 108, 104, 117]⟩ 51 3 1 0#8 ⟨#[100, 97, 98]⟩ (by decide) σ _ ⟨_, rfl, ?_⟩
  refine row_pur 55 ⟨#[100, 105, 118]⟩ 51 4 1 0#8 ⟨#[100, 97, 98]⟩ (by decide) σ _ ⟨_, rfl, ?_⟩
  refine row_pur 56 ⟨#[100, 105, 118, 117]⟩ 51 5 1 0#8 ⟨#[100, 97, 98]⟩ (by decide) σ _ ⟨_, rfl, ?_⟩
  refine row_pur 57 ⟨#[114, 101, 109]⟩ 51 6 1 0#8 ⟨#[100, 97, 98]⟩ (by decide) σ _ ⟨_, rfl, ?_⟩
  refine row_pur 58 ⟨#[114, 101, 109, 117]⟩ 51 7 1 0#8 ⟨#[100, 97, 98]⟩ (by decide) σ _ ⟨_, rfl, ?_⟩
  refine row_pur 59 ⟨#[108, 114, 46, 119]⟩ 47 2 2 0#8 ⟨#[100, 97, 112]⟩ (by decide) σ _ ⟨_, rfl, ?_⟩
  refine row_pur 60 ⟨#[115, 99, 46, 119]⟩ 47 2 3 0#8 ⟨#[100, 97, 98, 112]⟩ (by decide) σ _ ⟨_, rfl, ?_⟩
  refine row_pur 61 ⟨#[97, 109, 111, 115, 119, 97, 112, 46, 119]⟩ 47 2 1 0#8 ⟨#[100, 97, 98, 112]⟩ (by decide) σ _ ⟨_, rfl, ?_⟩
  refine row_pur 62 ⟨#[97, 109, 111, 97, 100, 100, 46, 119]⟩ 47 2 0 0#8 ⟨#[100, 97, 98, 112]⟩ (by decide) σ _ ⟨_, rfl, ?_⟩
  refine row_pur 63 ⟨#[97, 109, 111, 120, 111, 114, 46, 119]⟩ 47 2 4 0#8 ⟨#[100, 97, 98, 112]⟩ (by decide) σ _ ⟨_, rfl, ?_⟩
  refine row_pur 64 ⟨#[97, 109, 111, 97, 110, 100, 46, 119]⟩ 47 2 12 0#8 ⟨#[100, 97, 98, 112]⟩ (by decide) σ _ ⟨_, rfl, ?_⟩
  refine row_pur 65 ⟨#[97, 109, 111, 111, 114, 46, 119]⟩ 47 2 8 0#8 ⟨#[100, 97, 98, 112]⟩ (by decide) σ _ ⟨_, rfl, ?_⟩
  refine row_pur 66 ⟨#[97, 109, 111, 109, 105, 110, 46, 119]⟩ 47 2 16 0#8 ⟨#[100, 97, 98, 112]⟩ (by decide) σ _ ⟨_, rfl, ?_⟩
  refine row_pur 67 ⟨#[97, 109, 111, 109, 97, 120, 46, 119]⟩ 47 2 20 0#8 ⟨#[100, 97, 98, 112]⟩ (by decide) σ _ ⟨_, rfl, ?_⟩
  refine row_pur 68 ⟨#[97, 109, 111, 109, 105, 110, 117, 46, 119]⟩ 47 2 24 0#8 ⟨#[100, 97, 98, 112]⟩ (by decide) σ _ ⟨_, rfl, ?_⟩
  refine row_pur 69 ⟨#[97, 109, 111, 109, 97, 120, 117, 46, 119]⟩ 47 2 28 0#8 ⟨#[100, 97, 98, 112]⟩ (by decide) σ _ ⟨_, rfl, ?_⟩
  refine rq rfl ?_
  intro b hb
  exact hK _ _ (IsL.new RRow.cells_len rrows rfl (by kernel_rfl)) (le_new _ hb)
end Go.Ev
