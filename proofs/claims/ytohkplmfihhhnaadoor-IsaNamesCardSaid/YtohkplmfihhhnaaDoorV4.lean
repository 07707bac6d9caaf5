import Derived.Test.YtohkplmfihhhnaaDoorIs4
import Derived.Test.YtohkplmfihhhnaaDoorEr
set_option linter.unusedVariables false
set_option linter.unusedSimpArgs false
namespace Go.Ev
open Go
/-! ### corralref1_Encode -/
def corralref1_Encode.v9 (i0 : Int) (i1 : Int) (i2 : Int) (i3 : Int) (i4 : Int) (i5 : BitVec 32) (i6 : Bool) (i7 : Bool) (r0 : Int) (r1 : ByteArray) (r2 : BitVec 32) (r3 : BitVec 32) (r4 : BitVec 32) (r5 : Bool) (r6 : Bool) (r7 : BitVec 8) (r8 : Bool) (r9 : Bool) (r10 : Bool) (r11 : Bool) (r12 : BitVec 32) (r13 : Bool) : BitVec 32 × Int :=
  let c1 := corralref1_word.v r0 r1 r2 r3 r4 r5 r6 r7 r8 r9 r10 r11 r12 r13 i0 i1 i2 i3 i4 i5 i6 i7
  (c1, 0)
theorem corralref1_Encode.j9_v {K : Value → Store → Prop} {σ : Store} (F : (BitVec 32 × Int) → Prop) (i0 : Int) (i1 : Int) (i2 : Int) (i3 : Int) (i4 : Int) (i5 : BitVec 32) (i6 : Bool) (i7 : Bool) (r0 : Int) (r1 : ByteArray) (r2 : BitVec 32) (r3 : BitVec 32) (r4 : BitVec 32) (r5 : Bool) (r6 : Bool) (r7 : BitVec 8) (r8 : Bool) (r9 : Bool) (r10 : Bool) (r11 : Bool) (r12 : BitVec 32) (r13 : Bool) (hk : ∀ r, F r → K (.tuple #[.int .u32 (BitVec.toNat r.1 : Int), .int .i64 r.2]) σ) (hF : F (corralref1_Encode.v9 i0 i1 i2 i3 i4 i5 i6 i7 r0 r1 r2 r3 r4 r5 r6 r7 r8 r9 r10 r11 r12 r13)) : corralref1_Encode.j9 K i0 i1 i2 i3 i4 (BitVec.toNat i5 : Int) i6 i7 r0 r1 (BitVec.toNat r2 : Int) (BitVec.toNat r3 : Int) (BitVec.toNat r4 : Int) r5 r6 (BitVec.toNat r7 : Int) r8 r9 r10 r11 (BitVec.toNat r12 : Int) r13 σ := by
  unfold corralref1_Encode.j9
  unfold corralref1_Encode.v9 at hF
  try dsimp only at hF
  refine Pur.use (corralref1_word.pur r0 r1 r2 r3 r4 r5 r6 r7 r8 r9 r10 r11 r12 r13 i0 i1 i2 i3 i4 i5 i6 i7 σ) (rfl) ⟨_, rfl, ?_⟩
  exact hk _ hF
def corralref1_Encode.v8 (t119 : Bool) (i0 : Int) (i1 : Int) (i2 : Int) (i3 : Int) (i4 : Int) (i5 : BitVec 32) (i6 : Bool) (i7 : Bool) (r0 : Int) (r1 : ByteArray) (r2 : BitVec 32) (r3 : BitVec 32) (r4 : BitVec 32) (r5 : Bool) (r6 : Bool) (r7 : BitVec 8) (r8 : Bool) (r9 : Bool) (r10 : Bool) (r11 : Bool) (r12 : BitVec 32) (r13 : Bool) : BitVec 32 × Int :=
  bif t119 then
    (0#32, 104)
  else
    corralref1_Encode.v9 i0 i1 i2 i3 i4 i5 i6 i7 r0 r1 r2 r3 r4 r5 r6 r7 r8 r9 r10 r11 r12 r13
theorem corralref1_Encode.j8_v {K : Value → Store → Prop} {σ : Store} (F : (BitVec 32 × Int) → Prop) (t119 : Bool) (i0 : Int) (i1 : Int) (i2 : Int) (i3 : Int) (i4 : Int) (i5 : BitVec 32) (i6 : Bool) (i7 : Bool) (r0 : Int) (r1 : ByteArray) (r2 : BitVec 32) (r3 : BitVec 32) (r4 : BitVec 32) (r5 : Bool) (r6 : Bool) (r7 : BitVec 8) (r8 : Bool) (r9 : Bool) (r10 : Bool) (r11 : Bool) (r12 : BitVec 32) (r13 : Bool) (hk : ∀ r, F r → K (.tuple #[.int .u32 (BitVec.toNat r.1 : Int), .int .i64 r.2]) σ) (hF : F (corralref1_Encode.v8 t119 i0 i1 i2 i3 i4 i5 i6 i7 r0 r1 r2 r3 r4 r5 r6 r7 r8 r9 r10 r11 r12 r13)) : corralref1_Encode.j8 K t119 i0 i1 i2 i3 i4 (BitVec.toNat i5 : Int) i6 i7 r0 r1 (BitVec.toNat r2 : Int) (BitVec.toNat r3 : Int) (BitVec.toNat r4 : Int) r5 r6 (BitVec.toNat r7 : Int) r8 r9 r10 r11 (BitVec.toNat r12 : Int) r13 σ := by
  unfold corralref1_Encode.j8
  unfold corralref1_Encode.v8 at hF
  try dsimp only at hF
  refine cond_v (F := F) (rfl) hF (fun h hF => ?_) (fun h hF => ?_)
  · skip
    exact hk _ hF
  · skip
    exact hopI (corralref1_Encode.j9_v F i0 i1 i2 i3 i4 i5 i6 i7 r0 r1 r2 r3 r4 r5 r6 r7 r8 r9 r10 r11 r12 r13 hk hF)
def corralref1_Encode.v7 (i0 : Int) (i1 : Int) (i2 : Int) (i3 : Int) (i4 : Int) (i5 : BitVec 32) (i6 : Bool) (i7 : Bool) (r0 : Int) (r1 : ByteArray) (r2 : BitVec 32) (r3 : BitVec 32) (r4 : BitVec 32) (r5 : Bool) (r6 : Bool) (r7 : BitVec 8) (r8 : Bool) (r9 : Bool) (r10 : Bool) (r11 : Bool) (r12 : BitVec 32) (r13 : Bool) : BitVec 32 × Int :=
  bif (!r8) then
    bif (i1 != 0) then
      corralref1_Encode.v8 true i0 i1 i2 i3 i4 i5 i6 i7 r0 r1 r2 r3 r4 r5 r6 r7 r8 r9 r10 r11 r12 r13
    else
      bif (!r9) then
        bif (i2 != 0) then
          corralref1_Encode.v8 true i0 i1 i2 i3 i4 i5 i6 i7 r0 r1 r2 r3 r4 r5 r6 r7 r8 r9 r10 r11 r12 r13
        else
          bif (!r10) then
            bif (i3 != 0) then
              corralref1_Encode.v8 true i0 i1 i2 i3 i4 i5 i6 i7 r0 r1 r2 r3 r4 r5 r6 r7 r8 r9 r10 r11 r12 r13
            else
              bif (!r11) then
                bif (i4 != 0) then
                  corralref1_Encode.v8 true i0 i1 i2 i3 i4 i5 i6 i7 r0 r1 r2 r3 r4 r5 r6 r7 r8 r9 r10 r11 r12 r13
                else
                  bif (r7 == 0#8) then
                    bif (i5 != 0#32) then
                      corralref1_Encode.v8 true i0 i1 i2 i3 i4 i5 i6 i7 r0 r1 r2 r3 r4 r5 r6 r7 r8 r9 r10 r11 r12 r13
                    else
                      bif (!r13) then
                        bif i6 then
                          corralref1_Encode.v8 true i0 i1 i2 i3 i4 i5 i6 i7 r0 r1 r2 r3 r4 r5 r6 r7 r8 r9 r10 r11 r12 r13
                        else
                          corralref1_Encode.v8 i7 i0 i1 i2 i3 i4 i5 i6 i7 r0 r1 r2 r3 r4 r5 r6 r7 r8 r9 r10 r11 r12 r13
                      else
                        corralref1_Encode.v8 false i0 i1 i2 i3 i4 i5 i6 i7 r0 r1 r2 r3 r4 r5 r6 r7 r8 r9 r10 r11 r12 r13
                  else
                    bif (!r13) then
                      bif i6 then
                        corralref1_Encode.v8 true i0 i1 i2 i3 i4 i5 i6 i7 r0 r1 r2 r3 r4 r5 r6 r7 r8 r9 r10 r11 r12 r13
                      else
                        corralref1_Encode.v8 i7 i0 i1 i2 i3 i4 i5 i6 i7 r0 r1 r2 r3 r4 r5 r6 r7 r8 r9 r10 r11 r12 r13
                    else
                      corralref1_Encode.v8 false i0 i1 i2 i3 i4 i5 i6 i7 r0 r1 r2 r3 r4 r5 r6 r7 r8 r9 r10 r11 r12 r13
              else
                bif (r7 == 0#8) then
                  bif (i5 != 0#32) then
                    corralref1_Encode.v8 true i0 i1 i2 i3 i4 i5 i6 i7 r0 r1 r2 r3 r4 r5 r6 r7 r8 r9 r10 r11 r12 r13
                  else
                    bif (!r13) then
                      bif i6 then
                        corralref1_Encode.v8 true i0 i1 i2 i3 i4 i5 i6 i7 r0 r1 r2 r3 r4 r5 r6 r7 r8 r9 r10 r11 r12 r13
                      else
                        corralref1_Encode.v8 i7 i0 i1 i2 i3 i4 i5 i6 i7 r0 r1 r2 r3 r4 r5 r6 r7 r8 r9 r10 r11 r12 r13
                    else
                      corralref1_Encode.v8 false i0 i1 i2 i3 i4 i5 i6 i7 r0 r1 r2 r3 r4 r5 r6 r7 r8 r9 r10 r11 r12 r13
                else
                  bif (!r13) then
                    bif i6 then
                      corralref1_Encode.v8 true i0 i1 i2 i3 i4 i5 i6 i7 r0 r1 r2 r3 r4 r5 r6 r7 r8 r9 r10 r11 r12 r13
                    else
                      corralref1_Encode.v8 i7 i0 i1 i2 i3 i4 i5 i6 i7 r0 r1 r2 r3 r4 r5 r6 r7 r8 r9 r10 r11 r12 r13
                  else
                    corralref1_Encode.v8 false i0 i1 i2 i3 i4 i5 i6 i7 r0 r1 r2 r3 r4 r5 r6 r7 r8 r9 r10 r11 r12 r13
          else
            bif (!r11) then
              bif (i4 != 0) then
                corralref1_Encode.v8 true i0 i1 i2 i3 i4 i5 i6 i7 r0 r1 r2 r3 r4 r5 r6 r7 r8 r9 r10 r11 r12 r13
              else
                bif (r7 == 0#8) then
                  bif (i5 != 0#32) then
                    corralref1_Encode.v8 true i0 i1 i2 i3 i4 i5 i6 i7 r0 r1 r2 r3 r4 r5 r6 r7 r8 r9 r10 r11 r12 r13
                  else
                    bif (!r13) then
                      bif i6 then
                        corralref1_Encode.v8 true i0 i1 i2 i3 i4 i5 i6 i7 r0 r1 r2 r3 r4 r5 r6 r7 r8 r9 r10 r11 r12 r13
                      else
                        corralref1_Encode.v8 i7 i0 i1 i2 i3 i4 i5 i6 i7 r0 r1 r2 r3 r4 r5 r6 r7 r8 r9 r10 r11 r12 r13
                    else
                      corralref1_Encode.v8 false i0 i1 i2 i3 i4 i5 i6 i7 r0 r1 r2 r3 r4 r5 r6 r7 r8 r9 r10 r11 r12 r13
                else
                  bif (!r13) then
                    bif i6 then
                      corralref1_Encode.v8 true i0 i1 i2 i3 i4 i5 i6 i7 r0 r1 r2 r3 r4 r5 r6 r7 r8 r9 r10 r11 r12 r13
                    else
                      corralref1_Encode.v8 i7 i0 i1 i2 i3 i4 i5 i6 i7 r0 r1 r2 r3 r4 r5 r6 r7 r8 r9 r10 r11 r12 r13
                  else
                    corralref1_Encode.v8 false i0 i1 i2 i3 i4 i5 i6 i7 r0 r1 r2 r3 r4 r5 r6 r7 r8 r9 r10 r11 r12 r13
            else
              bif (r7 == 0#8) then
                bif (i5 != 0#32) then
                  corralref1_Encode.v8 true i0 i1 i2 i3 i4 i5 i6 i7 r0 r1 r2 r3 r4 r5 r6 r7 r8 r9 r10 r11 r12 r13
                else
                  bif (!r13) then
                    bif i6 then
                      corralref1_Encode.v8 true i0 i1 i2 i3 i4 i5 i6 i7 r0 r1 r2 r3 r4 r5 r6 r7 r8 r9 r10 r11 r12 r13
                    else
                      corralref1_Encode.v8 i7 i0 i1 i2 i3 i4 i5 i6 i7 r0 r1 r2 r3 r4 r5 r6 r7 r8 r9 r10 r11 r12 r13
                  else
                    corralref1_Encode.v8 false i0 i1 i2 i3 i4 i5 i6 i7 r0 r1 r2 r3 r4 r5 r6 r7 r8 r9 r10 r11 r12 r13
              else
                bif (!r13) then
                  bif i6 then
                    corralref1_Encode.v8 true i0 i1 i2 i3 i4 i5 i6 i7 r0 r1 r2 r3 r4 r5 r6 r7 r8 r9 r10 r11 r12 r13
                  else
                    corralref1_Encode.v8 i7 i0 i1 i2 i3 i4 i5 i6 i7 r0 r1 r2 r3 r4 r5 r6 r7 r8 r9 r10 r11 r12 r13
                else
                  corralref1_Encode.v8 false i0 i1 i2 i3 i4 i5 i6 i7 r0 r1 r2 r3 r4 r5 r6 r7 r8 r9 r10 r11 r12 r13
      else
        bif (!r10) then
          bif (i3 != 0) then
            corralref1_Encode.v8 true i0 i1 i2 i3 i4 i5 i6 i7 r0 r1 r2 r3 r4 r5 r6 r7 r8 r9 r10 r11 r12 r13
          else
            bif (!r11) then
              bif (i4 != 0) then
                corralref1_Encode.v8 true i0 i1 i2 i3 i4 i5 i6 i7 r0 r1 r2 r3 r4 r5 r6 r7 r8 r9 r10 r11 r12 r13
              else
                bif (r7 == 0#8) then
                  bif (i5 != 0#32) then
                    corralref1_Encode.v8 true i0 i1 i2 i3 i4 i5 i6 i7 r0 r1 r2 r3 r4 r5 r6 r7 r8 r9 r10 r11 r12 r13
                  else
                    bif (!r13) then
                      bif i6 then
                        corralref1_Encode.v8 true i0 i1 i2 i3 i4 i5 i6 i7 r0 r1 r2 r3 r4 r5 r6 r7 r8 r9 r10 r11 r12 r13
                      else
                        corralref1_Encode.v8 i7 i0 i1 i2 i3 i4 i5 i6 i7 r0 r1 r2 r3 r4 r5 r6 r7 r8 r9 r10 r11 r12 r13
                    else
                      corralref1_Encode.v8 false i0 i1 i2 i3 i4 i5 i6 i7 r0 r1 r2 r3 r4 r5 r6 r7 r8 r9 r10 r11 r12 r13
                else
                  bif (!r13) then
                    bif i6 then
                      corralref1_Encode.v8 true i0 i1 i2 i3 i4 i5 i6 i7 r0 r1 r2 r3 r4 r5 r6 r7 r8 r9 r10 r11 r12 r13
                    else
                      corralref1_Encode.v8 i7 i0 i1 i2 i3 i4 i5 i6 i7 r0 r1 r2 r3 r4 r5 r6 r7 r8 r9 r10 r11 r12 r13
                  else
                    corralref1_Encode.v8 false i0 i1 i2 i3 i4 i5 i6 i7 r0 r1 r2 r3 r4 r5 r6 r7 r8 r9 r10 r11 r12 r13
            else
              bif (r7 == 0#8) then
                bif (i5 != 0#32) then
                  corralref1_Encode.v8 true i0 i1 i2 i3 i4 i5 i6 i7 r0 r1 r2 r3 r4 r5 r6 r7 r8 r9 r10 r11 r12 r13
                else
                  bif (!r13) then
                    bif i6 then
                      corralref1_Encode.v8 true i0 i1 i2 i3 i4 i5 i6 i7 r0 r1 r2 r3 r4 r5 r6 r7 r8 r9 r10 r11 r12 r13
                    else
                      corralref1_Encode.v8 i7 i0 i1 i2 i3 i4 i5 i6 i7 r0 r1 r2 r3 r4 r5 r6 r7 r8 r9 r10 r11 r12 r13
                  else
                    corralref1_Encode.v8 false i0 i1 i2 i3 i4 i5 i6 i7 r0 r1 r2 r3 r4 r5 r6 r7 r8 r9 r10 r11 r12 r13
              else
                bif (!r13) then
                  bif i6 then
                    corralref1_Encode.v8 true i0 i1 i2 i3 i4 i5 i6 i7 r0 r1 r2 r3 r4 r5 r6 r7 r8 r9 r10 r11 r12 r13
                  else
                    corralref1_Encode.v8 i7 i0 i1 i2 i3 i4 i5 i6 i7 r0 r1 r2 r3 r4 r5 r6 r7 r8 r9 r10 r11 r12 r13
                else
                  corralref1_Encode.v8 false i0 i1 i2 i3 i4 i5 i6 i7 r0 r1 r2 r3 r4 r5 r6 r7 r8 r9 r10 r11 r12 r13
        else
          bif (!r11) then
            bif (i4 != 0) then
              corralref1_Encode.v8 true i0 i1 i2 i3 i4 i5 i6 i7 r0 r1 r2 r3 r4 r5 r6 r7 r8 r9 r10 r11 r12 r13
            else
              bif (r7 == 0#8) then
                bif (i5 != 0#32) then
                  corralref1_Encode.v8 true i0 i1 i2 i3 i4 i5 i6 i7 r0 r1 r2 r3 r4 r5 r6 r7 r8 r9 r10 r11 r12 r13
                else
                  bif (!r13) then
                    bif i6 then
                      corralref1_Encode.v8 true i0 i1 i2 i3 i4 i5 i6 i7 r0 r1 r2 r3 r4 r5 r6 r7 r8 r9 r10 r11 r12 r13
                    else
                      corralref1_Encode.v8 i7 i0 i1 i2 i3 i4 i5 i6 i7 r0 r1 r2 r3 r4 r5 r6 r7 r8 r9 r10 r11 r12 r13
                  else
                    corralref1_Encode.v8 false i0 i1 i2 i3 i4 i5 i6 i7 r0 r1 r2 r3 r4 r5 r6 r7 r8 r9 r10 r11 r12 r13
              else
                bif (!r13) then
                  bif i6 then
                    corralref1_Encode.v8 true i0 i1 i2 i3 i4 i5 i6 i7 r0 r1 r2 r3 r4 r5 r6 r7 r8 r9 r10 r11 r12 r13
                  else
                    corralref1_Encode.v8 i7 i0 i1 i2 i3 i4 i5 i6 i7 r0 r1 r2 r3 r4 r5 r6 r7 r8 r9 r10 r11 r12 r13
                else
                  corralref1_Encode.v8 false i0 i1 i2 i3 i4 i5 i6 i7 r0 r1 r2 r3 r4 r5 r6 r7 r8 r9 r10 r11 r12 r13
          else
            bif (r7 == 0#8) then
              bif (i5 != 0#32) then
                corralref1_Encode.v8 true i0 i1 i2 i3 i4 i5 i6 i7 r0 r1 r2 r3 r4 r5 r6 r7 r8 r9 r10 r11 r12 r13
              else
                bif (!r13) then
                  bif i6 then
                    corralref1_Encode.v8 true i0 i1 i2 i3 i4 i5 i6 i7 r0 r1 r2 r3 r4 r5 r6 r7 r8 r9 r10 r11 r12 r13
                  else
                    corralref1_Encode.v8 i7 i0 i1 i2 i3 i4 i5 i6 i7 r0 r1 r2 r3 r4 r5 r6 r7 r8 r9 r10 r11 r12 r13
                else
                  corralref1_Encode.v8 false i0 i1 i2 i3 i4 i5 i6 i7 r0 r1 r2 r3 r4 r5 r6 r7 r8 r9 r10 r11 r12 r13
            else
              bif (!r13) then
                bif i6 then
                  corralref1_Encode.v8 true i0 i1 i2 i3 i4 i5 i6 i7 r0 r1 r2 r3 r4 r5 r6 r7 r8 r9 r10 r11 r12 r13
                else
                  corralref1_Encode.v8 i7 i0 i1 i2 i3 i4 i5 i6 i7 r0 r1 r2 r3 r4 r5 r6 r7 r8 r9 r10 r11 r12 r13
              else
                corralref1_Encode.v8 false i0 i1 i2 i3 i4 i5 i6 i7 r0 r1 r2 r3 r4 r5 r6 r7 r8 r9 r10 r11 r12 r13
  else
    bif (!r9) then
      bif (i2 != 0) then
        corralref1_Encode.v8 true i0 i1 i2 i3 i4 i5 i6 i7 r0 r1 r2 r3 r4 r5 r6 r7 r8 r9 r10 r11 r12 r13
      else
        bif (!r10) then
          bif (i3 != 0) then
            corralref1_Encode.v8 true i0 i1 i2 i3 i4 i5 i6 i7 r0 r1 r2 r3 r4 r5 r6 r7 r8 r9 r10 r11 r12 r13
          else
            bif (!r11) then
              bif (i4 != 0) then
                corralref1_Encode.v8 true i0 i1 i2 i3 i4 i5 i6 i7 r0 r1 r2 r3 r4 r5 r6 r7 r8 r9 r10 r11 r12 r13
              else
                bif (r7 == 0#8) then
                  bif (i5 != 0#32) then
                    corralref1_Encode.v8 true i0 i1 i2 i3 i4 i5 i6 i7 r0 r1 r2 r3 r4 r5 r6 r7 r8 r9 r10 r11 r12 r13
                  else
                    bif (!r13) then
                      bif i6 then
                        corralref1_Encode.v8 true i0 i1 i2 i3 i4 i5 i6 i7 r0 r1 r2 r3 r4 r5 r6 r7 r8 r9 r10 r11 r12 r13
                      else
                        corralref1_Encode.v8 i7 i0 i1 i2 i3 i4 i5 i6 i7 r0 r1 r2 r3 r4 r5 r6 r7 r8 r9 r10 r11 r12 r13
                    else
                      corralref1_Encode.v8 false i0 i1 i2 i3 i4 i5 i6 i7 r0 r1 r2 r3 r4 r5 r6 r7 r8 r9 r10 r11 r12 r13
                else
                  bif (!r13) then
                    bif i6 then
                      corralref1_Encode.v8 true i0 i1 i2 i3 i4 i5 i6 i7 r0 r1 r2 r3 r4 r5 r6 r7 r8 r9 r10 r11 r12 r13
                    else
                      corralref1_Encode.v8 i7 i0 i1 i2 i3 i4 i5 i6 i7 r0 r1 r2 r3 r4 r5 r6 r7 r8 r9 r10 r11 r12 r13
                  else
                    corralref1_Encode.v8 false i0 i1 i2 i3 i4 i5 i6 i7 r0 r1 r2 r3 r4 r5 r6 r7 r8 r9 r10 r11 r12 r13
            else
              bif (r7 == 0#8) then
                bif (i5 != 0#32) then
                  corralref1_Encode.v8 true i0 i1 i2 i3 i4 i5 i6 i7 r0 r1 r2 r3 r4 r5 r6 r7 r8 r9 r10 r11 r12 r13
                else
                  bif (!r13) then
                    bif i6 then
                      corralref1_Encode.v8 true i0 i1 i2 i3 i4 i5 i6 i7 r0 r1 r2 r3 r4 r5 r6 r7 r8 r9 r10 r11 r12 r13
                    else
                      corralref1_Encode.v8 i7 i0 i1 i2 i3 i4 i5 i6 i7 r0 r1 r2 r3 r4 r5 r6 r7 r8 r9 r10 r11 r12 r13
                  else
                    corralref1_Encode.v8 false i0 i1 i2 i3 i4 i5 i6 i7 r0 r1 r2 r3 r4 r5 r6 r7 r8 r9 r10 r11 r12 r13
              else
                bif (!r13) then
                  bif i6 then
                    corralref1_Encode.v8 true i0 i1 i2 i3 i4 i5 i6 i7 r0 r1 r2 r3 r4 r5 r6 r7 r8 r9 r10 r11 r12 r13
                  else
                    corralref1_Encode.v8 i7 i0 i1 i2 i3 i4 i5 i6 i7 r0 r1 r2 r3 r4 r5 r6 r7 r8 r9 r10 r11 r12 r13
                else
                  corralref1_Encode.v8 false i0 i1 i2 i3 i4 i5 i6 i7 r0 r1 r2 r3 r4 r5 r6 r7 r8 r9 r10 r11 r12 r13
        else
          bif (!r11) then
            bif (i4 != 0) then
              corralref1_Encode.v8 true i0 i1 i2 i3 i4 i5 i6 i7 r0 r1 r2 r3 r4 r5 r6 r7 r8 r9 r10 r11 r12 r13
            else
              bif (r7 == 0#8) then
                bif (i5 != 0#32) then
                  corralref1_Encode.v8 true i0 i1 i2 i3 i4 i5 i6 i7 r0 r1 r2 r3 r4 r5 r6 r7 r8 r9 r10 r11 r12 r13
                else
                  bif (!r13) then
                    bif i6 then
                      corralref1_Encode.v8 true i0 i1 i2 i3 i4 i5 i6 i7 r0 r1 r2 r3 r4 r5 r6 r7 r8 r9 r10 r11 r12 r13
                    else
                      corralref1_Encode.v8 i7 i0 i1 i2 i3 i4 i5 i6 i7 r0 r1 r2 r3 r4 r5 r6 r7 r8 r9 r10 r11 r12 r13
                  else
                    corralref1_Encode.v8 false i0 i1 i2 i3 i4 i5 i6 i7 r0 r1 r2 r3 r4 r5 r6 r7 r8 r9 r10 r11 r12 r13
              else
                bif (!r13) then
                  bif i6 then
                    corralref1_Encode.v8 true i0 i1 i2 i3 i4 i5 i6 i7 r0 r1 r2 r3 r4 r5 r6 r7 r8 r9 r10 r11 r12 r13
                  else
                    corralref1_Encode.v8 i7 i0 i1 i2 i3 i4 i5 i6 i7 r0 r1 r2 r3 r4 r5 r6 r7 r8 r9 r10 r11 r12 r13
                else
                  corralref1_Encode.v8 false i0 i1 i2 i3 i4 i5 i6 i7 r0 r1 r2 r3 r4 r5 r6 r7 r8 r9 r10 r11 r12 r13
          else
            bif (r7 == 0#8) then
              bif (i5 != 0#32) then
                corralref1_Encode.v8 true i0 i1 i2 i3 i4 i5 i6 i7 r0 r1 r2 r3 r4 r5 r6 r7 r8 r9 r10 r11 r12 r13
              else
                bif (!r13) then
                  bif i6 then
                    corralref1_Encode.v8 true i0 i1 i2 i3 i4 i5 i6 i7 r0 r1 r2 r3 r4 r5 r6 r7 r8 r9 r10 r11 r12 r13
                  else
                    corralref1_Encode.v8 i7 i0 i1 i2 i3 i4 i5 i6 i7 r0 r1 r2 r3 r4 r5 r6 r7 r8 r9 r10 r11 r12 r13
                else
                  corralref1_Encode.v8 false i0 i1 i2 i3 i4 i5 i6 i7 r0 r1 r2 r3 r4 r5 r6 r7 r8 r9 r10 r11 r12 r13
            else
              bif (!r13) then
                bif i6 then
                  corralref1_Encode.v8 true i0 i1 i2 i3 i4 i5 i6 i7 r0 r1 r2 r3 r4 r5 r6 r7 r8 r9 r10 r11 r12 r13
                else
                  corralref1_Encode.v8 i7 i0 i1 i2 i3 i4 i5 i6 i7 r0 r1 r2 r3 r4 r5 r6 r7 r8 r9 r10 r11 r12 r13
              else
                corralref1_Encode.v8 false i0 i1 i2 i3 i4 i5 i6 i7 r0 r1 r2 r3 r4 r5 r6 r7 r8 r9 r10 r11 r12 r13
    else
      bif (!r10) then
        bif (i3 != 0) then
          corralref1_Encode.v8 true i0 i1 i2 i3 i4 i5 i6 i7 r0 r1 r2 r3 r4 r5 r6 r7 r8 r9 r10 r11 r12 r13
        else
          bif (!r11) then
            bif (i4 != 0) then
              corralref1_Encode.v8 true i0 i1 i2 i3 i4 i5 i6 i7 r0 r1 r2 r3 r4 r5 r6 r7 r8 r9 r10 r11 r12 r13
            else
              bif (r7 == 0#8) then
                bif (i5 != 0#32) then
                  corralref1_Encode.v8 true i0 i1 i2 i3 i4 i5 i6 i7 r0 r1 r2 r3 r4 r5 r6 r7 r8 r9 r10 r11 r12 r13
                else
                  bif (!r13) then
                    bif i6 then
                      corralref1_Encode.v8 true i0 i1 i2 i3 i4 i5 i6 i7 r0 r1 r2 r3 r4 r5 r6 r7 r8 r9 r10 r11 r12 r13
                    else
                      corralref1_Encode.v8 i7 i0 i1 i2 i3 i4 i5 i6 i7 r0 r1 r2 r3 r4 r5 r6 r7 r8 r9 r10 r11 r12 r13
                  else
                    corralref1_Encode.v8 false i0 i1 i2 i3 i4 i5 i6 i7 r0 r1 r2 r3 r4 r5 r6 r7 r8 r9 r10 r11 r12 r13
              else
                bif (!r13) then
                  bif i6 then
                    corralref1_Encode.v8 true i0 i1 i2 i3 i4 i5 i6 i7 r0 r1 r2 r3 r4 r5 r6 r7 r8 r9 r10 r11 r12 r13
                  else
                    corralref1_Encode.v8 i7 i0 i1 i2 i3 i4 i5 i6 i7 r0 r1 r2 r3 r4 r5 r6 r7 r8 r9 r10 r11 r12 r13
                else
                  corralref1_Encode.v8 false i0 i1 i2 i3 i4 i5 i6 i7 r0 r1 r2 r3 r4 r5 r6 r7 r8 r9 r10 r11 r12 r13
          else
            bif (r7 == 0#8) then
              bif (i5 != 0#32) then
                corralref1_Encode.v8 true i0 i1 i2 i3 i4 i5 i6 i7 r0 r1 r2 r3 r4 r5 r6 r7 r8 r9 r10 r11 r12 r13
              else
                bif (!r13) then
                  bif i6 then
                    corralref1_Encode.v8 true i0 i1 i2 i3 i4 i5 i6 i7 r0 r1 r2 r3 r4 r5 r6 r7 r8 r9 r10 r11 r12 r13
                  else
                    corralref1_Encode.v8 i7 i0 i1 i2 i3 i4 i5 i6 i7 r0 r1 r2 r3 r4 r5 r6 r7 r8 r9 r10 r11 r12 r13
                else
                  corralref1_Encode.v8 false i0 i1 i2 i3 i4 i5 i6 i7 r0 r1 r2 r3 r4 r5 r6 r7 r8 r9 r10 r11 r12 r13
            else
              bif (!r13) then
                bif i6 then
                  corralref1_Encode.v8 true i0 i1 i2 i3 i4 i5 i6 i7 r0 r1 r2 r3 r4 r5 r6 r7 r8 r9 r10 r11 r12 r13
                else
                  corralref1_Encode.v8 i7 i0 i1 i2 i3 i4 i5 i6 i7 r0 r1 r2 r3 r4 r5 r6 r7 r8 r9 r10 r11 r12 r13
              else
                corralref1_Encode.v8 false i0 i1 i2 i3 i4 i5 i6 i7 r0 r1 r2 r3 r4 r5 r6 r7 r8 r9 r10 r11 r12 r13
      else
        bif (!r11) then
          bif (i4 != 0) then
            corralref1_Encode.v8 true i0 i1 i2 i3 i4 i5 i6 i7 r0 r1 r2 r3 r4 r5 r6 r7 r8 r9 r10 r11 r12 r13
          else
            bif (r7 == 0#8) then
              bif (i5 != 0#32) then
                corralref1_Encode.v8 true i0 i1 i2 i3 i4 i5 i6 i7 r0 r1 r2 r3 r4 r5 r6 r7 r8 r9 r10 r11 r12 r13
              else
                bif (!r13) then
                  bif i6 then
                    corralref1_Encode.v8 true i0 i1 i2 i3 i4 i5 i6 i7 r0 r1 r2 r3 r4 r5 r6 r7 r8 r9 r10 r11 r12 r13
                  else
                    corralref1_Encode.v8 i7 i0 i1 i2 i3 i4 i5 i6 i7 r0 r1 r2 r3 r4 r5 r6 r7 r8 r9 r10 r11 r12 r13
                else
                  corralref1_Encode.v8 false i0 i1 i2 i3 i4 i5 i6 i7 r0 r1 r2 r3 r4 r5 r6 r7 r8 r9 r10 r11 r12 r13
            else
              bif (!r13) then
                bif i6 then
                  corralref1_Encode.v8 true i0 i1 i2 i3 i4 i5 i6 i7 r0 r1 r2 r3 r4 r5 r6 r7 r8 r9 r10 r11 r12 r13
                else
                  corralref1_Encode.v8 i7 i0 i1 i2 i3 i4 i5 i6 i7 r0 r1 r2 r3 r4 r5 r6 r7 r8 r9 r10 r11 r12 r13
              else
                corralref1_Encode.v8 false i0 i1 i2 i3 i4 i5 i6 i7 r0 r1 r2 r3 r4 r5 r6 r7 r8 r9 r10 r11 r12 r13
        else
          bif (r7 == 0#8) then
            bif (i5 != 0#32) then
              corralref1_Encode.v8 true i0 i1 i2 i3 i4 i5 i6 i7 r0 r1 r2 r3 r4 r5 r6 r7 r8 r9 r10 r11 r12 r13
            else
              bif (!r13) then
                bif i6 then
                  corralref1_Encode.v8 true i0 i1 i2 i3 i4 i5 i6 i7 r0 r1 r2 r3 r4 r5 r6 r7 r8 r9 r10 r11 r12 r13
                else
                  corralref1_Encode.v8 i7 i0 i1 i2 i3 i4 i5 i6 i7 r0 r1 r2 r3 r4 r5 r6 r7 r8 r9 r10 r11 r12 r13
              else
                corralref1_Encode.v8 false i0 i1 i2 i3 i4 i5 i6 i7 r0 r1 r2 r3 r4 r5 r6 r7 r8 r9 r10 r11 r12 r13
          else
            bif (!r13) then
              bif i6 then
                corralref1_Encode.v8 true i0 i1 i2 i3 i4 i5 i6 i7 r0 r1 r2 r3 r4 r5 r6 r7 r8 r9 r10 r11 r12 r13
              else
                corralref1_Encode.v8 i7 i0 i1 i2 i3 i4 i5 i6 i7 r0 r1 r2 r3 r4 r5 r6 r7 r8 r9 r10 r11 r12 r13
            else
              corralref1_Encode.v8 false i0 i1 i2 i3 i4 i5 i6 i7 r0 r1 r2 r3 r4 r5 r6 r7 r8 r9 r10 r11 r12 r13
theorem corralref1_Encode.j7_v {K : Value → Store → Prop} {σ : Store} (F : (BitVec 32 × Int) → Prop) (i0 : Int) (i1 : Int) (i2 : Int) (i3 : Int) (i4 : Int) (i5 : BitVec 32) (i6 : Bool) (i7 : Bool) (r0 : Int) (r1 : ByteArray) (r2 : BitVec 32) (r3 : BitVec 32) (r4 : BitVec 32) (r5 : Bool) (r6 : Bool) (r7 : BitVec 8) (r8 : Bool) (r9 : Bool) (r10 : Bool) (r11 : Bool) (r12 : BitVec 32) (r13 : Bool) (hk : ∀ r, F r → K (.tuple #[.int .u32 (BitVec.toNat r.1 : Int), .int .i64 r.2]) σ) (hF : F (corralref1_Encode.v7 i0 i1 i2 i3 i4 i5 i6 i7 r0 r1 r2 r3 r4 r5 r6 r7 r8 r9 r10 r11 r12 r13)) : corralref1_Encode.j7 K i0 i1 i2 i3 i4 (BitVec.toNat i5 : Int) i6 i7 r0 r1 (BitVec.toNat r2 : Int) (BitVec.toNat r3 : Int) (BitVec.toNat r4 : Int) r5 r6 (BitVec.toNat r7 : Int) r8 r9 r10 r11 (BitVec.toNat r12 : Int) r13 σ := by
  unfold corralref1_Encode.j7
  unfold corralref1_Encode.v7 at hF
  try dsimp only at hF
  refine cond_v (F := F) (rfl) hF (fun h hF => ?_) (fun h hF => ?_)
  · skip
    refine cond_v (F := F) (rfl) hF (fun h hF => ?_) (fun h hF => ?_)
    · skip
      exact hopI (corralref1_Encode.j8_v F true i0 i1 i2 i3 i4 i5 i6 i7 r0 r1 r2 r3 r4 r5 r6 r7 r8 r9 r10 r11 r12 r13 hk hF)
    · skip
      refine cond_v (F := F) (rfl) hF (fun h hF => ?_) (fun h hF => ?_)
      · skip
        refine cond_v (F := F) (rfl) hF (fun h hF => ?_) (fun h hF => ?_)
        · skip
          exact hopI (corralref1_Encode.j8_v F true i0 i1 i2 i3 i4 i5 i6 i7 r0 r1 r2 r3 r4 r5 r6 r7 r8 r9 r10 r11 r12 r13 hk hF)
        · skip
          refine cond_v (F := F) (rfl) hF (fun h hF => ?_) (fun h hF => ?_)
          · skip
            refine cond_v (F := F) (rfl) hF (fun h hF => ?_) (fun h hF => ?_)
            · skip
              exact hopI (corralref1_Encode.j8_v F true i0 i1 i2 i3 i4 i5 i6 i7 r0 r1 r2 r3 r4 r5 r6 r7 r8 r9 r10 r11 r12 r13 hk hF)
            · skip
              refine cond_v (F := F) (rfl) hF (fun h hF => ?_) (fun h hF => ?_)
              · skip
                refine cond_v (F := F) (rfl) hF (fun h hF => ?_) (fun h hF => ?_)
                · skip
                  exact hopI (corralref1_Encode.j8_v F true i0 i1 i2 i3 i4 i5 i6 i7 r0 r1 r2 r3 r4 r5 r6 r7 r8 r9 r10 r11 r12 r13 hk hF)
                · skip
                  refine cond_v (F := F) (by simp only [beq_nat, beq_lit, ofInt_toNat, ofInt_toNat', ofInt_toInt, BitVec.setWidth_eq, lit_u, BitVec.reduceOfInt, BitVec.reduceToNat, Nat.reducePow, Nat.reduceMod, Int.cast_ofNat_Int, Int.natCast_zero, Int.natCast_one, Int.reduceLT, Int.reduceLE, Int.reducePow, and_self, Int.zero_sub, BitVec.zero_sub]) hF (fun h hF => ?_) (fun h hF => ?_)
                  · skip
                    refine cond_v (F := F) (by simp only [bne_nat, bne_lit, ofInt_toNat, ofInt_toNat', ofInt_toInt, BitVec.setWidth_eq, lit_u, BitVec.reduceOfInt, BitVec.reduceToNat, Nat.reducePow, Nat.reduceMod, Int.cast_ofNat_Int, Int.natCast_zero, Int.natCast_one, Int.reduceLT, Int.reduceLE, Int.reducePow, and_self, Int.zero_sub, BitVec.zero_sub]) hF (fun h hF => ?_) (fun h hF => ?_)
                    · skip
                      exact hopI (corralref1_Encode.j8_v F true i0 i1 i2 i3 i4 i5 i6 i7 r0 r1 r2 r3 r4 r5 r6 r7 r8 r9 r10 r11 r12 r13 hk hF)
                    · skip
                      refine cond_v (F := F) (rfl) hF (fun h hF => ?_) (fun h hF => ?_)
                      · skip
                        refine cond_v (F := F) (rfl) hF (fun h hF => ?_) (fun h hF => ?_)
                        · skip
                          exact hopI (corralref1_Encode.j8_v F true i0 i1 i2 i3 i4 i5 i6 i7 r0 r1 r2 r3 r4 r5 r6 r7 r8 r9 r10 r11 r12 r13 hk hF)
                        · skip
                          exact hopI (corralref1_Encode.j8_v F i7 i0 i1 i2 i3 i4 i5 i6 i7 r0 r1 r2 r3 r4 r5 r6 r7 r8 r9 r10 r11 r12 r13 hk hF)
                      · skip
                        exact hopI (corralref1_Encode.j8_v F false i0 i1 i2 i3 i4 i5 i6 i7 r0 r1 r2 r3 r4 r5 r6 r7 r8 r9 r10 r11 r12 r13 hk hF)
                  · skip
                    refine cond_v (F := F) (rfl) hF (fun h hF => ?_) (fun h hF => ?_)
                    · skip
                      refine cond_v (F := F) (rfl) hF (fun h hF => ?_) (fun h hF => ?_)
                      · skip
                        exact hopI (corralref1_Encode.j8_v F true i0 i1 i2 i3 i4 i5 i6 i7 r0 r1 r2 r3 r4 r5 r6 r7 r8 r9 r10 r11 r12 r13 hk hF)
                      · skip
                        exact hopI (corralref1_Encode.j8_v F i7 i0 i1 i2 i3 i4 i5 i6 i7 r0 r1 r2 r3 r4 r5 r6 r7 r8 r9 r10 r11 r12 r13 hk hF)
                    · skip
                      exact hopI (corralref1_Encode.j8_v F false i0 i1 i2 i3 i4 i5 i6 i7 r0 r1 r2 r3 r4 r5 r6 r7 r8 r9 r10 r11 r12 r13 hk hF)
              · skip
                refine cond_v (F := F) (by simp only [beq_nat, beq_lit, ofInt_toNat, ofInt_toNat', ofInt_toInt, BitVec.setWidth_eq, lit_u, BitVec.reduceOfInt, BitVec.reduceToNat, Nat.reducePow, Nat.reduceMod, Int.cast_ofNat_Int, Int.natCast_zero, Int.natCast_one, Int.reduceLT, Int.reduceLE, Int.reducePow, and_self, Int.zero_sub, BitVec.zero_sub]) hF (fun h hF => ?_) (fun h hF => ?_)
                · skip
                  refine cond_v (F := F) (by simp only [bne_nat, bne_lit, ofInt_toNat, ofInt_toNat', ofInt_toInt, BitVec.setWidth_eq, lit_u, BitVec.reduceOfInt, BitVec.reduceToNat, Nat.reducePow, Nat.reduceMod, Int.cast_ofNat_Int, Int.natCast_zero, Int.natCast_one, Int.reduceLT, Int.reduceLE, Int.reducePow, and_self, Int.zero_sub, BitVec.zero_sub]) hF (fun h hF => ?_) (fun h hF => ?_)
                  · skip
                    exact hopI (corralref1_Encode.j8_v F true i0 i1 i2 i3 i4 i5 i6 i7 r0 r1 r2 r3 r4 r5 r6 r7 r8 r9 r10 r11 r12 r13 hk hF)
                  · skip
                    refine cond_v (F := F) (rfl) hF (fun h hF => ?_) (fun h hF => ?_)
                    · skip
                      refine cond_v (F := F) (rfl) hF (fun h hF => ?_) (fun h hF => ?_)
                      · skip
                        exact hopI (corralref1_Encode.j8_v F true i0 i1 i2 i3 i4 i5 i6 i7 r0 r1 r2 r3 r4 r5 r6 r7 r8 r9 r10 r11 r12 r13 hk hF)
                      · skip
                        exact hopI (corralref1_Encode.j8_v F i7 i0 i1 i2 i3 i4 i5 i6 i7 r0 r1 r2 r3 r4 r5 r6 r7 r8 r9 r10 r11 r12 r13 hk hF)
                    · skip
                      exact hopI (corralref1_Encode.j8_v F false i0 i1 i2 i3 i4 i5 i6 i7 r0 r1 r2 r3 r4 r5 r6 r7 r8 r9 r10 r11 r12 r13 hk hF)
                · skip
                  refine cond_v (F := F) (rfl) hF (fun h hF => ?_) (fun h hF => ?_)
                  · skip
                    refine cond_v (F := F) (rfl) hF (fun h hF => ?_) (fun h hF => ?_)
                    · skip
                      exact hopI (corralref1_Encode.j8_v F true i0 i1 i2 i3 i4 i5 i6 i7 r0 r1 r2 r3 r4 r5 r6 r7 r8 r9 r10 r11 r12 r13 hk hF)
                    · skip
                      exact hopI (corralref1_Encode.j8_v F i7 i0 i1 i2 i3 i4 i5 i6 i7 r0 r1 r2 r3 r4 r5 r6 r7 r8 r9 r10 r11 r12 r13 hk hF)
                  · skip
                    exact hopI (corralref1_Encode.j8_v F false i0 i1 i2 i3 i4 i5 i6 i7 r0 r1 r2 r3 r4 r5 r6 r7 r8 r9 r10 r11 r12 r13 hk hF)
          · skip
            refine cond_v (F := F) (rfl) hF (fun h hF => ?_) (fun h hF => ?_)
            · skip
              refine cond_v (F := F) (rfl) hF (fun h hF => ?_) (fun h hF => ?_)
              · skip
                exact hopI (corralref1_Encode.j8_v F true i0 i1 i2 i3 i4 i5 i6 i7 r0 r1 r2 r3 r4 r5 r6 r7 r8 r9 r10 r11 r12 r13 hk hF)
              · skip
                refine cond_v (F := F) (by simp only [beq_nat, beq_lit, ofInt_toNat, ofInt_toNat', ofInt_toInt, BitVec.setWidth_eq, lit_u, BitVec.reduceOfInt, BitVec.reduceToNat, Nat.reducePow, Nat.reduceMod, Int.cast_ofNat_Int, Int.natCast_zero, Int.natCast_one, Int.reduceLT, Int.reduceLE, Int.reducePow, and_self, Int.zero_sub, BitVec.zero_sub]) hF (fun h hF => ?_) (fun h hF => ?_)
                · skip
                  refine cond_v (F := F) (by simp only [bne_nat, bne_lit, ofInt_toNat, ofInt_toNat', ofInt_toInt, BitVec.setWidth_eq, lit_u, BitVec.reduceOfInt, BitVec.reduceToNat, Nat.reducePow, Nat.reduceMod, Int.cast_ofNat_Int, Int.natCast_zero, Int.natCast_one, Int.reduceLT, Int.reduceLE, Int.reducePow, and_self, Int.zero_sub, BitVec.zero_sub]) hF (fun h hF => ?_) (fun h hF => ?_)
                  · skip
                    exact hopI (corralref1_Encode.j8_v F true i0 i1 i2 i3 i4 i5 i6 i7 r0 r1 r2 r3 r4 r5 r6 r7 r8 r9 r10 r11 r12 r13 hk hF)
                  · skip
                    refine cond_v (F := F) (rfl) hF (fun h hF => ?_) (fun h hF => ?_)
                    · skip
                      refine cond_v (F := F) (rfl) hF (fun h hF => ?_) (fun h hF => ?_)
                      · skip
                        exact hopI (corralref1_Encode.j8_v F true i0 i1 i2 i3 i4 i5 i6 i7 r0 r1 r2 r3 r4 r5 r6 r7 r8 r9 r10 r11 r12 r13 hk hF)
                      · skip
                        exact hopI (corralref1_Encode.j8_v F i7 i0 i1 i2 i3 i4 i5 i6 i7 r0 r1 r2 r3 r4 r5 r6 r7 r8 r9 r10 r11 r12 r13 hk hF)
                    · skip
                      exact hopI (corralref1_Encode.j8_v F false i0 i1 i2 i3 i4 i5 i6 i7 r0 r1 r2 r3 r4 r5 r6 r7 r8 r9 r10 r11 r12 r13 hk hF)
                · skip
                  refine cond_v (F := F) (rfl) hF (fun h hF => ?_) (fun h hF => ?_)
                  · skip
                    refine cond_v (F := F) (rfl) hF (fun h hF => ?_) (fun h hF => ?_)
                    · skip
                      exact hopI (corralref1_Encode.j8_v F true i0 i1 i2 i3 i4 i5 i6 i7 r0 r1 r2 r3 r4 r5 r6 r7 r8 r9 r10 r11 r12 r13 hk hF)
                    · skip
                      exact hopI (corralref1_Encode.j8_v F i7 i0 i1 i2 i3 i4 i5 i6 i7 r0 r1 r2 r3 r4 r5 r6 r7 r8 r9 r10 r11 r12 r13 hk hF)
                  · skip
                    exact hopI (corralref1_Encode.j8_v F false i0 i1 i2 i3 i4 i5 i6 i7 r0 r1 r2 r3 r4 r5 r6 r7 r8 r9 r10 r11 r12 r13 hk hF)
            · skip
              refine cond_v (F := F) (by simp only [beq_nat, beq_lit, ofInt_toNat, ofInt_toNat', ofInt_toInt, BitVec.setWidth_eq, lit_u, BitVec.reduceOfInt, BitVec.reduceToNat, Nat.reducePow, Nat.reduceMod, Int.cast_ofNat_Int, Int.natCast_zero, Int.natCast_one, Int.reduceLT, Int.reduceLE, Int.reducePow, and_self, Int.zero_sub, BitVec.zero_sub]) hF (fun h hF => ?_) (fun h hF => ?_)
              · skip
                refine cond_v (F := F) (by simp only [bne_nat, bne_lit, ofInt_toNat, ofInt_toNat', ofInt_toInt, BitVec.setWidth_eq, lit_u, BitVec.reduceOfInt, BitVec.reduceToNat, Nat.reducePow, Nat.reduceMod, Int.cast_ofNat_Int, Int.natCast_zero, Int.natCast_one, Int.reduceLT, Int.reduceLE, Int.reducePow, and_self, Int.zero_sub, BitVec.zero_sub]) hF (fun h hF => ?_) (fun h hF => ?_)
                · skip
                  exact hopI (corralref1_Encode.j8_v F true i0 i1 i2 i3 i4 i5 i6 i7 r0 r1 r2 r3 r4 r5 r6 r7 r8 r9 r10 r11 r12 r13 hk hF)
                · skip
                  refine cond_v (F := F) (rfl) hF (fun h hF => ?_) (fun h hF => ?_)
                  · skip
                    refine cond_v (F := F) (rfl) hF (fun h hF => ?_) (fun h hF => ?_)
                    · skip
                      exact hopI (corralref1_Encode.j8_v F true i0 i1 i2 i3 i4 i5 i6 i7 r0 r1 r2 r3 r4 r5 r6 r7 r8 r9 r10 r11 r12 r13 hk hF)
                    · skip
                      exact hopI (corralref1_Encode.j8_v F i7 i0 i1 i2 i3 i4 i5 i6 i7 r0 r1 r2 r3 r4 r5 r6 r7 r8 r9 r10 r11 r12 r13 hk hF)
                  · skip
                    exact hopI (corralref1_Encode.j8_v F false i0 i1 i2 i3 i4 i5 i6 i7 r0 r1 r2 r3 r4 r5 r6 r7 r8 r9 r10 r11 r12 r13 hk hF)
              · skip
                refine cond_v (F := F) (rfl) hF (fun h hF => ?_) (fun h hF => ?_)
                · skip
                  refine cond_v (F := F) (rfl) hF (fun h hF => ?_) (fun h hF => ?_)
                  · skip
                    exact hopI (corralref1_Encode.j8_v F true i0 i1 i2 i3 i4 i5 i6 i7 r0 r1 r2 r3 r4 r5 r6 r7 r8 r9 r10 r11 r12 r13 hk hF)
                  · skip
                    exact hopI (corralref1_Encode.j8_v F i7 i0 i1 i2 i3 i4 i5 i6 i7 r0 r1 r2 r3 r4 r5 r6 r7 r8 r9 r10 r11 r12 r13 hk hF)
                · skip
                  exact hopI (corralref1_Encode.j8_v F false i0 i1 i2 i3 i4 i5 i6 i7 r0 r1 r2 r3 r4 r5 r6 r7 r8 r9 r10 r11 r12 r13 hk hF)
      · skip
        refine cond_v (F := F) (rfl) hF (fun h hF => ?_) (fun h hF => ?_)
        · skip
          refine cond_v (F := F) (rfl) hF (fun h hF => ?_) (fun h hF => ?_)
          · skip
            exact hopI (corralref1_Encode.j8_v F true i0 i1 i2 i3 i4 i5 i6 i7 r0 r1 r2 r3 r4 r5 r6 r7 r8 r9 r10 r11 r12 r13 hk hF)
          · skip
            refine cond_v (F := F) (rfl) hF (fun h hF => ?_) (fun h hF => ?_)
            · skip
              refine cond_v (F := F) (rfl) hF (fun h hF => ?_) (fun h hF => ?_)
              · skip
                exact hopI (corralref1_Encode.j8_v F true i0 i1 i2 i3 i4 i5 i6 i7 r0 r1 r2 r3 r4 r5 r6 r7 r8 r9 r10 r11 r12 r13 hk hF)
              · skip
                refine cond_v (F := F) (by simp only [beq_nat, beq_lit, ofInt_toNat, ofInt_toNat', ofInt_toInt, BitVec.setWidth_eq, lit_u, BitVec.reduceOfInt, BitVec.reduceToNat, Nat.reducePow, Nat.reduceMod, Int.cast_ofNat_Int, Int.natCast_zero, Int.natCast_one, Int.reduceLT, Int.reduceLE, Int.reducePow, and_self, Int.zero_sub, BitVec.zero_sub]) hF (fun h hF => ?_) (fun h hF => ?_)
                · skip
                  refine cond_v (F := F) (by simp only [bne_nat, bne_lit, ofInt_toNat, ofInt_toNat', ofInt_toInt, BitVec.setWidth_eq, lit_u, BitVec.reduceOfInt, BitVec.reduceToNat, Nat.reducePow, Nat.reduceMod, Int.cast_ofNat_Int, Int.natCast_zero, Int.natCast_one, Int.reduceLT, Int.reduceLE, Int.reducePow, and_self, Int.zero_sub, BitVec.zero_sub]) hF (fun h hF => ?_) (fun h hF => ?_)
                  · skip
                    exact hopI (corralref1_Encode.j8_v F true i0 i1 i2 i3 i4 i5 i6 i7 r0 r1 r2 r3 r4 r5 r6 r7 r8 r9 r10 r11 r12 r13 hk hF)
                  · skip
                    refine cond_v (F := F) (rfl) hF (fun h hF => ?_) (fun h hF => ?_)
                    · skip
                      refine cond_v (F := F) (rfl) hF (fun h hF => ?_) (fun h hF => ?_)
                      · skip
                        exact hopI (corralref1_Encode.j8_v F true i0 i1 i2 i3 i4 i5 i6 i7 r0 r1 r2 r3 r4 r5 r6 r7 r8 r9 r10 r11 r12 r13 hk hF)
                      · skip
                        exact hopI (corralref1_Encode.j8_v F i7 i0 i1 i2 i3 i4 i5 i6 i7 r0 r1 r2 r3 r4 r5 r6 r7 r8 r9 r10 r11 r12 r13 hk hF)
                    · skip
                      exact hopI (corralref1_Encode.j8_v F false i0 i1 i2 i3 i4 i5 i6 i7 r0 r1 r2 r3 r4 r5 r6 r7 r8 r9 r10 r11 r12 r13 hk hF)
                · skip
                  refine cond_v (F := F) (rfl) hF (fun h hF => ?_) (fun h hF => ?_)
                  · skip
                    refine cond_v (F := F) (rfl) hF (fun h hF => ?_) (fun h hF => ?_)
                    · skip
                      exact hopI (corralref1_Encode.j8_v F true i0 i1 i2 i3 i4 i5 i6 i7 r0 r1 r2 r3 r4 r5 r6 r7 r8 r9 r10 r11 r12 r13 hk hF)
                    · skip
                      exact hopI (corralref1_Encode.j8_v F i7 i0 i1 i2 i3 i4 i5 i6 i7 r0 r1 r2 r3 r4 r5 r6 r7 r8 r9 r10 r11 r12 r13 hk hF)
                  · skip
                    exact hopI (corralref1_Encode.j8_v F false i0 i1 i2 i3 i4 i5 i6 i7 r0 r1 r2 r3 r4 r5 r6 r7 r8 r9 r10 r11 r12 r13 hk hF)
            · skip
              refine cond_v (F := F) (by simp only [beq_nat, beq_lit, ofInt_toNat, ofInt_toNat', ofInt_toInt, BitVec.setWidth_eq, lit_u, BitVec.reduceOfInt, BitVec.reduceToNat, Nat.reducePow, Nat.reduceMod, Int.cast_ofNat_Int, Int.natCast_zero, Int.natCast_one, Int.reduceLT, Int.reduceLE, Int.reducePow, and_self, Int.zero_sub, BitVec.zero_sub]) hF (fun h hF => ?_) (fun h hF => ?_)
              · skip
                refine cond_v (F := F) (by simp only [bne_nat, bne_lit, ofInt_toNat, ofInt_toNat', ofInt_toInt, BitVec.setWidth_eq, lit_u, BitVec.reduceOfInt, BitVec.reduceToNat, Nat.reducePow, Nat.reduceMod, Int.cast_ofNat_Int, Int.natCast_zero, Int.natCast_one, Int.reduceLT, Int.reduceLE, Int.reducePow, and_self, Int.zero_sub, BitVec.zero_sub]) hF (fun h hF => ?_) (fun h hF => ?_)
                · skip
                  exact hopI (corralref1_Encode.j8_v F true i0 i1 i2 i3 i4 i5 i6 i7 r0 r1 r2 r3 r4 r5 r6 r7 r8 r9 r10 r11 r12 r13 hk hF)
                · skip
                  refine cond_v (F := F) (rfl) hF (fun h hF => ?_) (fun h hF => ?_)
                  · skip
                    refine cond_v (F := F) (rfl) hF (fun h hF => ?_) (fun h hF => ?_)
                    · skip
                      exact hopI (corralref1_Encode.j8_v F true i0 i1 i2 i3 i4 i5 i6 i7 r0 r1 r2 r3 r4 r5 r6 r7 r8 r9 r10 r11 r12 r13 hk hF)
                    · skip
                      exact hopI (corralref1_Encode.j8_v F i7 i0 i1 i2 i3 i4 i5 i6 i7 r0 r1 r2 r3 r4 r5 r6 r7 r8 r9 r10 r11 r12 r13 hk hF)
                  · skip
                    exact hopI (corralref1_Encode.j8_v F false i0 i1 i2 i3 i4 i5 i6 i7 r0 r1 r2 r3 r4 r5 r6 r7 r8 r9 r10 r11 r12 r13 hk hF)
              · skip
                refine cond_v (F := F) (rfl) hF (fun h hF => ?_) (fun h hF => ?_)
                · skip
                  refine cond_v (F := F) (rfl) hF (fun h hF => ?_) (fun h hF => ?_)
                  · skip
                    exact hopI (corralref1_Encode.j8_v F true i0 i1 i2 i3 i4 i5 i6 i7 r0 r1 r2 r3 r4 r5 r6 r7 r8 r9 r10 r11 r12 r13 hk hF)
                  · skip
                    exact hopI (corralref1_Encode.j8_v F i7 i0 i1 i2 i3 i4 i5 i6 i7 r0 r1 r2 r3 r4 r5 r6 r7 r8 r9 r10 r11 r12 r13 hk hF)
                · skip
                  exact hopI (corralref1_Encode.j8_v F false i0 i1 i2 i3 i4 i5 i6 i7 r0 r1 r2 r3 r4 r5 r6 r7 r8 r9 r10 r11 r12 r13 hk hF)
        · skip
          refine cond_v (F := F) (rfl) hF (fun h hF => ?_) (fun h hF => ?_)
          · skip
            refine cond_v (F := F) (rfl) hF (fun h hF => ?_) (fun h hF => ?_)
            · skip
              exact hopI (corralref1_Encode.j8_v F true i0 i1 i2 i3 i4 i5 i6 i7 r0 r1 r2 r3 r4 r5 r6 r7 r8 r9 r10 r11 r12 r13 hk hF)
            · skip
              refine cond_v (F := F) (by simp only [beq_nat, beq_lit, ofInt_toNat, ofInt_toNat', ofInt_toInt, BitVec.setWidth_eq, lit_u, BitVec.reduceOfInt, BitVec.reduceToNat, Nat.reducePow, Nat.reduceMod, Int.cast_ofNat_Int, Int.natCast_zero, Int.natCast_one, Int.reduceLT, Int.reduceLE, Int.reducePow, and_self, Int.zero_sub, BitVec.zero_sub]) hF (fun h hF => ?_) (fun h hF => ?_)
              · skip
                refine cond_v (F := F) (by simp only [bne_nat, bne_lit, ofInt_toNat, ofInt_toNat', ofInt_toInt, BitVec.setWidth_eq, lit_u, BitVec.reduceOfInt, BitVec.reduceToNat, Nat.reducePow, Nat.reduceMod, Int.cast_ofNat_Int, Int.natCast_zero, Int.natCast_one, Int.reduceLT, Int.reduceLE, Int.reducePow, and_self, Int.zero_sub, BitVec.zero_sub]) hF (fun h hF => ?_) (fun h hF => ?_)
                · skip
                  exact hopI (corralref1_Encode.j8_v F true i0 i1 i2 i3 i4 i5 i6 i7 r0 r1 r2 r3 r4 r5 r6 r7 r8 r9 r10 r11 r12 r13 hk hF)
                · skip
                  refine cond_v (F := F) (rfl) hF (fun h hF => ?_) (fun h hF => ?_)
                  · skip
                    refine cond_v (F := F) (rfl) hF (fun h hF => ?_) (fun h hF => ?_)
                    · skip
                      exact hopI (corralref1_Encode.j8_v F true i0 i1 i2 i3 i4 i5 i6 i7 r0 r1 r2 r3 r4 r5 r6 r7 r8 r9 r10 r11 r12 r13 hk hF)
                    · skip
                      exact hopI (corralref1_Encode.j8_v F i7 i0 i1 i2 i3 i4 i5 i6 i7 r0 r1 r2 r3 r4 r5 r6 r7 r8 r9 r10 r11 r12 r13 hk hF)
                  · skip
                    exact hopI (corralref1_Encode.j8_v F false i0 i1 i2 i3 i4 i5 i6 i7 r0 r1 r2 r3 r4 r5 r6 r7 r8 r9 r10 r11 r12 r13 hk hF)
              · skip
                refine cond_v (F := F) (rfl) hF (fun h hF => ?_) (fun h hF => ?_)
                · skip
                  refine cond_v (F := F) (rfl) hF (fun h hF => ?_) (fun h hF => ?_)
                  · skip
                    exact hopI (corralref1_Encode.j8_v F true i0 i1 i2 i3 i4 i5 i6 i7 r0 r1 r2 r3 r4 r5 r6 r7 r8 r9 r10 r11 r12 r13 hk hF)
                  · skip
                    exact hopI (corralref1_Encode.j8_v F i7 i0 i1 i2 i3 i4 i5 i6 i7 r0 r1 r2 r3 r4 r5 r6 r7 r8 r9 r10 r11 r12 r13 hk hF)
                · skip
                  exact hopI (corralref1_Encode.j8_v F false i0 i1 i2 i3 i4 i5 i6 i7 r0 r1 r2 r3 r4 r5 r6 r7 r8 r9 r10 r11 r12 r13 hk hF)
          · skip
            refine cond_v (F := F) (by simp only [beq_nat, beq_lit, ofInt_toNat, ofInt_toNat', ofInt_toInt, BitVec.setWidth_eq, lit_u, BitVec.reduceOfInt, BitVec.reduceToNat, Nat.reducePow, Nat.reduceMod, Int.cast_ofNat_Int, Int.natCast_zero, Int.natCast_one, Int.reduceLT, Int.reduceLE, Int.reducePow, and_self, Int.zero_sub, BitVec.zero_sub]) hF (fun h hF => ?_) (fun h hF => ?_)
            · skip
              refine cond_v (F := F) (by simp only [bne_nat, bne_lit, ofInt_toNat, ofInt_toNat', ofInt_toInt, BitVec.setWidth_eq, lit_u, BitVec.reduceOfInt, BitVec.reduceToNat, Nat.reducePow, Nat.reduceMod, Int.cast_ofNat_Int, Int.natCast_zero, Int.natCast_one, Int.reduceLT, Int.reduceLE, Int.reducePow, and_self, Int.zero_sub, BitVec.zero_sub]) hF (fun h hF => ?_) (fun h hF => ?_)
              · skip
                exact hopI (corralref1_Encode.j8_v F true i0 i1 i2 i3 i4 i5 i6 i7 r0 r1 r2 r3 r4 r5 r6 r7 r8 r9 r10 r11 r12 r13 hk hF)
              · skip
                refine cond_v (F := F) (rfl) hF (fun h hF => ?_) (fun h hF => ?_)
                · skip
                  refine cond_v (F := F) (rfl) hF (fun h hF => ?_) (fun h hF => ?_)
                  · skip
                    exact hopI (corralref1_Encode.j8_v F true i0 i1 i2 i3 i4 i5 i6 i7 r0 r1 r2 r3 r4 r5 r6 r7 r8 r9 r10 r11 r12 r13 hk hF)
                  · skip
                    exact hopI (corralref1_Encode.j8_v F i7 i0 i1 i2 i3 i4 i5 i6 i7 r0 r1 r2 r3 r4 r5 r6 r7 r8 r9 r10 r11 r12 r13 hk hF)
                · skip
                  exact hopI (corralref1_Encode.j8_v F false i0 i1 i2 i3 i4 i5 i6 i7 r0 r1 r2 r3 r4 r5 r6 r7 r8 r9 r10 r11 r12 r13 hk hF)
            · skip
              refine cond_v (F := F) (rfl) hF (fun h hF => ?_) (fun h hF => ?_)
              · skip
                refine cond_v (F := F) (rfl) hF (fun h hF => ?_) (fun h hF => ?_)
                · skip
                  exact hopI (corralref1_Encode.j8_v F true i0 i1 i2 i3 i4 i5 i6 i7 r0 r1 r2 r3 r4 r5 r6 r7 r8 r9 r10 r11 r12 r13 hk hF)
                · skip
                  exact hopI (corralref1_Encode.j8_v F i7 i0 i1 i2 i3 i4 i5 i6 i7 r0 r1 r2 r3 r4 r5 r6 r7 r8 r9 r10 r11 r12 r13 hk hF)
              · skip
                exact hopI (corralref1_Encode.j8_v F false i0 i1 i2 i3 i4 i5 i6 i7 r0 r1 r2 r3 r4 r5 r6 r7 r8 r9 r10 r11 r12 r13 hk hF)
  · skip
    refine cond_v (F := F) (rfl) hF (fun h hF => ?_) (fun h hF => ?_)
    · skip
      refine cond_v (F := F) (rfl) hF (fun h hF => ?_) (fun h hF => ?_)
      · skip
        exact hopI (corralref1_Encode.j8_v F true i0 i1 i2 i3 i4 i5 i6 i7 r0 r1 r2 r3 r4 r5 r6 r7 r8 r9 r10 r11 r12 r13 hk hF)
      · skip
        refine cond_v (F := F) (rfl) hF (fun h hF => ?_) (fun h hF => ?_)
        · skip
          refine cond_v (F := F) (rfl) hF (fun h hF => ?_) (fun h hF => ?_)
          · skip
            exact hopI (corralref1_Encode.j8_v F true i0 i1 i2 i3 i4 i5 i6 i7 r0 r1 r2 r3 r4 r5 r6 r7 r8 r9 r10 r11 r12 r13 hk hF)
          · skip
            refine cond_v (F := F) (rfl) hF (fun h hF => ?_) (fun h hF => ?_)
            · skip
              refine cond_v (F := F) (rfl) hF (fun h hF => ?_) (fun h hF => ?_)
              · skip
                exact hopI (corralref1_Encode.j8_v F true i0 i1 i2 i3 i4 i5 i6 i7 r0 r1 r2 r3 r4 r5 r6 r7 r8 r9 r10 r11 r12 r13 hk hF)
              · skip
                refine cond_v (F := F) (by simp only [beq_nat, beq_lit, ofInt_toNat, ofInt_toNat', ofInt_toInt, BitVec.setWidth_eq, lit_u, BitVec.reduceOfInt, BitVec.reduceToNat, Nat.reducePow, Nat.reduceMod, Int.cast_ofNat_Int, Int.natCast_zero, Int.natCast_one, Int.reduceLT, Int.reduceLE, Int.reducePow, and_self, Int.zero_sub, BitVec.zero_sub]) hF (fun h hF => ?_) (fun h hF => ?_)
                · skip
                  refine cond_v (F := F) (by simp only [bne_nat, bne_lit, ofInt_toNat, ofInt_toNat', ofInt_toInt, BitVec.setWidth_eq, lit_u, BitVec.reduceOfInt, BitVec.reduceToNat, Nat.reducePow, Nat.reduceMod, Int.cast_ofNat_Int, Int.natCast_zero, Int.natCast_one, Int.reduceLT, Int.reduceLE, Int.reducePow, and_self, Int.zero_sub, BitVec.zero_sub]) hF (fun h hF => ?_) (fun h hF => ?_)
                  · skip
                    exact hopI (corralref1_Encode.j8_v F true i0 i1 i2 i3 i4 i5 i6 i7 r0 r1 r2 r3 r4 r5 r6 r7 r8 r9 r10 r11 r12 r13 hk hF)
                  · skip
                    refine cond_v (F := F) (rfl) hF (fun h hF => ?_) (fun h hF => ?_)
                    · skip
                      refine cond_v (F := F) (rfl) hF (fun h hF => ?_) (fun h hF => ?_)
                      · skip
                        exact hopI (corralref1_Encode.j8_v F true i0 i1 i2 i3 i4 i5 i6 i7 r0 r1 r2 r3 r4 r5 r6 r7 r8 r9 r10 r11 r12 r13 hk hF)
                      · skip
                        exact hopI (corralref1_Encode.j8_v F i7 i0 i1 i2 i3 i4 i5 i6 i7 r0 r1 r2 r3 r4 r5 r6 r7 r8 r9 r10 r11 r12 r13 hk hF)
                    · skip
                      exact hopI (corralref1_Encode.j8_v F false i0 i1 i2 i3 i4 i5 i6 i7 r0 r1 r2 r3 r4 r5 r6 r7 r8 r9 r10 r11 r12 r13 hk hF)
                · skip
                  refine cond_v (F := F) (rfl) hF (fun h hF => ?_) (fun h hF => ?_)
                  · skip
                    refine cond_v (F := F) (rfl) hF (fun h hF => ?_) (fun h hF => ?_)
                    · skip
                      exact hopI (corralref1_Encode.j8_v F true i0 i1 i2 i3 i4 i5 i6 i7 r0 r1 r2 r3 r4 r5 r6 r7 r8 r9 r10 r11 r12 r13 hk hF)
                    · skip
                      exact hopI (corralref1_Encode.j8_v F i7 i0 i1 i2 i3 i4 i5 i6 i7 r0 r1 r2 r3 r4 r5 r6 r7 r8 r9 r10 r11 r12 r13 hk hF)
                  · skip
                    exact hopI (corralref1_Encode.j8_v F false i0 i1 i2 i3 i4 i5 i6 i7 r0 r1 r2 r3 r4 r5 r6 r7 r8 r9 r10 r11 r12 r13 hk hF)
            · skip
              refine cond_v (F := F) (by simp only [beq_nat, beq_lit, ofInt_toNat, ofInt_toNat', ofInt_toInt, BitVec.setWidth_eq, lit_u, BitVec.reduceOfInt, BitVec.reduceToNat, Nat.reducePow, Nat.reduceMod, Int.cast_ofNat_Int, Int.natCast_zero, Int.natCast_one, Int.reduceLT, Int.reduceLE, Int.reducePow, and_self, Int.zero_sub, BitVec.zero_sub]) hF (fun h hF => ?_) (fun h hF => ?_)
              · skip
                refine cond_v (F := F) (by simp only [bne_nat, bne_lit, ofInt_toNat, ofInt_toNat', ofInt_toInt, BitVec.setWidth_eq, lit_u, BitVec.reduceOfInt, BitVec.reduceToNat, Nat.reducePow, Nat.reduceMod, Int.cast_ofNat_Int, Int.natCast_zero, Int.natCast_one, Int.reduceLT, Int.reduceLE, Int.reducePow, and_self, Int.zero_sub, BitVec.zero_sub]) hF (fun h hF => ?_) (fun h hF => ?_)
                · skip
                  exact hopI (corralref1_Encode.j8_v F true i0 i1 i2 i3 i4 i5 i6 i7 r0 r1 r2 r3 r4 r5 r6 r7 r8 r9 r10 r11 r12 r13 hk hF)
                · skip
                  refine cond_v (F := F) (rfl) hF (fun h hF => ?_) (fun h hF => ?_)
                  · skip
                    refine cond_v (F := F) (rfl) hF (fun h hF => ?_) (fun h hF => ?_)
                    · skip
                      exact hopI (corralref1_Encode.j8_v F true i0 i1 i2 i3 i4 i5 i6 i7 r0 r1 r2 r3 r4 r5 r6 r7 r8 r9 r10 r11 r12 r13 hk hF)
                    · skip
                      exact hopI (corralref1_Encode.j8_v F i7 i0 i1 i2 i3 i4 i5 i6 i7 r0 r1 r2 r3 r4 r5 r6 r7 r8 r9 r10 r11 r12 r13 hk hF)
                  · skip
                    exact hopI (corralref1_Encode.j8_v F false i0 i1 i2 i3 i4 i5 i6 i7 r0 r1 r2 r3 r4 r5 r6 r7 r8 r9 r10 r11 r12 r13 hk hF)
              · skip
                refine cond_v (F := F) (rfl) hF (fun h hF => ?_) (fun h hF => ?_)
                · skip
                  refine cond_v (F := F) (rfl) hF (fun h hF => ?_) (fun h hF => ?_)
                  · skip
                    exact hopI (corralref1_Encode.j8_v F true i0 i1 i2 i3 i4 i5 i6 i7 r0 r1 r2 r3 r4 r5 r6 r7 r8 r9 r10 r11 r12 r13 hk hF)
                  · skip
                    exact hopI (corralref1_Encode.j8_v F i7 i0 i1 i2 i3 i4 i5 i6 i7 r0 r1 r2 r3 r4 r5 r6 r7 r8 r9 r10 r11 r12 r13 hk hF)
                · skip
                  exact hopI (corralref1_Encode.j8_v F false i0 i1 i2 i3 i4 i5 i6 i7 r0 r1 r2 r3 r4 r5 r6 r7 r8 r9 r10 r11 r12 r13 hk hF)
        · skip
          refine cond_v (F := F) (rfl) hF (fun h hF => ?_) (fun h hF => ?_)
          · skip
            refine cond_v (F := F) (rfl) hF (fun h hF => ?_) (fun h hF => ?_)
            · skip
              exact hopI (corralref1_Encode.j8_v F true i0 i1 i2 i3 i4 i5 i6 i7 r0 r1 r2 r3 r4 r5 r6 r7 r8 r9 r10 r11 r12 r13 hk hF)
            · skip
              refine cond_v (F := F) (by simp only [beq_nat, beq_lit, ofInt_toNat, ofInt_toNat', ofInt_toInt, BitVec.setWidth_eq, lit_u, BitVec.reduceOfInt, BitVec.reduceToNat, Nat.reducePow, Nat.reduceMod, Int.cast_ofNat_Int, Int.natCast_zero, Int.natCast_one, Int.reduceLT, Int.reduceLE, Int.reducePow, and_self, Int.zero_sub, BitVec.zero_sub]) hF (fun h hF => ?_) (fun h hF => ?_)
              · skip
                refine cond_v (F := F) (by simp only [bne_nat, bne_lit, ofInt_toNat, ofInt_toNat', ofInt_toInt, BitVec.setWidth_eq, lit_u, BitVec.reduceOfInt, BitVec.reduceToNat, Nat.reducePow, Nat.reduceMod, Int.cast_ofNat_Int, Int.natCast_zero, Int.natCast_one, Int.reduceLT, Int.reduceLE, Int.reducePow, and_self, Int.zero_sub, BitVec.zero_sub]) hF (fun h hF => ?_) (fun h hF => ?_)
                · skip
                  exact hopI (corralref1_Encode.j8_v F true i0 i1 i2 i3 i4 i5 i6 i7 r0 r1 r2 r3 r4 r5 r6 r7 r8 r9 r10 r11 r12 r13 hk hF)
                · skip
                  refine cond_v (F := F) (rfl) hF (fun h hF => ?_) (fun h hF => ?_)
                  · skip
                    refine cond_v (F := F) (rfl) hF (fun h hF => ?_) (fun h hF => ?_)
                    · skip
                      exact hopI (corralref1_Encode.j8_v F true i0 i1 i2 i3 i4 i5 i6 i7 r0 r1 r2 r3 r4 r5 r6 r7 r8 r9 r10 r11 r12 r13 hk hF)
                    · skip
                      exact hopI (corralref1_Encode.j8_v F i7 i0 i1 i2 i3 i4 i5 i6 i7 r0 r1 r2 r3 r4 r5 r6 r7 r8 r9 r10 r11 r12 r13 hk hF)
                  · skip
                    exact hopI (corralref1_Encode.j8_v F false i0 i1 i2 i3 i4 i5 i6 i7 r0 r1 r2 r3 r4 r5 r6 r7 r8 r9 r10 r11 r12 r13 hk hF)
              · skip
                refine cond_v (F := F) (rfl) hF (fun h hF => ?_) (fun h hF => ?_)
                · skip
                  refine cond_v (F := F) (rfl) hF (fun h hF => ?_) (fun h hF => ?_)
                  · skip
                    exact hopI (corralref1_Encode.j8_v F true i0 i1 i2 i3 i4 i5 i6 i7 r0 r1 r2 r3 r4 r5 r6 r7 r8 r9 r10 r11 r12 r13 hk hF)
                  · skip
                    exact hopI (corralref1_Encode.j8_v F i7 i0 i1 i2 i3 i4 i5 i6 i7 r0 r1 r2 r3 r4 r5 r6 r7 r8 r9 r10 r11 r12 r13 hk hF)
                · skip
                  exact hopI (corralref1_Encode.j8_v F false i0 i1 i2 i3 i4 i5 i6 i7 r0 r1 r2 r3 r4 r5 r6 r7 r8 r9 r10 r11 r12 r13 hk hF)
          · skip
            refine cond_v (F := F) (by simp only [beq_nat, beq_lit, ofInt_toNat, ofInt_toNat', ofInt_toInt, BitVec.setWidth_eq, lit_u, BitVec.reduceOfInt, BitVec.reduceToNat, Nat.reducePow, Nat.reduceMod, Int.cast_ofNat_Int, Int.natCast_zero, Int.natCast_one, Int.reduceLT, Int.reduceLE, Int.reducePow, and_self, Int.zero_sub, BitVec.zero_sub]) hF (fun h hF => ?_) (fun h hF => ?_)
            · skip
              refine cond_v (F := F) (by simp only [bne_nat, bne_lit, ofInt_toNat, ofInt_toNat', ofInt_toInt, BitVec.setWidth_eq, lit_u, BitVec.reduceOfInt, BitVec.reduceToNat, Nat.reducePow, Nat.reduceMod, Int.cast_ofNat_Int, Int.natCast_zero, Int.natCast_one, Int.reduceLT, Int.reduceLE, Int.reducePow, and_self, Int.zero_sub, BitVec.zero_sub]) hF (fun h hF => ?_) (fun h hF => ?_)
              · skip
                exact hopI (corralref1_Encode.j8_v F true i0 i1 i2 i3 i4 i5 i6 i7 r0 r1 r2 r3 r4 r5 r6 r7 r8 r9 r10 r11 r12 r13 hk hF)
              · skip
                refine cond_v (F := F) (rfl) hF (fun h hF => ?_) (fun h hF => ?_)
                · skip
                  refine cond_v (F := F) (rfl) hF (fun h hF => ?_) (fun h hF => ?_)
                  · skip
                    exact hopI (corralref1_Encode.j8_v F true i0 i1 i2 i3 i4 i5 i6 i7 r0 r1 r2 r3 r4 r5 r6 r7 r8 r9 r10 r11 r12 r13 hk hF)
                  · skip
                    exact hopI (corralref1_Encode.j8_v F i7 i0 i1 i2 i3 i4 i5 i6 i7 r0 r1 r2 r3 r4 r5 r6 r7 r8 r9 r10 r11 r12 r13 hk hF)
                · skip
                  exact hopI (corralref1_Encode.j8_v F false i0 i1 i2 i3 i4 i5 i6 i7 r0 r1 r2 r3 r4 r5 r6 r7 r8 r9 r10 r11 r12 r13 hk hF)
            · skip
              refine cond_v (F := F) (rfl) hF (fun h hF => ?_) (fun h hF => ?_)
              · skip
                refine cond_v (F := F) (rfl) hF (fun h hF => ?_) (fun h hF => ?_)
                · skip
                  exact hopI (corralref1_Encode.j8_v F true i0 i1 i2 i3 i4 i5 i6 i7 r0 r1 r2 r3 r4 r5 r6 r7 r8 r9 r10 r11 r12 r13 hk hF)
                · skip
                  exact hopI (corralref1_Encode.j8_v F i7 i0 i1 i2 i3 i4 i5 i6 i7 r0 r1 r2 r3 r4 r5 r6 r7 r8 r9 r10 r11 r12 r13 hk hF)
              · skip
                exact hopI (corralref1_Encode.j8_v F false i0 i1 i2 i3 i4 i5 i6 i7 r0 r1 r2 r3 r4 r5 r6 r7 r8 r9 r10 r11 r12 r13 hk hF)
    · skip
      refine cond_v (F := F) (rfl) hF (fun h hF => ?_) (fun h hF => ?_)
      · skip
        refine cond_v (F := F) (rfl) hF (fun h hF => ?_) (fun h hF => ?_)
        · skip
          exact hopI (corralref1_Encode.j8_v F true i0 i1 i2 i3 i4 i5 i6 i7 r0 r1 r2 r3 r4 r5 r6 r7 r8 r9 r10 r11 r12 r13 hk hF)
        · skip
          refine cond_v (F := F) (rfl) hF (fun h hF => ?_) (fun h hF => ?_)
          · skip
            refine cond_v (F := F) (rfl) hF (fun h hF => ?_) (fun h hF => ?_)
            · skip
              exact hopI (corralref1_Encode.j8_v F true i0 i1 i2 i3 i4 i5 i6 i7 r0 r1 r2 r3 r4 r5 r6 r7 r8 r9 r10 r11 r12 r13 hk hF)
            · skip
              refine cond_v (F := F) (by simp only [beq_nat, beq_lit, ofInt_toNat, ofInt_toNat', ofInt_toInt, BitVec.setWidth_eq, lit_u, BitVec.reduceOfInt, BitVec.reduceToNat, Nat.reducePow, Nat.reduceMod, Int.cast_ofNat_Int, Int.natCast_zero, Int.natCast_one, Int.reduceLT, Int.reduceLE, Int.reducePow, and_self, Int.zero_sub, BitVec.zero_sub]) hF (fun h hF => ?_) (fun h hF => ?_)
              · skip
                refine cond_v (F := F) (by simp only [bne_nat, bne_lit, ofInt_toNat, ofInt_toNat', ofInt_toInt, BitVec.setWidth_eq, lit_u, BitVec.reduceOfInt, BitVec.reduceToNat, Nat.reducePow, Nat.reduceMod, Int.cast_ofNat_Int, Int.natCast_zero, Int.natCast_one, Int.reduceLT, Int.reduceLE, Int.reducePow, and_self, Int.zero_sub, BitVec.zero_sub]) hF (fun h hF => ?_) (fun h hF => ?_)
                · skip
                  exact hopI (corralref1_Encode.j8_v F true i0 i1 i2 i3 i4 i5 i6 i7 r0 r1 r2 r3 r4 r5 r6 r7 r8 r9 r10 r11 r12 r13 hk hF)
                · skip
                  refine cond_v (F := F) (rfl) hF (fun h hF => ?_) (fun h hF => ?_)
                  · skip
                    refine cond_v (F := F) (rfl) hF (fun h hF => ?_) (fun h hF => ?_)
                    · skip
                      exact hopI (corralref1_Encode.j8_v F true i0 i1 i2 i3 i4 i5 i6 i7 r0 r1 r2 r3 r4 r5 r6 r7 r8 r9 r10 r11 r12 r13 hk hF)
                    · skip
                      exact hopI (corralref1_Encode.j8_v F i7 i0 i1 i2 i3 i4 i5 i6 i7 r0 r1 r2 r3 r4 r5 r6 r7 r8 r9 r10 r11 r12 r13 hk hF)
                  · skip
                    exact hopI (corralref1_Encode.j8_v F false i0 i1 i2 i3 i4 i5 i6 i7 r0 r1 r2 r3 r4 r5 r6 r7 r8 r9 r10 r11 r12 r13 hk hF)
              · skip
                refine cond_v (F := F) (rfl) hF (fun h hF => ?_) (fun h hF => ?_)
                · skip
                  refine cond_v (F := F) (rfl) hF (fun h hF => ?_) (fun h hF => ?_)
                  · skip
                    exact hopI (corralref1_Encode.j8_v F true i0 i1 i2 i3 i4 i5 i6 i7 r0 r1 r2 r3 r4 r5 r6 r7 r8 r9 r10 r11 r12 r13 hk hF)
                  · skip
                    exact hopI (corralref1_Encode.j8_v F i7 i0 i1 i2 i3 i4 i5 i6 i7 r0 r1 r2 r3 r4 r5 r6 r7 r8 r9 r10 r11 r12 r13 hk hF)
                · skip
                  exact hopI (corralref1_Encode.j8_v F false i0 i1 i2 i3 i4 i5 i6 i7 r0 r1 r2 r3 r4 r5 r6 r7 r8 r9 r10 r11 r12 r13 hk hF)
          · skip
            refine cond_v (F := F) (by simp only [beq_nat, beq_lit, ofInt_toNat, ofInt_toNat', ofInt_toInt, BitVec.setWidth_eq, lit_u, BitVec.reduceOfInt, BitVec.reduceToNat, Nat.reducePow, Nat.reduceMod, Int.cast_ofNat_Int, Int.natCast_zero, Int.natCast_one, Int.reduceLT, Int.reduceLE, Int.reducePow, and_self, Int.zero_sub, BitVec.zero_sub]) hF (fun h hF => ?_) (fun h hF => ?_)
            · skip
              refine cond_v (F := F) (by simp only [bne_nat, bne_lit, ofInt_toNat, ofInt_toNat', ofInt_toInt, BitVec.setWidth_eq, lit_u, BitVec.reduceOfInt, BitVec.reduceToNat, Nat.reducePow, Nat.reduceMod, Int.cast_ofNat_Int, Int.natCast_zero, Int.natCast_one, Int.reduceLT, Int.reduceLE, Int.reducePow, and_self, Int.zero_sub, BitVec.zero_sub]) hF (fun h hF => ?_) (fun h hF => ?_)
              · skip
                exact hopI (corralref1_Encode.j8_v F true i0 i1 i2 i3 i4 i5 i6 i7 r0 r1 r2 r3 r4 r5 r6 r7 r8 r9 r10 r11 r12 r13 hk hF)
              · skip
                refine cond_v (F := F) (rfl) hF (fun h hF => ?_) (fun h hF => ?_)
                · skip
                  refine cond_v (F := F) (rfl) hF (fun h hF => ?_) (fun h hF => ?_)
                  · skip
                    exact hopI (corralref1_Encode.j8_v F true i0 i1 i2 i3 i4 i5 i6 i7 r0 r1 r2 r3 r4 r5 r6 r7 r8 r9 r10 r11 r12 r13 hk hF)
                  · skip
                    exact hopI (corralref1_Encode.j8_v F i7 i0 i1 i2 i3 i4 i5 i6 i7 r0 r1 r2 r3 r4 r5 r6 r7 r8 r9 r10 r11 r12 r13 hk hF)
                · skip
                  exact hopI (corralref1_Encode.j8_v F false i0 i1 i2 i3 i4 i5 i6 i7 r0 r1 r2 r3 r4 r5 r6 r7 r8 r9 r10 r11 r12 r13 hk hF)
            · skip
              refine cond_v (F := F) (rfl) hF (fun h hF => ?_) (fun h hF => ?_)
              · skip
                refine cond_v (F := F) (rfl) hF (fun h hF => ?_) (fun h hF => ?_)
                · skip
                  exact hopI (corralref1_Encode.j8_v F true i0 i1 i2 i3 i4 i5 i6 i7 r0 r1 r2 r3 r4 r5 r6 r7 r8 r9 r10 r11 r12 r13 hk hF)
                · skip
                  exact hopI (corralref1_Encode.j8_v F i7 i0 i1 i2 i3 i4 i5 i6 i7 r0 r1 r2 r3 r4 r5 r6 r7 r8 r9 r10 r11 r12 r13 hk hF)
              · skip
                exact hopI (corralref1_Encode.j8_v F false i0 i1 i2 i3 i4 i5 i6 i7 r0 r1 r2 r3 r4 r5 r6 r7 r8 r9 r10 r11 r12 r13 hk hF)
      · skip
        refine cond_v (F := F) (rfl) hF (fun h hF => ?_) (fun h hF => ?_)
        · skip
          refine cond_v (F := F) (rfl) hF (fun h hF => ?_) (fun h hF => ?_)
          · skip
            exact hopI (corralref1_Encode.j8_v F true i0 i1 i2 i3 i4 i5 i6 i7 r0 r1 r2 r3 r4 r5 r6 r7 r8 r9 r10 r11 r12 r13 hk hF)
          · skip
            refine cond_v (F := F) (by simp only [beq_nat, beq_lit, ofInt_toNat, ofInt_toNat', ofInt_toInt, BitVec.setWidth_eq, lit_u, BitVec.reduceOfInt, BitVec.reduceToNat, Nat.reducePow, Nat.reduceMod, Int.cast_ofNat_Int, Int.natCast_zero, Int.natCast_one, Int.reduceLT, Int.reduceLE, Int.reducePow, and_self, Int.zero_sub, BitVec.zero_sub]) hF (fun h hF => ?_) (fun h hF => ?_)
            · skip
              refine cond_v (F := F) (by simp only [bne_nat, bne_lit, ofInt_toNat, ofInt_toNat', ofInt_toInt, BitVec.setWidth_eq, lit_u, BitVec.reduceOfInt, BitVec.reduceToNat, Nat.reducePow, Nat.reduceMod, Int.cast_ofNat_Int, Int.natCast_zero, Int.natCast_one, Int.reduceLT, Int.reduceLE, Int.reducePow, and_self, Int.zero_sub, BitVec.zero_sub]) hF (fun h hF => ?_) (fun h hF => ?_)
              · skip
                exact hopI (corralref1_Encode.j8_v F true i0 i1 i2 i3 i4 i5 i6 i7 r0 r1 r2 r3 r4 r5 r6 r7 r8 r9 r10 r11 r12 r13 hk hF)
              · skip
                refine cond_v (F := F) (rfl) hF (fun h hF => ?_) (fun h hF => ?_)
                · skip
                  refine cond_v (F := F) (rfl) hF (fun h hF => ?_) (fun h hF => ?_)
                  · skip
                    exact hopI (corralref1_Encode.j8_v F true i0 i1 i2 i3 i4 i5 i6 i7 r0 r1 r2 r3 r4 r5 r6 r7 r8 r9 r10 r11 r12 r13 hk hF)
                  · skip
                    exact hopI (corralref1_Encode.j8_v F i7 i0 i1 i2 i3 i4 i5 i6 i7 r0 r1 r2 r3 r4 r5 r6 r7 r8 r9 r10 r11 r12 r13 hk hF)
                · skip
                  exact hopI (corralref1_Encode.j8_v F false i0 i1 i2 i3 i4 i5 i6 i7 r0 r1 r2 r3 r4 r5 r6 r7 r8 r9 r10 r11 r12 r13 hk hF)
            · skip
              refine cond_v (F := F) (rfl) hF (fun h hF => ?_) (fun h hF => ?_)
              · skip
                refine cond_v (F := F) (rfl) hF (fun h hF => ?_) (fun h hF => ?_)
                · skip
                  exact hopI (corralref1_Encode.j8_v F true i0 i1 i2 i3 i4 i5 i6 i7 r0 r1 r2 r3 r4 r5 r6 r7 r8 r9 r10 r11 r12 r13 hk hF)
                · skip
                  exact hopI (corralref1_Encode.j8_v F i7 i0 i1 i2 i3 i4 i5 i6 i7 r0 r1 r2 r3 r4 r5 r6 r7 r8 r9 r10 r11 r12 r13 hk hF)
              · skip
                exact hopI (corralref1_Encode.j8_v F false i0 i1 i2 i3 i4 i5 i6 i7 r0 r1 r2 r3 r4 r5 r6 r7 r8 r9 r10 r11 r12 r13 hk hF)
        · skip
          refine cond_v (F := F) (by simp only [beq_nat, beq_lit, ofInt_toNat, ofInt_toNat', ofInt_toInt, BitVec.setWidth_eq, lit_u, BitVec.reduceOfInt, BitVec.reduceToNat, Nat.reducePow, Nat.reduceMod, Int.cast_ofNat_Int, Int.natCast_zero, Int.natCast_one, Int.reduceLT, Int.reduceLE, Int.reducePow, and_self, Int.zero_sub, BitVec.zero_sub]) hF (fun h hF => ?_) (fun h hF => ?_)
          · skip
            refine cond_v (F := F) (by simp only [bne_nat, bne_lit, ofInt_toNat, ofInt_toNat', ofInt_toInt, BitVec.setWidth_eq, lit_u, BitVec.reduceOfInt, BitVec.reduceToNat, Nat.reducePow, Nat.reduceMod, Int.cast_ofNat_Int, Int.natCast_zero, Int.natCast_one, Int.reduceLT, Int.reduceLE, Int.reducePow, and_self, Int.zero_sub, BitVec.zero_sub]) hF (fun h hF => ?_) (fun h hF => ?_)
            · skip
              exact hopI (corralref1_Encode.j8_v F true i0 i1 i2 i3 i4 i5 i6 i7 r0 r1 r2 r3 r4 r5 r6 r7 r8 r9 r10 r11 r12 r13 hk hF)
            · skip
              refine cond_v (F := F) (rfl) hF (fun h hF => ?_) (fun h hF => ?_)
              · skip
                refine cond_v (F := F) (rfl) hF (fun h hF => ?_) (fun h hF => ?_)
                · skip
                  exact hopI (corralref1_Encode.j8_v F true i0 i1 i2 i3 i4 i5 i6 i7 r0 r1 r2 r3 r4 r5 r6 r7 r8 r9 r10 r11 r12 r13 hk hF)
                · skip
                  exact hopI (corralref1_Encode.j8_v F i7 i0 i1 i2 i3 i4 i5 i6 i7 r0 r1 r2 r3 r4 r5 r6 r7 r8 r9 r10 r11 r12 r13 hk hF)
              · skip
                exact hopI (corralref1_Encode.j8_v F false i0 i1 i2 i3 i4 i5 i6 i7 r0 r1 r2 r3 r4 r5 r6 r7 r8 r9 r10 r11 r12 r13 hk hF)
          · skip
            refine cond_v (F := F) (rfl) hF (fun h hF => ?_) (fun h hF => ?_)
            · skip
              refine cond_v (F := F) (rfl) hF (fun h hF => ?_) (fun h hF => ?_)
              · skip
                exact hopI (corralref1_Encode.j8_v F true i0 i1 i2 i3 i4 i5 i6 i7 r0 r1 r2 r3 r4 r5 r6 r7 r8 r9 r10 r11 r12 r13 hk hF)
              · skip
                exact hopI (corralref1_Encode.j8_v F i7 i0 i1 i2 i3 i4 i5 i6 i7 r0 r1 r2 r3 r4 r5 r6 r7 r8 r9 r10 r11 r12 r13 hk hF)
            · skip
              exact hopI (corralref1_Encode.j8_v F false i0 i1 i2 i3 i4 i5 i6 i7 r0 r1 r2 r3 r4 r5 r6 r7 r8 r9 r10 r11 r12 r13 hk hF)
def corralref1_Encode.v6 (t58 : Bool) (i0 : Int) (i1 : Int) (i2 : Int) (i3 : Int) (i4 : Int) (i5 : BitVec 32) (i6 : Bool) (i7 : Bool) (r0 : Int) (r1 : ByteArray) (r2 : BitVec 32) (r3 : BitVec 32) (r4 : BitVec 32) (r5 : Bool) (r6 : Bool) (r7 : BitVec 8) (r8 : Bool) (r9 : Bool) (r10 : Bool) (r11 : Bool) (r12 : BitVec 32) (r13 : Bool) : BitVec 32 × Int :=
  bif t58 then
    (0#32, 106)
  else
    corralref1_Encode.v7 i0 i1 i2 i3 i4 i5 i6 i7 r0 r1 r2 r3 r4 r5 r6 r7 r8 r9 r10 r11 r12 r13
theorem corralref1_Encode.j6_v {K : Value → Store → Prop} {σ : Store} (F : (BitVec 32 × Int) → Prop) (t58 : Bool) (i0 : Int) (i1 : Int) (i2 : Int) (i3 : Int) (i4 : Int) (i5 : BitVec 32) (i6 : Bool) (i7 : Bool) (r0 : Int) (r1 : ByteArray) (r2 : BitVec 32) (r3 : BitVec 32) (r4 : BitVec 32) (r5 : Bool) (r6 : Bool) (r7 : BitVec 8) (r8 : Bool) (r9 : Bool) (r10 : Bool) (r11 : Bool) (r12 : BitVec 32) (r13 : Bool) (hk : ∀ r, F r → K (.tuple #[.int .u32 (BitVec.toNat r.1 : Int), .int .i64 r.2]) σ) (hF : F (corralref1_Encode.v6 t58 i0 i1 i2 i3 i4 i5 i6 i7 r0 r1 r2 r3 r4 r5 r6 r7 r8 r9 r10 r11 r12 r13)) : corralref1_Encode.j6 K t58 i0 i1 i2 i3 i4 (BitVec.toNat i5 : Int) i6 i7 r0 r1 (BitVec.toNat r2 : Int) (BitVec.toNat r3 : Int) (BitVec.toNat r4 : Int) r5 r6 (BitVec.toNat r7 : Int) r8 r9 r10 r11 (BitVec.toNat r12 : Int) r13 σ := by
  unfold corralref1_Encode.j6
  unfold corralref1_Encode.v6 at hF
  try dsimp only at hF
  refine cond_v (F := F) (rfl) hF (fun h hF => ?_) (fun h hF => ?_)
  · skip
    exact hk _ hF
  · skip
    exact hopI (corralref1_Encode.j7_v F i0 i1 i2 i3 i4 i5 i6 i7 r0 r1 r2 r3 r4 r5 r6 r7 r8 r9 r10 r11 r12 r13 hk hF)
def corralref1_Encode.v (i0 : Int) (i1 : Int) (i2 : Int) (i3 : Int) (i4 : Int) (i5 : BitVec 32) (i6 : Bool) (i7 : Bool) : BitVec 32 × Int :=
  let c1 := corralref1_Of.v i0
  bif (!c1.2.2.2.2.2.2.2.2.2.2.2.2.2.2) then
    (0#32, 102)
  else
    let c2 := corralref1_lay.v c1.2.2.2.2.2.2.2.1 i5
    let c3 := corralref1_reg.v i1
    bif (!c3) then
      corralref1_Encode.v6 true i0 i1 i2 i3 i4 i5 i6 i7 c1.1 c1.2.1 c1.2.2.1 c1.2.2.2.1 c1.2.2.2.2.1 c1.2.2.2.2.2.1 c1.2.2.2.2.2.2.1 c1.2.2.2.2.2.2.2.1 c1.2.2.2.2.2.2.2.2.1 c1.2.2.2.2.2.2.2.2.2.1 c1.2.2.2.2.2.2.2.2.2.2.1 c1.2.2.2.2.2.2.2.2.2.2.2.1 c1.2.2.2.2.2.2.2.2.2.2.2.2.1 c1.2.2.2.2.2.2.2.2.2.2.2.2.2.1
    else
      let c4 := corralref1_reg.v i2
      bif (!c4) then
        corralref1_Encode.v6 true i0 i1 i2 i3 i4 i5 i6 i7 c1.1 c1.2.1 c1.2.2.1 c1.2.2.2.1 c1.2.2.2.2.1 c1.2.2.2.2.2.1 c1.2.2.2.2.2.2.1 c1.2.2.2.2.2.2.2.1 c1.2.2.2.2.2.2.2.2.1 c1.2.2.2.2.2.2.2.2.2.1 c1.2.2.2.2.2.2.2.2.2.2.1 c1.2.2.2.2.2.2.2.2.2.2.2.1 c1.2.2.2.2.2.2.2.2.2.2.2.2.1 c1.2.2.2.2.2.2.2.2.2.2.2.2.2.1
      else
        let c5 := corralref1_reg.v i3
        bif (!c5) then
          corralref1_Encode.v6 true i0 i1 i2 i3 i4 i5 i6 i7 c1.1 c1.2.1 c1.2.2.1 c1.2.2.2.1 c1.2.2.2.2.1 c1.2.2.2.2.2.1 c1.2.2.2.2.2.2.1 c1.2.2.2.2.2.2.2.1 c1.2.2.2.2.2.2.2.2.1 c1.2.2.2.2.2.2.2.2.2.1 c1.2.2.2.2.2.2.2.2.2.2.1 c1.2.2.2.2.2.2.2.2.2.2.2.1 c1.2.2.2.2.2.2.2.2.2.2.2.2.1 c1.2.2.2.2.2.2.2.2.2.2.2.2.2.1
        else
          bif (decide (i4 < 0)) then
            corralref1_Encode.v6 true i0 i1 i2 i3 i4 i5 i6 i7 c1.1 c1.2.1 c1.2.2.1 c1.2.2.2.1 c1.2.2.2.2.1 c1.2.2.2.2.2.1 c1.2.2.2.2.2.2.1 c1.2.2.2.2.2.2.2.1 c1.2.2.2.2.2.2.2.2.1 c1.2.2.2.2.2.2.2.2.2.1 c1.2.2.2.2.2.2.2.2.2.2.1 c1.2.2.2.2.2.2.2.2.2.2.2.1 c1.2.2.2.2.2.2.2.2.2.2.2.2.1 c1.2.2.2.2.2.2.2.2.2.2.2.2.2.1
          else
            bif (decide (i4 > 4095)) then
              corralref1_Encode.v6 true i0 i1 i2 i3 i4 i5 i6 i7 c1.1 c1.2.1 c1.2.2.1 c1.2.2.2.1 c1.2.2.2.2.1 c1.2.2.2.2.2.1 c1.2.2.2.2.2.2.1 c1.2.2.2.2.2.2.2.1 c1.2.2.2.2.2.2.2.2.1 c1.2.2.2.2.2.2.2.2.2.1 c1.2.2.2.2.2.2.2.2.2.2.1 c1.2.2.2.2.2.2.2.2.2.2.2.1 c1.2.2.2.2.2.2.2.2.2.2.2.2.1 c1.2.2.2.2.2.2.2.2.2.2.2.2.2.1
            else
              bif (c1.2.2.2.2.2.2.2.1 != 0#8) then
                corralref1_Encode.v6 (!c2.2) i0 i1 i2 i3 i4 i5 i6 i7 c1.1 c1.2.1 c1.2.2.1 c1.2.2.2.1 c1.2.2.2.2.1 c1.2.2.2.2.2.1 c1.2.2.2.2.2.2.1 c1.2.2.2.2.2.2.2.1 c1.2.2.2.2.2.2.2.2.1 c1.2.2.2.2.2.2.2.2.2.1 c1.2.2.2.2.2.2.2.2.2.2.1 c1.2.2.2.2.2.2.2.2.2.2.2.1 c1.2.2.2.2.2.2.2.2.2.2.2.2.1 c1.2.2.2.2.2.2.2.2.2.2.2.2.2.1
              else
                corralref1_Encode.v6 false i0 i1 i2 i3 i4 i5 i6 i7 c1.1 c1.2.1 c1.2.2.1 c1.2.2.2.1 c1.2.2.2.2.1 c1.2.2.2.2.2.1 c1.2.2.2.2.2.2.1 c1.2.2.2.2.2.2.2.1 c1.2.2.2.2.2.2.2.2.1 c1.2.2.2.2.2.2.2.2.2.1 c1.2.2.2.2.2.2.2.2.2.2.1 c1.2.2.2.2.2.2.2.2.2.2.2.1 c1.2.2.2.2.2.2.2.2.2.2.2.2.1 c1.2.2.2.2.2.2.2.2.2.2.2.2.2.1
theorem corralref1_Encode.m_v {K : Value → Store → Prop} {σ : Store} (F : (BitVec 32 × Int) → Prop) (i0 : Int) (i1 : Int) (i2 : Int) (i3 : Int) (i4 : Int) (i5 : BitVec 32) (i6 : Bool) (i7 : Bool) (hk : ∀ r, F r → K (.tuple #[.int .u32 (BitVec.toNat r.1 : Int), .int .i64 r.2]) σ) (hF : F (corralref1_Encode.v i0 i1 i2 i3 i4 i5 i6 i7)) : corralref1_Encode.m K i0 i1 i2 i3 i4 (BitVec.toNat i5 : Int) i6 i7 σ := by
  unfold corralref1_Encode.m
  unfold corralref1_Encode.v at hF
  try dsimp only at hF
  refine Pur.use (corralref1_Of.pur i0 σ) (rfl) ⟨_, _, _, _, _, _, _, _, _, _, _, _, _, _, _, rfl, ?_⟩
  refine cond_v (F := F) (rfl) hF (fun h hF => ?_) (fun h hF => ?_)
  · skip
    exact hk _ hF
  · skip
    refine Pur.use (corralref1_lay.pur ((corralref1_Of.v i0).2.2.2.2.2.2.2.1) i5 σ) (rfl) ⟨_, _, rfl, ?_⟩
    refine Pur.use (corralref1_reg.pur i1 σ) (rfl) ⟨_, rfl, ?_⟩
    refine cond_v (F := F) (rfl) hF (fun h hF => ?_) (fun h hF => ?_)
    · skip
      exact hopI (corralref1_Encode.j6_v F true i0 i1 i2 i3 i4 i5 i6 i7 ((corralref1_Of.v i0).1) ((corralref1_Of.v i0).2.1) ((corralref1_Of.v i0).2.2.1) ((corralref1_Of.v i0).2.2.2.1) ((corralref1_Of.v i0).2.2.2.2.1) ((corralref1_Of.v i0).2.2.2.2.2.1) ((corralref1_Of.v i0).2.2.2.2.2.2.1) ((corralref1_Of.v i0).2.2.2.2.2.2.2.1) ((corralref1_Of.v i0).2.2.2.2.2.2.2.2.1) ((corralref1_Of.v i0).2.2.2.2.2.2.2.2.2.1) ((corralref1_Of.v i0).2.2.2.2.2.2.2.2.2.2.1) ((corralref1_Of.v i0).2.2.2.2.2.2.2.2.2.2.2.1) ((corralref1_Of.v i0).2.2.2.2.2.2.2.2.2.2.2.2.1) ((corralref1_Of.v i0).2.2.2.2.2.2.2.2.2.2.2.2.2.1) hk hF)
    · skip
      refine Pur.use (corralref1_reg.pur i2 σ) (rfl) ⟨_, rfl, ?_⟩
      refine cond_v (F := F) (rfl) hF (fun h hF => ?_) (fun h hF => ?_)
      · skip
        exact hopI (corralref1_Encode.j6_v F true i0 i1 i2 i3 i4 i5 i6 i7 ((corralref1_Of.v i0).1) ((corralref1_Of.v i0).2.1) ((corralref1_Of.v i0).2.2.1) ((corralref1_Of.v i0).2.2.2.1) ((corralref1_Of.v i0).2.2.2.2.1) ((corralref1_Of.v i0).2.2.2.2.2.1) ((corralref1_Of.v i0).2.2.2.2.2.2.1) ((corralref1_Of.v i0).2.2.2.2.2.2.2.1) ((corralref1_Of.v i0).2.2.2.2.2.2.2.2.1) ((corralref1_Of.v i0).2.2.2.2.2.2.2.2.2.1) ((corralref1_Of.v i0).2.2.2.2.2.2.2.2.2.2.1) ((corralref1_Of.v i0).2.2.2.2.2.2.2.2.2.2.2.1) ((corralref1_Of.v i0).2.2.2.2.2.2.2.2.2.2.2.2.1) ((corralref1_Of.v i0).2.2.2.2.2.2.2.2.2.2.2.2.2.1) hk hF)
      · skip
        refine Pur.use (corralref1_reg.pur i3 σ) (rfl) ⟨_, rfl, ?_⟩
        refine cond_v (F := F) (rfl) hF (fun h hF => ?_) (fun h hF => ?_)
        · skip
          exact hopI (corralref1_Encode.j6_v F true i0 i1 i2 i3 i4 i5 i6 i7 ((corralref1_Of.v i0).1) ((corralref1_Of.v i0).2.1) ((corralref1_Of.v i0).2.2.1) ((corralref1_Of.v i0).2.2.2.1) ((corralref1_Of.v i0).2.2.2.2.1) ((corralref1_Of.v i0).2.2.2.2.2.1) ((corralref1_Of.v i0).2.2.2.2.2.2.1) ((corralref1_Of.v i0).2.2.2.2.2.2.2.1) ((corralref1_Of.v i0).2.2.2.2.2.2.2.2.1) ((corralref1_Of.v i0).2.2.2.2.2.2.2.2.2.1) ((corralref1_Of.v i0).2.2.2.2.2.2.2.2.2.2.1) ((corralref1_Of.v i0).2.2.2.2.2.2.2.2.2.2.2.1) ((corralref1_Of.v i0).2.2.2.2.2.2.2.2.2.2.2.2.1) ((corralref1_Of.v i0).2.2.2.2.2.2.2.2.2.2.2.2.2.1) hk hF)
        · skip
          refine cond_v (F := F) (rfl) hF (fun h hF => ?_) (fun h hF => ?_)
          · skip
            exact hopI (corralref1_Encode.j6_v F true i0 i1 i2 i3 i4 i5 i6 i7 ((corralref1_Of.v i0).1) ((corralref1_Of.v i0).2.1) ((corralref1_Of.v i0).2.2.1) ((corralref1_Of.v i0).2.2.2.1) ((corralref1_Of.v i0).2.2.2.2.1) ((corralref1_Of.v i0).2.2.2.2.2.1) ((corralref1_Of.v i0).2.2.2.2.2.2.1) ((corralref1_Of.v i0).2.2.2.2.2.2.2.1) ((corralref1_Of.v i0).2.2.2.2.2.2.2.2.1) ((corralref1_Of.v i0).2.2.2.2.2.2.2.2.2.1) ((corralref1_Of.v i0).2.2.2.2.2.2.2.2.2.2.1) ((corralref1_Of.v i0).2.2.2.2.2.2.2.2.2.2.2.1) ((corralref1_Of.v i0).2.2.2.2.2.2.2.2.2.2.2.2.1) ((corralref1_Of.v i0).2.2.2.2.2.2.2.2.2.2.2.2.2.1) hk hF)
          · skip
            refine cond_v (F := F) (rfl) hF (fun h hF => ?_) (fun h hF => ?_)
            · skip
              exact hopI (corralref1_Encode.j6_v F true i0 i1 i2 i3 i4 i5 i6 i7 ((corralref1_Of.v i0).1) ((corralref1_Of.v i0).2.1) ((corralref1_Of.v i0).2.2.1) ((corralref1_Of.v i0).2.2.2.1) ((corralref1_Of.v i0).2.2.2.2.1) ((corralref1_Of.v i0).2.2.2.2.2.1) ((corralref1_Of.v i0).2.2.2.2.2.2.1) ((corralref1_Of.v i0).2.2.2.2.2.2.2.1) ((corralref1_Of.v i0).2.2.2.2.2.2.2.2.1) ((corralref1_Of.v i0).2.2.2.2.2.2.2.2.2.1) ((corralref1_Of.v i0).2.2.2.2.2.2.2.2.2.2.1) ((corralref1_Of.v i0).2.2.2.2.2.2.2.2.2.2.2.1) ((corralref1_Of.v i0).2.2.2.2.2.2.2.2.2.2.2.2.1) ((corralref1_Of.v i0).2.2.2.2.2.2.2.2.2.2.2.2.2.1) hk hF)
            · skip
              refine cond_v (F := F) (by simp only [bne_nat, bne_lit, ofInt_toNat, ofInt_toNat', ofInt_toInt, BitVec.setWidth_eq, lit_u, BitVec.reduceOfInt, BitVec.reduceToNat, Nat.reducePow, Nat.reduceMod, Int.cast_ofNat_Int, Int.natCast_zero, Int.natCast_one, Int.reduceLT, Int.reduceLE, Int.reducePow, and_self, Int.zero_sub, BitVec.zero_sub]) hF (fun h hF => ?_) (fun h hF => ?_)
              · skip
                exact hopI (corralref1_Encode.j6_v F (!(corralref1_lay.v ((corralref1_Of.v i0).2.2.2.2.2.2.2.1) i5).2) i0 i1 i2 i3 i4 i5 i6 i7 ((corralref1_Of.v i0).1) ((corralref1_Of.v i0).2.1) ((corralref1_Of.v i0).2.2.1) ((corralref1_Of.v i0).2.2.2.1) ((corralref1_Of.v i0).2.2.2.2.1) ((corralref1_Of.v i0).2.2.2.2.2.1) ((corralref1_Of.v i0).2.2.2.2.2.2.1) ((corralref1_Of.v i0).2.2.2.2.2.2.2.1) ((corralref1_Of.v i0).2.2.2.2.2.2.2.2.1) ((corralref1_Of.v i0).2.2.2.2.2.2.2.2.2.1) ((corralref1_Of.v i0).2.2.2.2.2.2.2.2.2.2.1) ((corralref1_Of.v i0).2.2.2.2.2.2.2.2.2.2.2.1) ((corralref1_Of.v i0).2.2.2.2.2.2.2.2.2.2.2.2.1) ((corralref1_Of.v i0).2.2.2.2.2.2.2.2.2.2.2.2.2.1) hk hF)
              · skip
                exact hopI (corralref1_Encode.j6_v F false i0 i1 i2 i3 i4 i5 i6 i7 ((corralref1_Of.v i0).1) ((corralref1_Of.v i0).2.1) ((corralref1_Of.v i0).2.2.1) ((corralref1_Of.v i0).2.2.2.1) ((corralref1_Of.v i0).2.2.2.2.1) ((corralref1_Of.v i0).2.2.2.2.2.1) ((corralref1_Of.v i0).2.2.2.2.2.2.1) ((corralref1_Of.v i0).2.2.2.2.2.2.2.1) ((corralref1_Of.v i0).2.2.2.2.2.2.2.2.1) ((corralref1_Of.v i0).2.2.2.2.2.2.2.2.2.1) ((corralref1_Of.v i0).2.2.2.2.2.2.2.2.2.2.1) ((corralref1_Of.v i0).2.2.2.2.2.2.2.2.2.2.2.1) ((corralref1_Of.v i0).2.2.2.2.2.2.2.2.2.2.2.2.1) ((corralref1_Of.v i0).2.2.2.2.2.2.2.2.2.2.2.2.2.1) hk hF)
theorem corralref1_Encode.pur (i0 : Int) (i1 : Int) (i2 : Int) (i3 : Int) (i4 : Int) (i5 : BitVec 32) (i6 : Bool) (i7 : Bool) (σ : Store) : Pur Pr F.corralref1_Encode [.agg #[.int .i64 i0, .int .i64 i1, .int .i64 i2, .int .i64 i3, .int .i64 i4, .int .u32 (BitVec.toNat i5 : Int), .bool i6, .bool i7]] σ (.tuple #[.int .u32 (BitVec.toNat ((corralref1_Encode.v i0 i1 i2 i3 i4 i5 i6 i7).1) : Int), .int .i64 ((corralref1_Encode.v i0 i1 i2 i3 i4 i5 i6 i7).2)]) := fun K hK =>
  corralref1_Encode.ok (corralref1_Encode.m_v (fun r => K (.tuple #[.int .u32 (BitVec.toNat r.1 : Int), .int .i64 r.2]) σ) i0 i1 i2 i3 i4 i5 i6 i7 (fun _ h => h) hK)

/-! ### isa_Encode -/
def isa_Encode.v9 (t31A : Option Addr) (t31N : Nat) (t31C : Nat) (t32 : Int) (t33 : Int) (i0 : Int) (i1 : Int) (i2 : Int) (i3 : Int) (i4 : Int) (i5 : BitVec 32) (i6 : Bool) (i7 : Bool) (r0 : Int) (r1 : ByteArray) (r2 : Int) (r3 : BitVec 32) (r4 : BitVec 32) (r5 : BitVec 32) (r6 : Int) : (BitVec 32 × Option (_root_.Fin 11)) ⊕ (Int × Int × Int × Int × Int × Int × Int × BitVec 32 × Bool × Bool × Int × ByteArray × Int × BitVec 32 × BitVec 32 × BitVec 32 × Int) :=
  .inr (t32, (IntKind.wrap .i64 (t33 + 1)), i0, i1, i2, i3, i4, i5, i6, i7, r0, r1, r2, r3, r4, r5, r6)
theorem isa_Encode.j9_v {K : Value → Store → Prop} {σ : Store} {E : Nat → Nat × Nat} (hE : Errs σ E) {rr5 : isa_Encode.R5} (F : ((BitVec 32 × Option (_root_.Fin 11)) ⊕ (Int × Int × Int × Int × Int × Int × Int × BitVec 32 × Bool × Bool × Int × ByteArray × Int × BitVec 32 × BitVec 32 × BitVec 32 × Int)) → Prop) (t31A : Option Addr) (t31N : Nat) (t31C : Nat) (t32 : Int) (t33 : Int) (i0 : Int) (i1 : Int) (i2 : Int) (i3 : Int) (i4 : Int) (i5 : BitVec 32) (i6 : Bool) (i7 : Bool) (r0 : Int) (r1 : ByteArray) (r2 : Int) (r3 : BitVec 32) (r4 : BitVec 32) (r5 : BitVec 32) (r6 : Int) (hk : ∀ r, F (.inl r) → K (.tuple #[.int .u32 (BitVec.toNat r.1 : Int), errO E r.2]) σ) (hrr : ∀ s, F (.inr s) → rr5 t31A t31N t31C s.1 s.2.1 s.2.2.1 s.2.2.2.1 s.2.2.2.2.1 s.2.2.2.2.2.1 s.2.2.2.2.2.2.1 (BitVec.toNat s.2.2.2.2.2.2.2.1 : Int) s.2.2.2.2.2.2.2.2.1 s.2.2.2.2.2.2.2.2.2.1 s.2.2.2.2.2.2.2.2.2.2.1 s.2.2.2.2.2.2.2.2.2.2.2.1 s.2.2.2.2.2.2.2.2.2.2.2.2.1 (BitVec.toNat s.2.2.2.2.2.2.2.2.2.2.2.2.2.1 : Int) (BitVec.toNat s.2.2.2.2.2.2.2.2.2.2.2.2.2.2.1 : Int) (BitVec.toNat s.2.2.2.2.2.2.2.2.2.2.2.2.2.2.2.1 : Int) s.2.2.2.2.2.2.2.2.2.2.2.2.2.2.2.2 σ) (hF : F (isa_Encode.v9 t31A t31N t31C t32 t33 i0 i1 i2 i3 i4 i5 i6 i7 r0 r1 r2 r3 r4 r5 r6)) : isa_Encode.j9 K rr5 t31A t31N t31C t32 t33 i0 i1 i2 i3 i4 (BitVec.toNat i5 : Int) i6 i7 r0 r1 r2 (BitVec.toNat r3 : Int) (BitVec.toNat r4 : Int) (BitVec.toNat r5 : Int) r6 σ := by
  unfold isa_Encode.j9
  unfold isa_Encode.v9 at hF
  try dsimp only at hF
  exact hopI (hrr _ hF)
def isa_Encode.v8 (t31A : Option Addr) (t31N : Nat) (t31C : Nat) (t32 : Int) (t33 : Int) (t42 : Bool) (i0 : Int) (i1 : Int) (i2 : Int) (i3 : Int) (i4 : Int) (i5 : BitVec 32) (i6 : Bool) (i7 : Bool) (r0 : Int) (r1 : ByteArray) (r2 : Int) (r3 : BitVec 32) (r4 : BitVec 32) (r5 : BitVec 32) (r6 : Int) : (BitVec 32 × Option (_root_.Fin 11)) ⊕ (Int × Int × Int × Int × Int × Int × Int × BitVec 32 × Bool × Bool × Int × ByteArray × Int × BitVec 32 × BitVec 32 × BitVec 32 × Int) :=
  bif t42 then
    .inl (0#32, (some 5))
  else
    isa_Encode.v9 t31A t31N t31C t32 t33 i0 i1 i2 i3 i4 i5 i6 i7 r0 r1 r2 r3 r4 r5 r6
theorem isa_Encode.j8_v {K : Value → Store → Prop} {σ : Store} {E : Nat → Nat × Nat} (hE : Errs σ E) {rr5 : isa_Encode.R5} (F : ((BitVec 32 × Option (_root_.Fin 11)) ⊕ (Int × Int × Int × Int × Int × Int × Int × BitVec 32 × Bool × Bool × Int × ByteArray × Int × BitVec 32 × BitVec 32 × BitVec 32 × Int)) → Prop) (t31A : Option Addr) (t31N : Nat) (t31C : Nat) (t32 : Int) (t33 : Int) (t42 : Bool) (i0 : Int) (i1 : Int) (i2 : Int) (i3 : Int) (i4 : Int) (i5 : BitVec 32) (i6 : Bool) (i7 : Bool) (r0 : Int) (r1 : ByteArray) (r2 : Int) (r3 : BitVec 32) (r4 : BitVec 32) (r5 : BitVec 32) (r6 : Int) (hk : ∀ r, F (.inl r) → K (.tuple #[.int .u32 (BitVec.toNat r.1 : Int), errO E r.2]) σ) (hrr : ∀ s, F (.inr s) → rr5 t31A t31N t31C s.1 s.2.1 s.2.2.1 s.2.2.2.1 s.2.2.2.2.1 s.2.2.2.2.2.1 s.2.2.2.2.2.2.1 (BitVec.toNat s.2.2.2.2.2.2.2.1 : Int) s.2.2.2.2.2.2.2.2.1 s.2.2.2.2.2.2.2.2.2.1 s.2.2.2.2.2.2.2.2.2.2.1 s.2.2.2.2.2.2.2.2.2.2.2.1 s.2.2.2.2.2.2.2.2.2.2.2.2.1 (BitVec.toNat s.2.2.2.2.2.2.2.2.2.2.2.2.2.1 : Int) (BitVec.toNat s.2.2.2.2.2.2.2.2.2.2.2.2.2.2.1 : Int) (BitVec.toNat s.2.2.2.2.2.2.2.2.2.2.2.2.2.2.2.1 : Int) s.2.2.2.2.2.2.2.2.2.2.2.2.2.2.2.2 σ) (hF : F (isa_Encode.v8 t31A t31N t31C t32 t33 t42 i0 i1 i2 i3 i4 i5 i6 i7 r0 r1 r2 r3 r4 r5 r6)) : isa_Encode.j8 K rr5 t31A t31N t31C t32 t33 t42 i0 i1 i2 i3 i4 (BitVec.toNat i5 : Int) i6 i7 r0 r1 r2 (BitVec.toNat r3 : Int) (BitVec.toNat r4 : Int) (BitVec.toNat r5 : Int) r6 σ := by
  unfold isa_Encode.j8
  unfold isa_Encode.v8 at hF
  try dsimp only at hF
  refine cond_v (F := F) (rfl) hF (fun h hF => ?_) (fun h hF => ?_)
  · skip
    refine ⟨_, hE.range, ?_⟩
    exact hk _ hF
  · skip
    exact hopI (isa_Encode.j9_v hE (rr5 := rr5) F t31A t31N t31C t32 t33 i0 i1 i2 i3 i4 i5 i6 i7 r0 r1 r2 r3 r4 r5 r6 hk hrr hF)
def isa_Encode.v31 (w : BitVec 32) (f7 : BitVec 32) (i0 : Int) (i1 : Int) (i2 : Int) (i3 : Int) (i4 : Int) (i5 : BitVec 32) (i6 : Bool) (i7 : Bool) (r0 : Int) (r1 : ByteArray) (r2 : Int) (r3 : BitVec 32) (r4 : BitVec 32) (r5 : BitVec 32) (r6 : Int) : BitVec 32 × Option (_root_.Fin 11) :=
  let c1 := enc_Join.v r3 (BitVec.ofInt 32 i1) r4 (BitVec.ofInt 32 i2) (BitVec.ofInt 32 i3) f7
  (((w ||| ((BitVec.ofInt 32 i4) <<< 20)) ||| c1), none)
theorem isa_Encode.j31_v {K : Value → Store → Prop} {σ : Store} {E : Nat → Nat × Nat} (hE : Errs σ E) (F : (BitVec 32 × Option (_root_.Fin 11)) → Prop) (w : BitVec 32) (f7 : BitVec 32) (i0 : Int) (i1 : Int) (i2 : Int) (i3 : Int) (i4 : Int) (i5 : BitVec 32) (i6 : Bool) (i7 : Bool) (r0 : Int) (r1 : ByteArray) (r2 : Int) (r3 : BitVec 32) (r4 : BitVec 32) (r5 : BitVec 32) (r6 : Int) (hk : ∀ r, F r → K (.tuple #[.int .u32 (BitVec.toNat r.1 : Int), errO E r.2]) σ) (hF : F (isa_Encode.v31 w f7 i0 i1 i2 i3 i4 i5 i6 i7 r0 r1 r2 r3 r4 r5 r6)) : isa_Encode.j31 K (BitVec.toNat w : Int) (BitVec.toNat f7 : Int) i0 i1 i2 i3 i4 (BitVec.toNat i5 : Int) i6 i7 r0 r1 r2 (BitVec.toNat r3 : Int) (BitVec.toNat r4 : Int) (BitVec.toNat r5 : Int) r6 σ := by
  unfold isa_Encode.j31
  unfold isa_Encode.v31 at hF
  try dsimp only at hF
  refine Pur.use (enc_Join.pur r3 (BitVec.ofInt 32 i1) r4 (BitVec.ofInt 32 i2) (BitVec.ofInt 32 i3) f7 σ) (by simp only [wrap_u32, ofInt_toNat, ofInt_toNat', ofInt_toInt, BitVec.setWidth_eq, lit_u, BitVec.reduceOfInt, BitVec.reduceToNat, Nat.reducePow, Nat.reduceMod, Int.cast_ofNat_Int, Int.natCast_zero, Int.natCast_one, Int.reduceLT, Int.reduceLE, Int.reducePow, and_self, Int.zero_sub, BitVec.zero_sub, errO]) ⟨_, rfl, ?_⟩
  exact Eq.mp (by simp only [or_u32, shl_u32, Int.toNat_natCast, Int.reduceToNat, wrap_u32, ofInt_toNat, ofInt_toNat', ofInt_toInt, BitVec.setWidth_eq, lit_u, BitVec.reduceOfInt, BitVec.reduceToNat, Nat.reducePow, Nat.reduceMod, Int.cast_ofNat_Int, Int.natCast_zero, Int.natCast_one, Int.reduceLT, Int.reduceLE, Int.reducePow, and_self, Int.zero_sub, BitVec.zero_sub, errO]) (hk _ hF)
def isa_Encode.v29 (w : BitVec 32) (f7 : BitVec 32) (i0 : Int) (i1 : Int) (i2 : Int) (i3 : Int) (i4 : Int) (i5 : BitVec 32) (i6 : Bool) (i7 : Bool) (r0 : Int) (r1 : ByteArray) (r2 : Int) (r3 : BitVec 32) (r4 : BitVec 32) (r5 : BitVec 32) (r6 : Int) : BitVec 32 × Option (_root_.Fin 11) :=
  bif i7 then
    isa_Encode.v31 w (f7 ||| 1#32) i0 i1 i2 i3 i4 i5 i6 i7 r0 r1 r2 r3 r4 r5 r6
  else
    isa_Encode.v31 w f7 i0 i1 i2 i3 i4 i5 i6 i7 r0 r1 r2 r3 r4 r5 r6
theorem isa_Encode.j29_v {K : Value → Store → Prop} {σ : Store} {E : Nat → Nat × Nat} (hE : Errs σ E) (F : (BitVec 32 × Option (_root_.Fin 11)) → Prop) (w : BitVec 32) (f7 : BitVec 32) (i0 : Int) (i1 : Int) (i2 : Int) (i3 : Int) (i4 : Int) (i5 : BitVec 32) (i6 : Bool) (i7 : Bool) (r0 : Int) (r1 : ByteArray) (r2 : Int) (r3 : BitVec 32) (r4 : BitVec 32) (r5 : BitVec 32) (r6 : Int) (hk : ∀ r, F r → K (.tuple #[.int .u32 (BitVec.toNat r.1 : Int), errO E r.2]) σ) (hF : F (isa_Encode.v29 w f7 i0 i1 i2 i3 i4 i5 i6 i7 r0 r1 r2 r3 r4 r5 r6)) : isa_Encode.j29 K (BitVec.toNat w : Int) (BitVec.toNat f7 : Int) i0 i1 i2 i3 i4 (BitVec.toNat i5 : Int) i6 i7 r0 r1 r2 (BitVec.toNat r3 : Int) (BitVec.toNat r4 : Int) (BitVec.toNat r5 : Int) r6 σ := by
  unfold isa_Encode.j29
  unfold isa_Encode.v29 at hF
  try dsimp only at hF
  refine cond_v (F := F) (rfl) hF (fun h hF => ?_) (fun h hF => ?_)
  · skip
    exact hopI (Eq.mp (by simp only [or_u32, ofInt_toNat, ofInt_toNat', ofInt_toInt, BitVec.setWidth_eq, lit_u, BitVec.reduceOfInt, BitVec.reduceToNat, Nat.reducePow, Nat.reduceMod, Int.cast_ofNat_Int, Int.natCast_zero, Int.natCast_one, Int.reduceLT, Int.reduceLE, Int.reducePow, and_self, Int.zero_sub, BitVec.zero_sub, errO]) (isa_Encode.j31_v hE F w (f7 ||| 1#32) i0 i1 i2 i3 i4 i5 i6 i7 r0 r1 r2 r3 r4 r5 r6 hk hF))
  · skip
    exact hopI (isa_Encode.j31_v hE F w f7 i0 i1 i2 i3 i4 i5 i6 i7 r0 r1 r2 r3 r4 r5 r6 hk hF)
def isa_Encode.v22 (w : BitVec 32) (a : Bool) (i0 : Int) (i1 : Int) (i2 : Int) (i3 : Int) (i4 : Int) (i5 : BitVec 32) (i6 : Bool) (i7 : Bool) (r0 : Int) (r1 : ByteArray) (r2 : Int) (r3 : BitVec 32) (r4 : BitVec 32) (r5 : BitVec 32) (r6 : Int) : BitVec 32 × Option (_root_.Fin 11) :=
  bif (r2 == 8) then
    (r3, none)
  else
    bif a then
      bif i6 then
        isa_Encode.v29 w ((r5 <<< 2) ||| 2#32) i0 i1 i2 i3 i4 i5 i6 i7 r0 r1 r2 r3 r4 r5 r6
      else
        isa_Encode.v29 w (r5 <<< 2) i0 i1 i2 i3 i4 i5 i6 i7 r0 r1 r2 r3 r4 r5 r6
    else
      isa_Encode.v31 w r5 i0 i1 i2 i3 i4 i5 i6 i7 r0 r1 r2 r3 r4 r5 r6
theorem isa_Encode.j22_v {K : Value → Store → Prop} {σ : Store} {E : Nat → Nat × Nat} (hE : Errs σ E) (F : (BitVec 32 × Option (_root_.Fin 11)) → Prop) (w : BitVec 32) (a : Bool) (i0 : Int) (i1 : Int) (i2 : Int) (i3 : Int) (i4 : Int) (i5 : BitVec 32) (i6 : Bool) (i7 : Bool) (r0 : Int) (r1 : ByteArray) (r2 : Int) (r3 : BitVec 32) (r4 : BitVec 32) (r5 : BitVec 32) (r6 : Int) (hk : ∀ r, F r → K (.tuple #[.int .u32 (BitVec.toNat r.1 : Int), errO E r.2]) σ) (hF : F (isa_Encode.v22 w a i0 i1 i2 i3 i4 i5 i6 i7 r0 r1 r2 r3 r4 r5 r6)) : isa_Encode.j22 K (BitVec.toNat w : Int) a i0 i1 i2 i3 i4 (BitVec.toNat i5 : Int) i6 i7 r0 r1 r2 (BitVec.toNat r3 : Int) (BitVec.toNat r4 : Int) (BitVec.toNat r5 : Int) r6 σ := by
  unfold isa_Encode.j22
  unfold isa_Encode.v22 at hF
  try dsimp only at hF
  refine cond_v (F := F) (rfl) hF (fun h hF => ?_) (fun h hF => ?_)
  · skip
    exact hk _ hF
  · skip
    refine cond_v (F := F) (rfl) hF (fun h hF => ?_) (fun h hF => ?_)
    · skip
      refine cond_v (F := F) (rfl) hF (fun h hF => ?_) (fun h hF => ?_)
      · skip
        exact hopI (Eq.mp (by simp only [or_u32, shl_u32, Int.toNat_natCast, Int.reduceToNat, ofInt_toNat, ofInt_toNat', ofInt_toInt, BitVec.setWidth_eq, lit_u, BitVec.reduceOfInt, BitVec.reduceToNat, Nat.reducePow, Nat.reduceMod, Int.cast_ofNat_Int, Int.natCast_zero, Int.natCast_one, Int.reduceLT, Int.reduceLE, Int.reducePow, and_self, Int.zero_sub, BitVec.zero_sub, errO]) (isa_Encode.j29_v hE F w ((r5 <<< 2) ||| 2#32) i0 i1 i2 i3 i4 i5 i6 i7 r0 r1 r2 r3 r4 r5 r6 hk hF))
      · skip
        exact hopI (Eq.mp (by simp only [shl_u32, Int.toNat_natCast, Int.reduceToNat, ofInt_toNat, ofInt_toNat', ofInt_toInt, BitVec.setWidth_eq, lit_u, BitVec.reduceOfInt, BitVec.reduceToNat, Nat.reducePow, Nat.reduceMod, Int.cast_ofNat_Int, Int.natCast_zero, Int.natCast_one, Int.reduceLT, Int.reduceLE, Int.reducePow, and_self, Int.zero_sub, BitVec.zero_sub, errO]) (isa_Encode.j29_v hE F w (r5 <<< 2) i0 i1 i2 i3 i4 i5 i6 i7 r0 r1 r2 r3 r4 r5 r6 hk hF))
    · skip
      exact hopI (isa_Encode.j31_v hE F w r5 i0 i1 i2 i3 i4 i5 i6 i7 r0 r1 r2 r3 r4 r5 r6 hk hF)
def isa_Encode.v21 (w : BitVec 32) (a : Bool) (t142 : Bool) (i0 : Int) (i1 : Int) (i2 : Int) (i3 : Int) (i4 : Int) (i5 : BitVec 32) (i6 : Bool) (i7 : Bool) (r0 : Int) (r1 : ByteArray) (r2 : Int) (r3 : BitVec 32) (r4 : BitVec 32) (r5 : BitVec 32) (r6 : Int) : BitVec 32 × Option (_root_.Fin 11) :=
  bif t142 then
    (0#32, (some 3))
  else
    isa_Encode.v22 w a i0 i1 i2 i3 i4 i5 i6 i7 r0 r1 r2 r3 r4 r5 r6
theorem isa_Encode.j21_v {K : Value → Store → Prop} {σ : Store} {E : Nat → Nat × Nat} (hE : Errs σ E) (F : (BitVec 32 × Option (_root_.Fin 11)) → Prop) (w : BitVec 32) (a : Bool) (t142 : Bool) (i0 : Int) (i1 : Int) (i2 : Int) (i3 : Int) (i4 : Int) (i5 : BitVec 32) (i6 : Bool) (i7 : Bool) (r0 : Int) (r1 : ByteArray) (r2 : Int) (r3 : BitVec 32) (r4 : BitVec 32) (r5 : BitVec 32) (r6 : Int) (hk : ∀ r, F r → K (.tuple #[.int .u32 (BitVec.toNat r.1 : Int), errO E r.2]) σ) (hF : F (isa_Encode.v21 w a t142 i0 i1 i2 i3 i4 i5 i6 i7 r0 r1 r2 r3 r4 r5 r6)) : isa_Encode.j21 K (BitVec.toNat w : Int) a t142 i0 i1 i2 i3 i4 (BitVec.toNat i5 : Int) i6 i7 r0 r1 r2 (BitVec.toNat r3 : Int) (BitVec.toNat r4 : Int) (BitVec.toNat r5 : Int) r6 σ := by
  unfold isa_Encode.j21
  unfold isa_Encode.v21 at hF
  try dsimp only at hF
  refine cond_v (F := F) (rfl) hF (fun h hF => ?_) (fun h hF => ?_)
  · skip
    refine ⟨_, hE.shape, ?_⟩
    exact hk _ hF
  · skip
    exact hopI (isa_Encode.j22_v hE F w a i0 i1 i2 i3 i4 i5 i6 i7 r0 r1 r2 r3 r4 r5 r6 hk hF)
def isa_Encode.v20 (rd : Bool) (rs1 : Bool) (rs2 : Bool) (imm : Bool) (w : BitVec 32) (c : Bool) (a : Bool) (i0 : Int) (i1 : Int) (i2 : Int) (i3 : Int) (i4 : Int) (i5 : BitVec 32) (i6 : Bool) (i7 : Bool) (r0 : Int) (r1 : ByteArray) (r2 : Int) (r3 : BitVec 32) (r4 : BitVec 32) (r5 : BitVec 32) (r6 : Int) : BitVec 32 × Option (_root_.Fin 11) :=
  bif (!rd) then
    bif (i1 != 0) then
      isa_Encode.v21 w a true i0 i1 i2 i3 i4 i5 i6 i7 r0 r1 r2 r3 r4 r5 r6
    else
      bif (!rs1) then
        bif (i2 != 0) then
          isa_Encode.v21 w a true i0 i1 i2 i3 i4 i5 i6 i7 r0 r1 r2 r3 r4 r5 r6
        else
          bif (!rs2) then
            bif (i3 != 0) then
              isa_Encode.v21 w a true i0 i1 i2 i3 i4 i5 i6 i7 r0 r1 r2 r3 r4 r5 r6
            else
              bif (!imm) then
                bif (i5 != 0#32) then
                  isa_Encode.v21 w a true i0 i1 i2 i3 i4 i5 i6 i7 r0 r1 r2 r3 r4 r5 r6
                else
                  bif (!c) then
                    bif (i4 != 0) then
                      isa_Encode.v21 w a true i0 i1 i2 i3 i4 i5 i6 i7 r0 r1 r2 r3 r4 r5 r6
                    else
                      bif (!a) then
                        bif i6 then
                          isa_Encode.v21 w a true i0 i1 i2 i3 i4 i5 i6 i7 r0 r1 r2 r3 r4 r5 r6
                        else
                          isa_Encode.v21 w a i7 i0 i1 i2 i3 i4 i5 i6 i7 r0 r1 r2 r3 r4 r5 r6
                      else
                        isa_Encode.v21 w a false i0 i1 i2 i3 i4 i5 i6 i7 r0 r1 r2 r3 r4 r5 r6
                  else
                    bif (!a) then
                      bif i6 then
                        isa_Encode.v21 w a true i0 i1 i2 i3 i4 i5 i6 i7 r0 r1 r2 r3 r4 r5 r6
                      else
                        isa_Encode.v21 w a i7 i0 i1 i2 i3 i4 i5 i6 i7 r0 r1 r2 r3 r4 r5 r6
                    else
                      isa_Encode.v21 w a false i0 i1 i2 i3 i4 i5 i6 i7 r0 r1 r2 r3 r4 r5 r6
              else
                bif (!c) then
                  bif (i4 != 0) then
                    isa_Encode.v21 w a true i0 i1 i2 i3 i4 i5 i6 i7 r0 r1 r2 r3 r4 r5 r6
                  else
                    bif (!a) then
                      bif i6 then
                        isa_Encode.v21 w a true i0 i1 i2 i3 i4 i5 i6 i7 r0 r1 r2 r3 r4 r5 r6
                      else
                        isa_Encode.v21 w a i7 i0 i1 i2 i3 i4 i5 i6 i7 r0 r1 r2 r3 r4 r5 r6
                    else
                      isa_Encode.v21 w a false i0 i1 i2 i3 i4 i5 i6 i7 r0 r1 r2 r3 r4 r5 r6
                else
                  bif (!a) then
                    bif i6 then
                      isa_Encode.v21 w a true i0 i1 i2 i3 i4 i5 i6 i7 r0 r1 r2 r3 r4 r5 r6
                    else
                      isa_Encode.v21 w a i7 i0 i1 i2 i3 i4 i5 i6 i7 r0 r1 r2 r3 r4 r5 r6
                  else
                    isa_Encode.v21 w a false i0 i1 i2 i3 i4 i5 i6 i7 r0 r1 r2 r3 r4 r5 r6
          else
            bif (!imm) then
              bif (i5 != 0#32) then
                isa_Encode.v21 w a true i0 i1 i2 i3 i4 i5 i6 i7 r0 r1 r2 r3 r4 r5 r6
              else
                bif (!c) then
                  bif (i4 != 0) then
                    isa_Encode.v21 w a true i0 i1 i2 i3 i4 i5 i6 i7 r0 r1 r2 r3 r4 r5 r6
                  else
                    bif (!a) then
                      bif i6 then
                        isa_Encode.v21 w a true i0 i1 i2 i3 i4 i5 i6 i7 r0 r1 r2 r3 r4 r5 r6
                      else
                        isa_Encode.v21 w a i7 i0 i1 i2 i3 i4 i5 i6 i7 r0 r1 r2 r3 r4 r5 r6
                    else
                      isa_Encode.v21 w a false i0 i1 i2 i3 i4 i5 i6 i7 r0 r1 r2 r3 r4 r5 r6
                else
                  bif (!a) then
                    bif i6 then
                      isa_Encode.v21 w a true i0 i1 i2 i3 i4 i5 i6 i7 r0 r1 r2 r3 r4 r5 r6
                    else
                      isa_Encode.v21 w a i7 i0 i1 i2 i3 i4 i5 i6 i7 r0 r1 r2 r3 r4 r5 r6
                  else
                    isa_Encode.v21 w a false i0 i1 i2 i3 i4 i5 i6 i7 r0 r1 r2 r3 r4 r5 r6
            else
              bif (!c) then
                bif (i4 != 0) then
                  isa_Encode.v21 w a true i0 i1 i2 i3 i4 i5 i6 i7 r0 r1 r2 r3 r4 r5 r6
                else
                  bif (!a) then
                    bif i6 then
                      isa_Encode.v21 w a true i0 i1 i2 i3 i4 i5 i6 i7 r0 r1 r2 r3 r4 r5 r6
                    else
                      isa_Encode.v21 w a i7 i0 i1 i2 i3 i4 i5 i6 i7 r0 r1 r2 r3 r4 r5 r6
                  else
                    isa_Encode.v21 w a false i0 i1 i2 i3 i4 i5 i6 i7 r0 r1 r2 r3 r4 r5 r6
              else
                bif (!a) then
                  bif i6 then
                    isa_Encode.v21 w a true i0 i1 i2 i3 i4 i5 i6 i7 r0 r1 r2 r3 r4 r5 r6
                  else
                    isa_Encode.v21 w a i7 i0 i1 i2 i3 i4 i5 i6 i7 r0 r1 r2 r3 r4 r5 r6
                else
                  isa_Encode.v21 w a false i0 i1 i2 i3 i4 i5 i6 i7 r0 r1 r2 r3 r4 r5 r6
      else
        bif (!rs2) then
          bif (i3 != 0) then
            isa_Encode.v21 w a true i0 i1 i2 i3 i4 i5 i6 i7 r0 r1 r2 r3 r4 r5 r6
          else
            bif (!imm) then
              bif (i5 != 0#32) then
                isa_Encode.v21 w a true i0 i1 i2 i3 i4 i5 i6 i7 r0 r1 r2 r3 r4 r5 r6
              else
                bif (!c) then
                  bif (i4 != 0) then
                    isa_Encode.v21 w a true i0 i1 i2 i3 i4 i5 i6 i7 r0 r1 r2 r3 r4 r5 r6
                  else
                    bif (!a) then
                      bif i6 then
                        isa_Encode.v21 w a true i0 i1 i2 i3 i4 i5 i6 i7 r0 r1 r2 r3 r4 r5 r6
                      else
                        isa_Encode.v21 w a i7 i0 i1 i2 i3 i4 i5 i6 i7 r0 r1 r2 r3 r4 r5 r6
                    else
                      isa_Encode.v21 w a false i0 i1 i2 i3 i4 i5 i6 i7 r0 r1 r2 r3 r4 r5 r6
                else
                  bif (!a) then
                    bif i6 then
                      isa_Encode.v21 w a true i0 i1 i2 i3 i4 i5 i6 i7 r0 r1 r2 r3 r4 r5 r6
                    else
                      isa_Encode.v21 w a i7 i0 i1 i2 i3 i4 i5 i6 i7 r0 r1 r2 r3 r4 r5 r6
                  else
                    isa_Encode.v21 w a false i0 i1 i2 i3 i4 i5 i6 i7 r0 r1 r2 r3 r4 r5 r6
            else
              bif (!c) then
                bif (i4 != 0) then
                  isa_Encode.v21 w a true i0 i1 i2 i3 i4 i5 i6 i7 r0 r1 r2 r3 r4 r5 r6
                else
                  bif (!a) then
                    bif i6 then
                      isa_Encode.v21 w a true i0 i1 i2 i3 i4 i5 i6 i7 r0 r1 r2 r3 r4 r5 r6
                    else
                      isa_Encode.v21 w a i7 i0 i1 i2 i3 i4 i5 i6 i7 r0 r1 r2 r3 r4 r5 r6
                  else
                    isa_Encode.v21 w a false i0 i1 i2 i3 i4 i5 i6 i7 r0 r1 r2 r3 r4 r5 r6
              else
                bif (!a) then
                  bif i6 then
                    isa_Encode.v21 w a true i0 i1 i2 i3 i4 i5 i6 i7 r0 r1 r2 r3 r4 r5 r6
                  else
                    isa_Encode.v21 w a i7 i0 i1 i2 i3 i4 i5 i6 i7 r0 r1 r2 r3 r4 r5 r6
                else
                  isa_Encode.v21 w a false i0 i1 i2 i3 i4 i5 i6 i7 r0 r1 r2 r3 r4 r5 r6
        else
          bif (!imm) then
            bif (i5 != 0#32) then
              isa_Encode.v21 w a true i0 i1 i2 i3 i4 i5 i6 i7 r0 r1 r2 r3 r4 r5 r6
            else
              bif (!c) then
                bif (i4 != 0) then
                  isa_Encode.v21 w a true i0 i1 i2 i3 i4 i5 i6 i7 r0 r1 r2 r3 r4 r5 r6
                else
                  bif (!a) then
                    bif i6 then
                      isa_Encode.v21 w a true i0 i1 i2 i3 i4 i5 i6 i7 r0 r1 r2 r3 r4 r5 r6
                    else
                      isa_Encode.v21 w a i7 i0 i1 i2 i3 i4 i5 i6 i7 r0 r1 r2 r3 r4 r5 r6
                  else
                    isa_Encode.v21 w a false i0 i1 i2 i3 i4 i5 i6 i7 r0 r1 r2 r3 r4 r5 r6
              else
                bif (!a) then
                  bif i6 then
                    isa_Encode.v21 w a true i0 i1 i2 i3 i4 i5 i6 i7 r0 r1 r2 r3 r4 r5 r6
                  else
                    isa_Encode.v21 w a i7 i0 i1 i2 i3 i4 i5 i6 i7 r0 r1 r2 r3 r4 r5 r6
                else
                  isa_Encode.v21 w a false i0 i1 i2 i3 i4 i5 i6 i7 r0 r1 r2 r3 r4 r5 r6
          else
            bif (!c) then
              bif (i4 != 0) then
                isa_Encode.v21 w a true i0 i1 i2 i3 i4 i5 i6 i7 r0 r1 r2 r3 r4 r5 r6
              else
                bif (!a) then
                  bif i6 then
                    isa_Encode.v21 w a true i0 i1 i2 i3 i4 i5 i6 i7 r0 r1 r2 r3 r4 r5 r6
                  else
                    isa_Encode.v21 w a i7 i0 i1 i2 i3 i4 i5 i6 i7 r0 r1 r2 r3 r4 r5 r6
                else
                  isa_Encode.v21 w a false i0 i1 i2 i3 i4 i5 i6 i7 r0 r1 r2 r3 r4 r5 r6
            else
              bif (!a) then
                bif i6 then
                  isa_Encode.v21 w a true i0 i1 i2 i3 i4 i5 i6 i7 r0 r1 r2 r3 r4 r5 r6
                else
                  isa_Encode.v21 w a i7 i0 i1 i2 i3 i4 i5 i6 i7 r0 r1 r2 r3 r4 r5 r6
              else
                isa_Encode.v21 w a false i0 i1 i2 i3 i4 i5 i6 i7 r0 r1 r2 r3 r4 r5 r6
  else
    bif (!rs1) then
      bif (i2 != 0) then
        isa_Encode.v21 w a true i0 i1 i2 i3 i4 i5 i6 i7 r0 r1 r2 r3 r4 r5 r6
      else
        bif (!rs2) then
          bif (i3 != 0) then
            isa_Encode.v21 w a true i0 i1 i2 i3 i4 i5 i6 i7 r0 r1 r2 r3 r4 r5 r6
          else
            bif (!imm) then
              bif (i5 != 0#32) then
                isa_Encode.v21 w a true i0 i1 i2 i3 i4 i5 i6 i7 r0 r1 r2 r3 r4 r5 r6
              else
                bif (!c) then
                  bif (i4 != 0) then
                    isa_Encode.v21 w a true i0 i1 i2 i3 i4 i5 i6 i7 r0 r1 r2 r3 r4 r5 r6
                  else
                    bif (!a) then
                      bif i6 then
                        isa_Encode.v21 w a true i0 i1 i2 i3 i4 i5 i6 i7 r0 r1 r2 r3 r4 r5 r6
                      else
                        isa_Encode.v21 w a i7 i0 i1 i2 i3 i4 i5 i6 i7 r0 r1 r2 r3 r4 r5 r6
                    else
                      isa_Encode.v21 w a false i0 i1 i2 i3 i4 i5 i6 i7 r0 r1 r2 r3 r4 r5 r6
                else
                  bif (!a) then
                    bif i6 then
                      isa_Encode.v21 w a true i0 i1 i2 i3 i4 i5 i6 i7 r0 r1 r2 r3 r4 r5 r6
                    else
                      isa_Encode.v21 w a i7 i0 i1 i2 i3 i4 i5 i6 i7 r0 r1 r2 r3 r4 r5 r6
                  else
                    isa_Encode.v21 w a false i0 i1 i2 i3 i4 i5 i6 i7 r0 r1 r2 r3 r4 r5 r6
            else
              bif (!c) then
                bif (i4 != 0) then
                  isa_Encode.v21 w a true i0 i1 i2 i3 i4 i5 i6 i7 r0 r1 r2 r3 r4 r5 r6
                else
                  bif (!a) then
                    bif i6 then
                      isa_Encode.v21 w a true i0 i1 i2 i3 i4 i5 i6 i7 r0 r1 r2 r3 r4 r5 r6
                    else
                      isa_Encode.v21 w a i7 i0 i1 i2 i3 i4 i5 i6 i7 r0 r1 r2 r3 r4 r5 r6
                  else
                    isa_Encode.v21 w a false i0 i1 i2 i3 i4 i5 i6 i7 r0 r1 r2 r3 r4 r5 r6
              else
                bif (!a) then
                  bif i6 then
                    isa_Encode.v21 w a true i0 i1 i2 i3 i4 i5 i6 i7 r0 r1 r2 r3 r4 r5 r6
                  else
                    isa_Encode.v21 w a i7 i0 i1 i2 i3 i4 i5 i6 i7 r0 r1 r2 r3 r4 r5 r6
                else
                  isa_Encode.v21 w a false i0 i1 i2 i3 i4 i5 i6 i7 r0 r1 r2 r3 r4 r5 r6
        else
          bif (!imm) then
            bif (i5 != 0#32) then
              isa_Encode.v21 w a true i0 i1 i2 i3 i4 i5 i6 i7 r0 r1 r2 r3 r4 r5 r6
            else
              bif (!c) then
                bif (i4 != 0) then
                  isa_Encode.v21 w a true i0 i1 i2 i3 i4 i5 i6 i7 r0 r1 r2 r3 r4 r5 r6
                else
                  bif (!a) then
                    bif i6 then
                      isa_Encode.v21 w a true i0 i1 i2 i3 i4 i5 i6 i7 r0 r1 r2 r3 r4 r5 r6
                    else
                      isa_Encode.v21 w a i7 i0 i1 i2 i3 i4 i5 i6 i7 r0 r1 r2 r3 r4 r5 r6
                  else
                    isa_Encode.v21 w a false i0 i1 i2 i3 i4 i5 i6 i7 r0 r1 r2 r3 r4 r5 r6
              else
                bif (!a) then
                  bif i6 then
                    isa_Encode.v21 w a true i0 i1 i2 i3 i4 i5 i6 i7 r0 r1 r2 r3 r4 r5 r6
                  else
                    isa_Encode.v21 w a i7 i0 i1 i2 i3 i4 i5 i6 i7 r0 r1 r2 r3 r4 r5 r6
                else
                  isa_Encode.v21 w a false i0 i1 i2 i3 i4 i5 i6 i7 r0 r1 r2 r3 r4 r5 r6
          else
            bif (!c) then
              bif (i4 != 0) then
                isa_Encode.v21 w a true i0 i1 i2 i3 i4 i5 i6 i7 r0 r1 r2 r3 r4 r5 r6
              else
                bif (!a) then
                  bif i6 then
                    isa_Encode.v21 w a true i0 i1 i2 i3 i4 i5 i6 i7 r0 r1 r2 r3 r4 r5 r6
                  else
                    isa_Encode.v21 w a i7 i0 i1 i2 i3 i4 i5 i6 i7 r0 r1 r2 r3 r4 r5 r6
                else
                  isa_Encode.v21 w a false i0 i1 i2 i3 i4 i5 i6 i7 r0 r1 r2 r3 r4 r5 r6
            else
              bif (!a) then
                bif i6 then
                  isa_Encode.v21 w a true i0 i1 i2 i3 i4 i5 i6 i7 r0 r1 r2 r3 r4 r5 r6
                else
                  isa_Encode.v21 w a i7 i0 i1 i2 i3 i4 i5 i6 i7 r0 r1 r2 r3 r4 r5 r6
              else
                isa_Encode.v21 w a false i0 i1 i2 i3 i4 i5 i6 i7 r0 r1 r2 r3 r4 r5 r6
    else
      bif (!rs2) then
        bif (i3 != 0) then
          isa_Encode.v21 w a true i0 i1 i2 i3 i4 i5 i6 i7 r0 r1 r2 r3 r4 r5 r6
        else
          bif (!imm) then
            bif (i5 != 0#32) then
              isa_Encode.v21 w a true i0 i1 i2 i3 i4 i5 i6 i7 r0 r1 r2 r3 r4 r5 r6
            else
              bif (!c) then
                bif (i4 != 0) then
                  isa_Encode.v21 w a true i0 i1 i2 i3 i4 i5 i6 i7 r0 r1 r2 r3 r4 r5 r6
                else
                  bif (!a) then
                    bif i6 then
                      isa_Encode.v21 w a true i0 i1 i2 i3 i4 i5 i6 i7 r0 r1 r2 r3 r4 r5 r6
                    else
                      isa_Encode.v21 w a i7 i0 i1 i2 i3 i4 i5 i6 i7 r0 r1 r2 r3 r4 r5 r6
                  else
                    isa_Encode.v21 w a false i0 i1 i2 i3 i4 i5 i6 i7 r0 r1 r2 r3 r4 r5 r6
              else
                bif (!a) then
                  bif i6 then
                    isa_Encode.v21 w a true i0 i1 i2 i3 i4 i5 i6 i7 r0 r1 r2 r3 r4 r5 r6
                  else
                    isa_Encode.v21 w a i7 i0 i1 i2 i3 i4 i5 i6 i7 r0 r1 r2 r3 r4 r5 r6
                else
                  isa_Encode.v21 w a false i0 i1 i2 i3 i4 i5 i6 i7 r0 r1 r2 r3 r4 r5 r6
          else
            bif (!c) then
              bif (i4 != 0) then
                isa_Encode.v21 w a true i0 i1 i2 i3 i4 i5 i6 i7 r0 r1 r2 r3 r4 r5 r6
              else
                bif (!a) then
                  bif i6 then
                    isa_Encode.v21 w a true i0 i1 i2 i3 i4 i5 i6 i7 r0 r1 r2 r3 r4 r5 r6
                  else
                    isa_Encode.v21 w a i7 i0 i1 i2 i3 i4 i5 i6 i7 r0 r1 r2 r3 r4 r5 r6
                else
                  isa_Encode.v21 w a false i0 i1 i2 i3 i4 i5 i6 i7 r0 r1 r2 r3 r4 r5 r6
            else
              bif (!a) then
                bif i6 then
                  isa_Encode.v21 w a true i0 i1 i2 i3 i4 i5 i6 i7 r0 r1 r2 r3 r4 r5 r6
                else
                  isa_Encode.v21 w a i7 i0 i1 i2 i3 i4 i5 i6 i7 r0 r1 r2 r3 r4 r5 r6
              else
                isa_Encode.v21 w a false i0 i1 i2 i3 i4 i5 i6 i7 r0 r1 r2 r3 r4 r5 r6
      else
        bif (!imm) then
          bif (i5 != 0#32) then
            isa_Encode.v21 w a true i0 i1 i2 i3 i4 i5 i6 i7 r0 r1 r2 r3 r4 r5 r6
          else
            bif (!c) then
              bif (i4 != 0) then
                isa_Encode.v21 w a true i0 i1 i2 i3 i4 i5 i6 i7 r0 r1 r2 r3 r4 r5 r6
              else
                bif (!a) then
                  bif i6 then
                    isa_Encode.v21 w a true i0 i1 i2 i3 i4 i5 i6 i7 r0 r1 r2 r3 r4 r5 r6
                  else
                    isa_Encode.v21 w a i7 i0 i1 i2 i3 i4 i5 i6 i7 r0 r1 r2 r3 r4 r5 r6
                else
                  isa_Encode.v21 w a false i0 i1 i2 i3 i4 i5 i6 i7 r0 r1 r2 r3 r4 r5 r6
            else
              bif (!a) then
                bif i6 then
                  isa_Encode.v21 w a true i0 i1 i2 i3 i4 i5 i6 i7 r0 r1 r2 r3 r4 r5 r6
                else
                  isa_Encode.v21 w a i7 i0 i1 i2 i3 i4 i5 i6 i7 r0 r1 r2 r3 r4 r5 r6
              else
                isa_Encode.v21 w a false i0 i1 i2 i3 i4 i5 i6 i7 r0 r1 r2 r3 r4 r5 r6
        else
          bif (!c) then
            bif (i4 != 0) then
              isa_Encode.v21 w a true i0 i1 i2 i3 i4 i5 i6 i7 r0 r1 r2 r3 r4 r5 r6
            else
              bif (!a) then
                bif i6 then
                  isa_Encode.v21 w a true i0 i1 i2 i3 i4 i5 i6 i7 r0 r1 r2 r3 r4 r5 r6
                else
                  isa_Encode.v21 w a i7 i0 i1 i2 i3 i4 i5 i6 i7 r0 r1 r2 r3 r4 r5 r6
              else
                isa_Encode.v21 w a false i0 i1 i2 i3 i4 i5 i6 i7 r0 r1 r2 r3 r4 r5 r6
          else
            bif (!a) then
              bif i6 then
                isa_Encode.v21 w a true i0 i1 i2 i3 i4 i5 i6 i7 r0 r1 r2 r3 r4 r5 r6
              else
                isa_Encode.v21 w a i7 i0 i1 i2 i3 i4 i5 i6 i7 r0 r1 r2 r3 r4 r5 r6
            else
              isa_Encode.v21 w a false i0 i1 i2 i3 i4 i5 i6 i7 r0 r1 r2 r3 r4 r5 r6
theorem isa_Encode.j20_v {K : Value → Store → Prop} {σ : Store} {E : Nat → Nat × Nat} (hE : Errs σ E) (F : (BitVec 32 × Option (_root_.Fin 11)) → Prop) (rd : Bool) (rs1 : Bool) (rs2 : Bool) (imm : Bool) (w : BitVec 32) (c : Bool) (a : Bool) (i0 : Int) (i1 : Int) (i2 : Int) (i3 : Int) (i4 : Int) (i5 : BitVec 32) (i6 : Bool) (i7 : Bool) (r0 : Int) (r1 : ByteArray) (r2 : Int) (r3 : BitVec 32) (r4 : BitVec 32) (r5 : BitVec 32) (r6 : Int) (hk : ∀ r, F r → K (.tuple #[.int .u32 (BitVec.toNat r.1 : Int), errO E r.2]) σ) (hF : F (isa_Encode.v20 rd rs1 rs2 imm w c a i0 i1 i2 i3 i4 i5 i6 i7 r0 r1 r2 r3 r4 r5 r6)) : isa_Encode.j20 K rd rs1 rs2 imm (BitVec.toNat w : Int) c a i0 i1 i2 i3 i4 (BitVec.toNat i5 : Int) i6 i7 r0 r1 r2 (BitVec.toNat r3 : Int) (BitVec.toNat r4 : Int) (BitVec.toNat r5 : Int) r6 σ := by
  unfold isa_Encode.j20
  unfold isa_Encode.v20 at hF
  try dsimp only at hF
  refine cond_v (F := F) (rfl) hF (fun h hF => ?_) (fun h hF => ?_)
  · skip
    refine cond_v (F := F) (rfl) hF (fun h hF => ?_) (fun h hF => ?_)
    · skip
      exact hopI (isa_Encode.j21_v hE F w a true i0 i1 i2 i3 i4 i5 i6 i7 r0 r1 r2 r3 r4 r5 r6 hk hF)
    · skip
      refine cond_v (F := F) (rfl) hF (fun h hF => ?_) (fun h hF => ?_)
      · skip
        refine cond_v (F := F) (rfl) hF (fun h hF => ?_) (fun h hF => ?_)
        · skip
          exact hopI (isa_Encode.j21_v hE F w a true i0 i1 i2 i3 i4 i5 i6 i7 r0 r1 r2 r3 r4 r5 r6 hk hF)
        · skip
          refine cond_v (F := F) (rfl) hF (fun h hF => ?_) (fun h hF => ?_)
          · skip
            refine cond_v (F := F) (rfl) hF (fun h hF => ?_) (fun h hF => ?_)
            · skip
              exact hopI (isa_Encode.j21_v hE F w a true i0 i1 i2 i3 i4 i5 i6 i7 r0 r1 r2 r3 r4 r5 r6 hk hF)
            · skip
              refine cond_v (F := F) (rfl) hF (fun h hF => ?_) (fun h hF => ?_)
              · skip
                refine cond_v (F := F) (by simp only [bne_nat, bne_lit, ofInt_toNat, ofInt_toNat', ofInt_toInt, BitVec.setWidth_eq, lit_u, BitVec.reduceOfInt, BitVec.reduceToNat, Nat.reducePow, Nat.reduceMod, Int.cast_ofNat_Int, Int.natCast_zero, Int.natCast_one, Int.reduceLT, Int.reduceLE, Int.reducePow, and_self, Int.zero_sub, BitVec.zero_sub, errO]) hF (fun h hF => ?_) (fun h hF => ?_)
                · skip
                  exact hopI (isa_Encode.j21_v hE F w a true i0 i1 i2 i3 i4 i5 i6 i7 r0 r1 r2 r3 r4 r5 r6 hk hF)
                · skip
                  refine cond_v (F := F) (rfl) hF (fun h hF => ?_) (fun h hF => ?_)
                  · skip
                    refine cond_v (F := F) (rfl) hF (fun h hF => ?_) (fun h hF => ?_)
                    · skip
                      exact hopI (isa_Encode.j21_v hE F w a true i0 i1 i2 i3 i4 i5 i6 i7 r0 r1 r2 r3 r4 r5 r6 hk hF)
                    · skip
                      refine cond_v (F := F) (rfl) hF (fun h hF => ?_) (fun h hF => ?_)
                      · skip
                        refine cond_v (F := F) (rfl) hF (fun h hF => ?_) (fun h hF => ?_)
                        · skip
                          exact hopI (isa_Encode.j21_v hE F w a true i0 i1 i2 i3 i4 i5 i6 i7 r0 r1 r2 r3 r4 r5 r6 hk hF)
                        · skip
                          exact hopI (isa_Encode.j21_v hE F w a i7 i0 i1 i2 i3 i4 i5 i6 i7 r0 r1 r2 r3 r4 r5 r6 hk hF)
                      · skip
                        exact hopI (isa_Encode.j21_v hE F w a false i0 i1 i2 i3 i4 i5 i6 i7 r0 r1 r2 r3 r4 r5 r6 hk hF)
                  · skip
                    refine cond_v (F := F) (rfl) hF (fun h hF => ?_) (fun h hF => ?_)
                    · skip
                      refine cond_v (F := F) (rfl) hF (fun h hF => ?_) (fun h hF => ?_)
                      · skip
                        exact hopI (isa_Encode.j21_v hE F w a true i0 i1 i2 i3 i4 i5 i6 i7 r0 r1 r2 r3 r4 r5 r6 hk hF)
                      · skip
                        exact hopI (isa_Encode.j21_v hE F w a i7 i0 i1 i2 i3 i4 i5 i6 i7 r0 r1 r2 r3 r4 r5 r6 hk hF)
                    · skip
                      exact hopI (isa_Encode.j21_v hE F w a false i0 i1 i2 i3 i4 i5 i6 i7 r0 r1 r2 r3 r4 r5 r6 hk hF)
              · skip
                refine cond_v (F := F) (rfl) hF (fun h hF => ?_) (fun h hF => ?_)
                · skip
                  refine cond_v (F := F) (rfl) hF (fun h hF => ?_) (fun h hF => ?_)
                  · skip
                    exact hopI (isa_Encode.j21_v hE F w a true i0 i1 i2 i3 i4 i5 i6 i7 r0 r1 r2 r3 r4 r5 r6 hk hF)
                  · skip
                    refine cond_v (F := F) (rfl) hF (fun h hF => ?_) (fun h hF => ?_)
                    · skip
                      refine cond_v (F := F) (rfl) hF (fun h hF => ?_) (fun h hF => ?_)
                      · skip
                        exact hopI (isa_Encode.j21_v hE F w a true i0 i1 i2 i3 i4 i5 i6 i7 r0 r1 r2 r3 r4 r5 r6 hk hF)
                      · skip
                        exact hopI (isa_Encode.j21_v hE F w a i7 i0 i1 i2 i3 i4 i5 i6 i7 r0 r1 r2 r3 r4 r5 r6 hk hF)
                    · skip
                      exact hopI (isa_Encode.j21_v hE F w a false i0 i1 i2 i3 i4 i5 i6 i7 r0 r1 r2 r3 r4 r5 r6 hk hF)
                · skip
                  refine cond_v (F := F) (rfl) hF (fun h hF => ?_) (fun h hF => ?_)
                  · skip
                    refine cond_v (F := F) (rfl) hF (fun h hF => ?_) (fun h hF => ?_)
                    · skip
                      exact hopI (isa_Encode.j21_v hE F w a true i0 i1 i2 i3 i4 i5 i6 i7 r0 r1 r2 r3 r4 r5 r6 hk hF)
                    · skip
                      exact hopI (isa_Encode.j21_v hE F w a i7 i0 i1 i2 i3 i4 i5 i6 i7 r0 r1 r2 r3 r4 r5 r6 hk hF)
                  · skip
                    exact hopI (isa_Encode.j21_v hE F w a false i0 i1 i2 i3 i4 i5 i6 i7 r0 r1 r2 r3 r4 r5 r6 hk hF)
          · skip
            refine cond_v (F := F) (rfl) hF (fun h hF => ?_) (fun h hF => ?_)
            · skip
              refine cond_v (F := F) (by simp only [bne_nat, bne_lit, ofInt_toNat, ofInt_toNat', ofInt_toInt, BitVec.setWidth_eq, lit_u, BitVec.reduceOfInt, BitVec.reduceToNat, Nat.reducePow, Nat.reduceMod, Int.cast_ofNat_Int, Int.natCast_zero, Int.natCast_one, Int.reduceLT, Int.reduceLE, Int.reducePow, and_self, Int.zero_sub, BitVec.zero_sub, errO]) hF (fun h hF => ?_) (fun h hF => ?_)
              · skip
                exact hopI (isa_Encode.j21_v hE F w a true i0 i1 i2 i3 i4 i5 i6 i7 r0 r1 r2 r3 r4 r5 r6 hk hF)
              · skip
                refine cond_v (F := F) (rfl) hF (fun h hF => ?_) (fun h hF => ?_)
                · skip
                  refine cond_v (F := F) (rfl) hF (fun h hF => ?_) (fun h hF => ?_)
                  · skip
                    exact hopI (isa_Encode.j21_v hE F w a true i0 i1 i2 i3 i4 i5 i6 i7 r0 r1 r2 r3 r4 r5 r6 hk hF)
                  · skip
                    refine cond_v (F := F) (rfl) hF (fun h hF => ?_) (fun h hF => ?_)
                    · skip
                      refine cond_v (F := F) (rfl) hF (fun h hF => ?_) (fun h hF => ?_)
                      · skip
                        exact hopI (isa_Encode.j21_v hE F w a true i0 i1 i2 i3 i4 i5 i6 i7 r0 r1 r2 r3 r4 r5 r6 hk hF)
                      · skip
                        exact hopI (isa_Encode.j21_v hE F w a i7 i0 i1 i2 i3 i4 i5 i6 i7 r0 r1 r2 r3 r4 r5 r6 hk hF)
                    · skip
                      exact hopI (isa_Encode.j21_v hE F w a false i0 i1 i2 i3 i4 i5 i6 i7 r0 r1 r2 r3 r4 r5 r6 hk hF)
                · skip
                  refine cond_v (F := F) (rfl) hF (fun h hF => ?_) (fun h hF => ?_)
                  · skip
                    refine cond_v (F := F) (rfl) hF (fun h hF => ?_) (fun h hF => ?_)
                    · skip
                      exact hopI (isa_Encode.j21_v hE F w a true i0 i1 i2 i3 i4 i5 i6 i7 r0 r1 r2 r3 r4 r5 r6 hk hF)
                    · skip
                      exact hopI (isa_Encode.j21_v hE F w a i7 i0 i1 i2 i3 i4 i5 i6 i7 r0 r1 r2 r3 r4 r5 r6 hk hF)
                  · skip
                    exact hopI (isa_Encode.j21_v hE F w a false i0 i1 i2 i3 i4 i5 i6 i7 r0 r1 r2 r3 r4 r5 r6 hk hF)
            · skip
              refine cond_v (F := F) (rfl) hF (fun h hF => ?_) (fun h hF => ?_)
              · skip
                refine cond_v (F := F) (rfl) hF (fun h hF => ?_) (fun h hF => ?_)
                · skip
                  exact hopI (isa_Encode.j21_v hE F w a true i0 i1 i2 i3 i4 i5 i6 i7 r0 r1 r2 r3 r4 r5 r6 hk hF)
                · skip
                  refine cond_v (F := F) (rfl) hF (fun h hF => ?_) (fun h hF => ?_)
                  · skip
                    refine cond_v (F := F) (rfl) hF (fun h hF => ?_) (fun h hF => ?_)
                    · skip
                      exact hopI (isa_Encode.j21_v hE F w a true i0 i1 i2 i3 i4 i5 i6 i7 r0 r1 r2 r3 r4 r5 r6 hk hF)
                    · skip
                      exact hopI (isa_Encode.j21_v hE F w a i7 i0 i1 i2 i3 i4 i5 i6 i7 r0 r1 r2 r3 r4 r5 r6 hk hF)
                  · skip
                    exact hopI (isa_Encode.j21_v hE F w a false i0 i1 i2 i3 i4 i5 i6 i7 r0 r1 r2 r3 r4 r5 r6 hk hF)
              · skip
                refine cond_v (F := F) (rfl) hF (fun h hF => ?_) (fun h hF => ?_)
                · skip
                  refine cond_v (F := F) (rfl) hF (fun h hF => ?_) (fun h hF => ?_)
                  · skip
                    exact hopI (isa_Encode.j21_v hE F w a true i0 i1 i2 i3 i4 i5 i6 i7 r0 r1 r2 r3 r4 r5 r6 hk hF)
                  · skip
                    exact hopI (isa_Encode.j21_v hE F w a i7 i0 i1 i2 i3 i4 i5 i6 i7 r0 r1 r2 r3 r4 r5 r6 hk hF)
                · skip
                  exact hopI (isa_Encode.j21_v hE F w a false i0 i1 i2 i3 i4 i5 i6 i7 r0 r1 r2 r3 r4 r5 r6 hk hF)
      · skip
        refine cond_v (F := F) (rfl) hF (fun h hF => ?_) (fun h hF => ?_)
        · skip
          refine cond_v (F := F) (rfl) hF (fun h hF => ?_) (fun h hF => ?_)
          · skip
            exact hopI (isa_Encode.j21_v hE F w a true i0 i1 i2 i3 i4 i5 i6 i7 r0 r1 r2 r3 r4 r5 r6 hk hF)
          · skip
            refine cond_v (F := F) (rfl) hF (fun h hF => ?_) (fun h hF => ?_)
            · skip
              refine cond_v (F := F) (by simp only [bne_nat, bne_lit, ofInt_toNat, ofInt_toNat', ofInt_toInt, BitVec.setWidth_eq, lit_u, BitVec.reduceOfInt, BitVec.reduceToNat, Nat.reducePow, Nat.reduceMod, Int.cast_ofNat_Int, Int.natCast_zero, Int.natCast_one, Int.reduceLT, Int.reduceLE, Int.reducePow, and_self, Int.zero_sub, BitVec.zero_sub, errO]) hF (fun h hF => ?_) (fun h hF => ?_)
              · skip
                exact hopI (isa_Encode.j21_v hE F w a true i0 i1 i2 i3 i4 i5 i6 i7 r0 r1 r2 r3 r4 r5 r6 hk hF)
              · skip
                refine cond_v (F := F) (rfl) hF (fun h hF => ?_) (fun h hF => ?_)
                · skip
                  refine cond_v (F := F) (rfl) hF (fun h hF => ?_) (fun h hF => ?_)
                  · skip
                    exact hopI (isa_Encode.j21_v hE F w a true i0 i1 i2 i3 i4 i5 i6 i7 r0 r1 r2 r3 r4 r5 r6 hk hF)
                  · skip
                    refine cond_v (F := F) (rfl) hF (fun h hF => ?_) (fun h hF => ?_)
                    · skip
                      refine cond_v (F := F) (rfl) hF (fun h hF => ?_) (fun h hF => ?_)
                      · skip
                        exact hopI (isa_Encode.j21_v hE F w a true i0 i1 i2 i3 i4 i5 i6 i7 r0 r1 r2 r3 r4 r5 r6 hk hF)
                      · skip
                        exact hopI (isa_Encode.j21_v hE F w a i7 i0 i1 i2 i3 i4 i5 i6 i7 r0 r1 r2 r3 r4 r5 r6 hk hF)
                    · skip
                      exact hopI (isa_Encode.j21_v hE F w a false i0 i1 i2 i3 i4 i5 i6 i7 r0 r1 r2 r3 r4 r5 r6 hk hF)
                · skip
                  refine cond_v (F := F) (rfl) hF (fun h hF => ?_) (fun h hF => ?_)
                  · skip
                    refine cond_v (F := F) (rfl) hF (fun h hF => ?_) (fun h hF => ?_)
                    · skip
                      exact hopI (isa_Encode.j21_v hE F w a true i0 i1 i2 i3 i4 i5 i6 i7 r0 r1 r2 r3 r4 r5 r6 hk hF)
                    · skip
                      exact hopI (isa_Encode.j21_v hE F w a i7 i0 i1 i2 i3 i4 i5 i6 i7 r0 r1 r2 r3 r4 r5 r6 hk hF)
                  · skip
                    exact hopI (isa_Encode.j21_v hE F w a false i0 i1 i2 i3 i4 i5 i6 i7 r0 r1 r2 r3 r4 r5 r6 hk hF)
            · skip
              refine cond_v (F := F) (rfl) hF (fun h hF => ?_) (fun h hF => ?_)
              · skip
                refine cond_v (F := F) (rfl) hF (fun h hF => ?_) (fun h hF => ?_)
                · skip
                  exact hopI (isa_Encode.j21_v hE F w a true i0 i1 i2 i3 i4 i5 i6 i7 r0 r1 r2 r3 r4 r5 r6 hk hF)
                · skip
                  refine cond_v (F := F) (rfl) hF (fun h hF => ?_) (fun h hF => ?_)
                  · skip
                    refine cond_v (F := F) (rfl) hF (fun h hF => ?_) (fun h hF => ?_)
                    · skip
                      exact hopI (isa_Encode.j21_v hE F w a true i0 i1 i2 i3 i4 i5 i6 i7 r0 r1 r2 r3 r4 r5 r6 hk hF)
                    · skip
                      exact hopI (isa_Encode.j21_v hE F w a i7 i0 i1 i2 i3 i4 i5 i6 i7 r0 r1 r2 r3 r4 r5 r6 hk hF)
                  · skip
                    exact hopI (isa_Encode.j21_v hE F w a false i0 i1 i2 i3 i4 i5 i6 i7 r0 r1 r2 r3 r4 r5 r6 hk hF)
              · skip
                refine cond_v (F := F) (rfl) hF (fun h hF => ?_) (fun h hF => ?_)
                · skip
                  refine cond_v (F := F) (rfl) hF (fun h hF => ?_) (fun h hF => ?_)
                  · skip
                    exact hopI (isa_Encode.j21_v hE F w a true i0 i1 i2 i3 i4 i5 i6 i7 r0 r1 r2 r3 r4 r5 r6 hk hF)
                  · skip
                    exact hopI (isa_Encode.j21_v hE F w a i7 i0 i1 i2 i3 i4 i5 i6 i7 r0 r1 r2 r3 r4 r5 r6 hk hF)
                · skip
                  exact hopI (isa_Encode.j21_v hE F w a false i0 i1 i2 i3 i4 i5 i6 i7 r0 r1 r2 r3 r4 r5 r6 hk hF)
        · skip
          refine cond_v (F := F) (rfl) hF (fun h hF => ?_) (fun h hF => ?_)
          · skip
            refine cond_v (F := F) (by simp only [bne_nat, bne_lit, ofInt_toNat, ofInt_toNat', ofInt_toInt, BitVec.setWidth_eq, lit_u, BitVec.reduceOfInt, BitVec.reduceToNat, Nat.reducePow, Nat.reduceMod, Int.cast_ofNat_Int, Int.natCast_zero, Int.natCast_one, Int.reduceLT, Int.reduceLE, Int.reducePow, and_self, Int.zero_sub, BitVec.zero_sub, errO]) hF (fun h hF => ?_) (fun h hF => ?_)
            · skip
              exact hopI (isa_Encode.j21_v hE F w a true i0 i1 i2 i3 i4 i5 i6 i7 r0 r1 r2 r3 r4 r5 r6 hk hF)
            · skip
              refine cond_v (F := F) (rfl) hF (fun h hF => ?_) (fun h hF => ?_)
              · skip
                refine cond_v (F := F) (rfl) hF (fun h hF => ?_) (fun h hF => ?_)
                · skip
                  exact hopI (isa_Encode.j21_v hE F w a true i0 i1 i2 i3 i4 i5 i6 i7 r0 r1 r2 r3 r4 r5 r6 hk hF)
                · skip
                  refine cond_v (F := F) (rfl) hF (fun h hF => ?_) (fun h hF => ?_)
                  · skip
                    refine cond_v (F := F) (rfl) hF (fun h hF => ?_) (fun h hF => ?_)
                    · skip
                      exact hopI (isa_Encode.j21_v hE F w a true i0 i1 i2 i3 i4 i5 i6 i7 r0 r1 r2 r3 r4 r5 r6 hk hF)
                    · skip
                      exact hopI (isa_Encode.j21_v hE F w a i7 i0 i1 i2 i3 i4 i5 i6 i7 r0 r1 r2 r3 r4 r5 r6 hk hF)
                  · skip
                    exact hopI (isa_Encode.j21_v hE F w a false i0 i1 i2 i3 i4 i5 i6 i7 r0 r1 r2 r3 r4 r5 r6 hk hF)
              · skip
                refine cond_v (F := F) (rfl) hF (fun h hF => ?_) (fun h hF => ?_)
                · skip
                  refine cond_v (F := F) (rfl) hF (fun h hF => ?_) (fun h hF => ?_)
                  · skip
                    exact hopI (isa_Encode.j21_v hE F w a true i0 i1 i2 i3 i4 i5 i6 i7 r0 r1 r2 r3 r4 r5 r6 hk hF)
                  · skip
                    exact hopI (isa_Encode.j21_v hE F w a i7 i0 i1 i2 i3 i4 i5 i6 i7 r0 r1 r2 r3 r4 r5 r6 hk hF)
                · skip
                  exact hopI (isa_Encode.j21_v hE F w a false i0 i1 i2 i3 i4 i5 i6 i7 r0 r1 r2 r3 r4 r5 r6 hk hF)
          · skip
            refine cond_v (F := F) (rfl) hF (fun h hF => ?_) (fun h hF => ?_)
            · skip
              refine cond_v (F := F) (rfl) hF (fun h hF => ?_) (fun h hF => ?_)
              · skip
                exact hopI (isa_Encode.j21_v hE F w a true i0 i1 i2 i3 i4 i5 i6 i7 r0 r1 r2 r3 r4 r5 r6 hk hF)
              · skip
                refine cond_v (F := F) (rfl) hF (fun h hF => ?_) (fun h hF => ?_)
                · skip
                  refine cond_v (F := F) (rfl) hF (fun h hF => ?_) (fun h hF => ?_)
                  · skip
                    exact hopI (isa_Encode.j21_v hE F w a true i0 i1 i2 i3 i4 i5 i6 i7 r0 r1 r2 r3 r4 r5 r6 hk hF)
                  · skip
                    exact hopI (isa_Encode.j21_v hE F w a i7 i0 i1 i2 i3 i4 i5 i6 i7 r0 r1 r2 r3 r4 r5 r6 hk hF)
                · skip
                  exact hopI (isa_Encode.j21_v hE F w a false i0 i1 i2 i3 i4 i5 i6 i7 r0 r1 r2 r3 r4 r5 r6 hk hF)
            · skip
              refine cond_v (F := F) (rfl) hF (fun h hF => ?_) (fun h hF => ?_)
              · skip
                refine cond_v (F := F) (rfl) hF (fun h hF => ?_) (fun h hF => ?_)
                · skip
                  exact hopI (isa_Encode.j21_v hE F w a true i0 i1 i2 i3 i4 i5 i6 i7 r0 r1 r2 r3 r4 r5 r6 hk hF)
                · skip
                  exact hopI (isa_Encode.j21_v hE F w a i7 i0 i1 i2 i3 i4 i5 i6 i7 r0 r1 r2 r3 r4 r5 r6 hk hF)
              · skip
                exact hopI (isa_Encode.j21_v hE F w a false i0 i1 i2 i3 i4 i5 i6 i7 r0 r1 r2 r3 r4 r5 r6 hk hF)
  · skip
    refine cond_v (F := F) (rfl) hF (fun h hF => ?_) (fun h hF => ?_)
    · skip
      refine cond_v (F := F) (rfl) hF (fun h hF => ?_) (fun h hF => ?_)
      · skip
        exact hopI (isa_Encode.j21_v hE F w a true i0 i1 i2 i3 i4 i5 i6 i7 r0 r1 r2 r3 r4 r5 r6 hk hF)
      · skip
        refine cond_v (F := F) (rfl) hF (fun h hF => ?_) (fun h hF => ?_)
        · skip
          refine cond_v (F := F) (rfl) hF (fun h hF => ?_) (fun h hF => ?_)
          · skip
            exact hopI (isa_Encode.j21_v hE F w a true i0 i1 i2 i3 i4 i5 i6 i7 r0 r1 r2 r3 r4 r5 r6 hk hF)
          · skip
            refine cond_v (F := F) (rfl) hF (fun h hF => ?_) (fun h hF => ?_)
            · skip
              refine cond_v (F := F) (by simp only [bne_nat, bne_lit, ofInt_toNat, ofInt_toNat', ofInt_toInt, BitVec.setWidth_eq, lit_u, BitVec.reduceOfInt, BitVec.reduceToNat, Nat.reducePow, Nat.reduceMod, Int.cast_ofNat_Int, Int.natCast_zero, Int.natCast_one, Int.reduceLT, Int.reduceLE, Int.reducePow, and_self, Int.zero_sub, BitVec.zero_sub, errO]) hF (fun h hF => ?_) (fun h hF => ?_)
              · skip
                exact hopI (isa_Encode.j21_v hE F w a true i0 i1 i2 i3 i4 i5 i6 i7 r0 r1 r2 r3 r4 r5 r6 hk hF)
              · skip
                refine cond_v (F := F) (rfl) hF (fun h hF => ?_) (fun h hF => ?_)
                · skip
                  refine cond_v (F := F) (rfl) hF (fun h hF => ?_) (fun h hF => ?_)
                  · skip
                    exact hopI (isa_Encode.j21_v hE F w a true i0 i1 i2 i3 i4 i5 i6 i7 r0 r1 r2 r3 r4 r5 r6 hk hF)
                  · skip
                    refine cond_v (F := F) (rfl) hF (fun h hF => ?_) (fun h hF => ?_)
                    · skip
                      refine cond_v (F := F) (rfl) hF (fun h hF => ?_) (fun h hF => ?_)
                      · skip
                        exact hopI (isa_Encode.j21_v hE F w a true i0 i1 i2 i3 i4 i5 i6 i7 r0 r1 r2 r3 r4 r5 r6 hk hF)
                      · skip
                        exact hopI (isa_Encode.j21_v hE F w a i7 i0 i1 i2 i3 i4 i5 i6 i7 r0 r1 r2 r3 r4 r5 r6 hk hF)
                    · skip
                      exact hopI (isa_Encode.j21_v hE F w a false i0 i1 i2 i3 i4 i5 i6 i7 r0 r1 r2 r3 r4 r5 r6 hk hF)
                · skip
                  refine cond_v (F := F) (rfl) hF (fun h hF => ?_) (fun h hF => ?_)
                  · skip
                    refine cond_v (F := F) (rfl) hF (fun h hF => ?_) (fun h hF => ?_)
                    · skip
                      exact hopI (isa_Encode.j21_v hE F w a true i0 i1 i2 i3 i4 i5 i6 i7 r0 r1 r2 r3 r4 r5 r6 hk hF)
                    · skip
                      exact hopI (isa_Encode.j21_v hE F w a i7 i0 i1 i2 i3 i4 i5 i6 i7 r0 r1 r2 r3 r4 r5 r6 hk hF)
                  · skip
                    exact hopI (isa_Encode.j21_v hE F w a false i0 i1 i2 i3 i4 i5 i6 i7 r0 r1 r2 r3 r4 r5 r6 hk hF)
            · skip
              refine cond_v (F := F) (rfl) hF (fun h hF => ?_) (fun h hF => ?_)
              · skip
                refine cond_v (F := F) (rfl) hF (fun h hF => ?_) (fun h hF => ?_)
                · skip
                  exact hopI (isa_Encode.j21_v hE F w a true i0 i1 i2 i3 i4 i5 i6 i7 r0 r1 r2 r3 r4 r5 r6 hk hF)
                · skip
                  refine cond_v (F := F) (rfl) hF (fun h hF => ?_) (fun h hF => ?_)
                  · skip
                    refine cond_v (F := F) (rfl) hF (fun h hF => ?_) (fun h hF => ?_)
                    · skip
                      exact hopI (isa_Encode.j21_v hE F w a true i0 i1 i2 i3 i4 i5 i6 i7 r0 r1 r2 r3 r4 r5 r6 hk hF)
                    · skip
                      exact hopI (isa_Encode.j21_v hE F w a i7 i0 i1 i2 i3 i4 i5 i6 i7 r0 r1 r2 r3 r4 r5 r6 hk hF)
                  · skip
                    exact hopI (isa_Encode.j21_v hE F w a false i0 i1 i2 i3 i4 i5 i6 i7 r0 r1 r2 r3 r4 r5 r6 hk hF)
              · skip
                refine cond_v (F := F) (rfl) hF (fun h hF => ?_) (fun h hF => ?_)
                · skip
                  refine cond_v (F := F) (rfl) hF (fun h hF => ?_) (fun h hF => ?_)
                  · skip
                    exact hopI (isa_Encode.j21_v hE F w a true i0 i1 i2 i3 i4 i5 i6 i7 r0 r1 r2 r3 r4 r5 r6 hk hF)
                  · skip
                    exact hopI (isa_Encode.j21_v hE F w a i7 i0 i1 i2 i3 i4 i5 i6 i7 r0 r1 r2 r3 r4 r5 r6 hk hF)
                · skip
                  exact hopI (isa_Encode.j21_v hE F w a false i0 i1 i2 i3 i4 i5 i6 i7 r0 r1 r2 r3 r4 r5 r6 hk hF)
        · skip
          refine cond_v (F := F) (rfl) hF (fun h hF => ?_) (fun h hF => ?_)
          · skip
            refine cond_v (F := F) (by simp only [bne_nat, bne_lit, ofInt_toNat, ofInt_toNat', ofInt_toInt, BitVec.setWidth_eq, lit_u, BitVec.reduceOfInt, BitVec.reduceToNat, Nat.reducePow, Nat.reduceMod, Int.cast_ofNat_Int, Int.natCast_zero, Int.natCast_one, Int.reduceLT, Int.reduceLE, Int.reducePow, and_self, Int.zero_sub, BitVec.zero_sub, errO]) hF (fun h hF => ?_) (fun h hF => ?_)
            · skip
              exact hopI (isa_Encode.j21_v hE F w a true i0 i1 i2 i3 i4 i5 i6 i7 r0 r1 r2 r3 r4 r5 r6 hk hF)
            · skip
              refine cond_v (F := F) (rfl) hF (fun h hF => ?_) (fun h hF => ?_)
              · skip
                refine cond_v (F := F) (rfl) hF (fun h hF => ?_) (fun h hF => ?_)
                · skip
                  exact hopI (isa_Encode.j21_v hE F w a true i0 i1 i2 i3 i4 i5 i6 i7 r0 r1 r2 r3 r4 r5 r6 hk hF)
                · skip
                  refine cond_v (F := F) (rfl) hF (fun h hF => ?_) (fun h hF => ?_)
                  · skip
                    refine cond_v (F := F) (rfl) hF (fun h hF => ?_) (fun h hF => ?_)
                    · skip
                      exact hopI (isa_Encode.j21_v hE F w a true i0 i1 i2 i3 i4 i5 i6 i7 r0 r1 r2 r3 r4 r5 r6 hk hF)
                    · skip
                      exact hopI (isa_Encode.j21_v hE F w a i7 i0 i1 i2 i3 i4 i5 i6 i7 r0 r1 r2 r3 r4 r5 r6 hk hF)
                  · skip
                    exact hopI (isa_Encode.j21_v hE F w a false i0 i1 i2 i3 i4 i5 i6 i7 r0 r1 r2 r3 r4 r5 r6 hk hF)
              · skip
                refine cond_v (F := F) (rfl) hF (fun h hF => ?_) (fun h hF => ?_)
                · skip
                  refine cond_v (F := F) (rfl) hF (fun h hF => ?_) (fun h hF => ?_)
                  · skip
                    exact hopI (isa_Encode.j21_v hE F w a true i0 i1 i2 i3 i4 i5 i6 i7 r0 r1 r2 r3 r4 r5 r6 hk hF)
                  · skip
                    exact hopI (isa_Encode.j21_v hE F w a i7 i0 i1 i2 i3 i4 i5 i6 i7 r0 r1 r2 r3 r4 r5 r6 hk hF)
                · skip
                  exact hopI (isa_Encode.j21_v hE F w a false i0 i1 i2 i3 i4 i5 i6 i7 r0 r1 r2 r3 r4 r5 r6 hk hF)
          · skip
            refine cond_v (F := F) (rfl) hF (fun h hF => ?_) (fun h hF => ?_)
            · skip
              refine cond_v (F := F) (rfl) hF (fun h hF => ?_) (fun h hF => ?_)
              · skip
                exact hopI (isa_Encode.j21_v hE F w a true i0 i1 i2 i3 i4 i5 i6 i7 r0 r1 r2 r3 r4 r5 r6 hk hF)
              · skip
                refine cond_v (F := F) (rfl) hF (fun h hF => ?_) (fun h hF => ?_)
                · skip
                  refine cond_v (F := F) (rfl) hF (fun h hF => ?_) (fun h hF => ?_)
                  · skip
                    exact hopI (isa_Encode.j21_v hE F w a true i0 i1 i2 i3 i4 i5 i6 i7 r0 r1 r2 r3 r4 r5 r6 hk hF)
                  · skip
                    exact hopI (isa_Encode.j21_v hE F w a i7 i0 i1 i2 i3 i4 i5 i6 i7 r0 r1 r2 r3 r4 r5 r6 hk hF)
                · skip
                  exact hopI (isa_Encode.j21_v hE F w a false i0 i1 i2 i3 i4 i5 i6 i7 r0 r1 r2 r3 r4 r5 r6 hk hF)
            · skip
              refine cond_v (F := F) (rfl) hF (fun h hF => ?_) (fun h hF => ?_)
              · skip
                refine cond_v (F := F) (rfl) hF (fun h hF => ?_) (fun h hF => ?_)
                · skip
                  exact hopI (isa_Encode.j21_v hE F w a true i0 i1 i2 i3 i4 i5 i6 i7 r0 r1 r2 r3 r4 r5 r6 hk hF)
                · skip
                  exact hopI (isa_Encode.j21_v hE F w a i7 i0 i1 i2 i3 i4 i5 i6 i7 r0 r1 r2 r3 r4 r5 r6 hk hF)
              · skip
                exact hopI (isa_Encode.j21_v hE F w a false i0 i1 i2 i3 i4 i5 i6 i7 r0 r1 r2 r3 r4 r5 r6 hk hF)
    · skip
      refine cond_v (F := F) (rfl) hF (fun h hF => ?_) (fun h hF => ?_)
      · skip
        refine cond_v (F := F) (rfl) hF (fun h hF => ?_) (fun h hF => ?_)
        · skip
          exact hopI (isa_Encode.j21_v hE F w a true i0 i1 i2 i3 i4 i5 i6 i7 r0 r1 r2 r3 r4 r5 r6 hk hF)
        · skip
          refine cond_v (F := F) (rfl) hF (fun h hF => ?_) (fun h hF => ?_)
          · skip
            refine cond_v (F := F) (by simp only [bne_nat, bne_lit, ofInt_toNat, ofInt_toNat', ofInt_toInt, BitVec.setWidth_eq, lit_u, BitVec.reduceOfInt, BitVec.reduceToNat, Nat.reducePow, Nat.reduceMod, Int.cast_ofNat_Int, Int.natCast_zero, Int.natCast_one, Int.reduceLT, Int.reduceLE, Int.reducePow, and_self, Int.zero_sub, BitVec.zero_sub, errO]) hF (fun h hF => ?_) (fun h hF => ?_)
            · skip
              exact hopI (isa_Encode.j21_v hE F w a true i0 i1 i2 i3 i4 i5 i6 i7 r0 r1 r2 r3 r4 r5 r6 hk hF)
            · skip
              refine cond_v (F := F) (rfl) hF (fun h hF => ?_) (fun h hF => ?_)
              · skip
                refine cond_v (F := F) (rfl) hF (fun h hF => ?_) (fun h hF => ?_)
                · skip
                  exact hopI (isa_Encode.j21_v hE F w a true i0 i1 i2 i3 i4 i5 i6 i7 r0 r1 r2 r3 r4 r5 r6 hk hF)
                · skip
                  refine cond_v (F := F) (rfl) hF (fun h hF => ?_) (fun h hF => ?_)
                  · skip
                    refine cond_v (F := F) (rfl) hF (fun h hF => ?_) (fun h hF => ?_)
                    · skip
                      exact hopI (isa_Encode.j21_v hE F w a true i0 i1 i2 i3 i4 i5 i6 i7 r0 r1 r2 r3 r4 r5 r6 hk hF)
                    · skip
                      exact hopI (isa_Encode.j21_v hE F w a i7 i0 i1 i2 i3 i4 i5 i6 i7 r0 r1 r2 r3 r4 r5 r6 hk hF)
                  · skip
                    exact hopI (isa_Encode.j21_v hE F w a false i0 i1 i2 i3 i4 i5 i6 i7 r0 r1 r2 r3 r4 r5 r6 hk hF)
              · skip
                refine cond_v (F := F) (rfl) hF (fun h hF => ?_) (fun h hF => ?_)
                · skip
                  refine cond_v (F := F) (rfl) hF (fun h hF => ?_) (fun h hF => ?_)
                  · skip
                    exact hopI (isa_Encode.j21_v hE F w a true i0 i1 i2 i3 i4 i5 i6 i7 r0 r1 r2 r3 r4 r5 r6 hk hF)
                  · skip
                    exact hopI (isa_Encode.j21_v hE F w a i7 i0 i1 i2 i3 i4 i5 i6 i7 r0 r1 r2 r3 r4 r5 r6 hk hF)
                · skip
                  exact hopI (isa_Encode.j21_v hE F w a false i0 i1 i2 i3 i4 i5 i6 i7 r0 r1 r2 r3 r4 r5 r6 hk hF)
          · skip
            refine cond_v (F := F) (rfl) hF (fun h hF => ?_) (fun h hF => ?_)
            · skip
              refine cond_v (F := F) (rfl) hF (fun h hF => ?_) (fun h hF => ?_)
              · skip
                exact hopI (isa_Encode.j21_v hE F w a true i0 i1 i2 i3 i4 i5 i6 i7 r0 r1 r2 r3 r4 r5 r6 hk hF)
              · skip
                refine cond_v (F := F) (rfl) hF (fun h hF => ?_) (fun h hF => ?_)
                · skip
                  refine cond_v (F := F) (rfl) hF (fun h hF => ?_) (fun h hF => ?_)
                  · skip
                    exact hopI (isa_Encode.j21_v hE F w a true i0 i1 i2 i3 i4 i5 i6 i7 r0 r1 r2 r3 r4 r5 r6 hk hF)
                  · skip
                    exact hopI (isa_Encode.j21_v hE F w a i7 i0 i1 i2 i3 i4 i5 i6 i7 r0 r1 r2 r3 r4 r5 r6 hk hF)
                · skip
                  exact hopI (isa_Encode.j21_v hE F w a false i0 i1 i2 i3 i4 i5 i6 i7 r0 r1 r2 r3 r4 r5 r6 hk hF)
            · skip
              refine cond_v (F := F) (rfl) hF (fun h hF => ?_) (fun h hF => ?_)
              · skip
                refine cond_v (F := F) (rfl) hF (fun h hF => ?_) (fun h hF => ?_)
                · skip
                  exact hopI (isa_Encode.j21_v hE F w a true i0 i1 i2 i3 i4 i5 i6 i7 r0 r1 r2 r3 r4 r5 r6 hk hF)
                · skip
                  exact hopI (isa_Encode.j21_v hE F w a i7 i0 i1 i2 i3 i4 i5 i6 i7 r0 r1 r2 r3 r4 r5 r6 hk hF)
              · skip
                exact hopI (isa_Encode.j21_v hE F w a false i0 i1 i2 i3 i4 i5 i6 i7 r0 r1 r2 r3 r4 r5 r6 hk hF)
      · skip
        refine cond_v (F := F) (rfl) hF (fun h hF => ?_) (fun h hF => ?_)
        · skip
          refine cond_v (F := F) (by simp only [bne_nat, bne_lit, ofInt_toNat, ofInt_toNat', ofInt_toInt, BitVec.setWidth_eq, lit_u, BitVec.reduceOfInt, BitVec.reduceToNat, Nat.reducePow, Nat.reduceMod, Int.cast_ofNat_Int, Int.natCast_zero, Int.natCast_one, Int.reduceLT, Int.reduceLE, Int.reducePow, and_self, Int.zero_sub, BitVec.zero_sub, errO]) hF (fun h hF => ?_) (fun h hF => ?_)
          · skip
            exact hopI (isa_Encode.j21_v hE F w a true i0 i1 i2 i3 i4 i5 i6 i7 r0 r1 r2 r3 r4 r5 r6 hk hF)
          · skip
            refine cond_v (F := F) (rfl) hF (fun h hF => ?_) (fun h hF => ?_)
            · skip
              refine cond_v (F := F) (rfl) hF (fun h hF => ?_) (fun h hF => ?_)
              · skip
                exact hopI (isa_Encode.j21_v hE F w a true i0 i1 i2 i3 i4 i5 i6 i7 r0 r1 r2 r3 r4 r5 r6 hk hF)
              · skip
                refine cond_v (F := F) (rfl) hF (fun h hF => ?_) (fun h hF => ?_)
                · skip
                  refine cond_v (F := F) (rfl) hF (fun h hF => ?_) (fun h hF => ?_)
                  · skip
                    exact hopI (isa_Encode.j21_v hE F w a true i0 i1 i2 i3 i4 i5 i6 i7 r0 r1 r2 r3 r4 r5 r6 hk hF)
                  · skip
                    exact hopI (isa_Encode.j21_v hE F w a i7 i0 i1 i2 i3 i4 i5 i6 i7 r0 r1 r2 r3 r4 r5 r6 hk hF)
                · skip
                  exact hopI (isa_Encode.j21_v hE F w a false i0 i1 i2 i3 i4 i5 i6 i7 r0 r1 r2 r3 r4 r5 r6 hk hF)
            · skip
              refine cond_v (F := F) (rfl) hF (fun h hF => ?_) (fun h hF => ?_)
              · skip
                refine cond_v (F := F) (rfl) hF (fun h hF => ?_) (fun h hF => ?_)
                · skip
                  exact hopI (isa_Encode.j21_v hE F w a true i0 i1 i2 i3 i4 i5 i6 i7 r0 r1 r2 r3 r4 r5 r6 hk hF)
                · skip
                  exact hopI (isa_Encode.j21_v hE F w a i7 i0 i1 i2 i3 i4 i5 i6 i7 r0 r1 r2 r3 r4 r5 r6 hk hF)
              · skip
                exact hopI (isa_Encode.j21_v hE F w a false i0 i1 i2 i3 i4 i5 i6 i7 r0 r1 r2 r3 r4 r5 r6 hk hF)
        · skip
          refine cond_v (F := F) (rfl) hF (fun h hF => ?_) (fun h hF => ?_)
          · skip
            refine cond_v (F := F) (rfl) hF (fun h hF => ?_) (fun h hF => ?_)
            · skip
              exact hopI (isa_Encode.j21_v hE F w a true i0 i1 i2 i3 i4 i5 i6 i7 r0 r1 r2 r3 r4 r5 r6 hk hF)
            · skip
              refine cond_v (F := F) (rfl) hF (fun h hF => ?_) (fun h hF => ?_)
              · skip
                refine cond_v (F := F) (rfl) hF (fun h hF => ?_) (fun h hF => ?_)
                · skip
                  exact hopI (isa_Encode.j21_v hE F w a true i0 i1 i2 i3 i4 i5 i6 i7 r0 r1 r2 r3 r4 r5 r6 hk hF)
                · skip
                  exact hopI (isa_Encode.j21_v hE F w a i7 i0 i1 i2 i3 i4 i5 i6 i7 r0 r1 r2 r3 r4 r5 r6 hk hF)
              · skip
                exact hopI (isa_Encode.j21_v hE F w a false i0 i1 i2 i3 i4 i5 i6 i7 r0 r1 r2 r3 r4 r5 r6 hk hF)
          · skip
            refine cond_v (F := F) (rfl) hF (fun h hF => ?_) (fun h hF => ?_)
            · skip
              refine cond_v (F := F) (rfl) hF (fun h hF => ?_) (fun h hF => ?_)
              · skip
                exact hopI (isa_Encode.j21_v hE F w a true i0 i1 i2 i3 i4 i5 i6 i7 r0 r1 r2 r3 r4 r5 r6 hk hF)
              · skip
                exact hopI (isa_Encode.j21_v hE F w a i7 i0 i1 i2 i3 i4 i5 i6 i7 r0 r1 r2 r3 r4 r5 r6 hk hF)
            · skip
              exact hopI (isa_Encode.j21_v hE F w a false i0 i1 i2 i3 i4 i5 i6 i7 r0 r1 r2 r3 r4 r5 r6 hk hF)
def isa_Encode.v19 (rd : Bool) (rs1 : Bool) (rs2 : Bool) (imm : Bool) (w : BitVec 32) (c : Bool) (i0 : Int) (i1 : Int) (i2 : Int) (i3 : Int) (i4 : Int) (i5 : BitVec 32) (i6 : Bool) (i7 : Bool) (r0 : Int) (r1 : ByteArray) (r2 : Int) (r3 : BitVec 32) (r4 : BitVec 32) (r5 : BitVec 32) (r6 : Int) : BitVec 32 × Option (_root_.Fin 11) :=
  bif (r2 == 12) then
    isa_Encode.v20 rd rs1 rs2 imm w c true i0 i1 i2 i3 i4 i5 i6 i7 r0 r1 r2 r3 r4 r5 r6
  else
    isa_Encode.v20 rd rs1 rs2 imm w c (r2 == 13) i0 i1 i2 i3 i4 i5 i6 i7 r0 r1 r2 r3 r4 r5 r6
theorem isa_Encode.j19_v {K : Value → Store → Prop} {σ : Store} {E : Nat → Nat × Nat} (hE : Errs σ E) (F : (BitVec 32 × Option (_root_.Fin 11)) → Prop) (rd : Bool) (rs1 : Bool) (rs2 : Bool) (imm : Bool) (w : BitVec 32) (c : Bool) (i0 : Int) (i1 : Int) (i2 : Int) (i3 : Int) (i4 : Int) (i5 : BitVec 32) (i6 : Bool) (i7 : Bool) (r0 : Int) (r1 : ByteArray) (r2 : Int) (r3 : BitVec 32) (r4 : BitVec 32) (r5 : BitVec 32) (r6 : Int) (hk : ∀ r, F r → K (.tuple #[.int .u32 (BitVec.toNat r.1 : Int), errO E r.2]) σ) (hF : F (isa_Encode.v19 rd rs1 rs2 imm w c i0 i1 i2 i3 i4 i5 i6 i7 r0 r1 r2 r3 r4 r5 r6)) : isa_Encode.j19 K rd rs1 rs2 imm (BitVec.toNat w : Int) c i0 i1 i2 i3 i4 (BitVec.toNat i5 : Int) i6 i7 r0 r1 r2 (BitVec.toNat r3 : Int) (BitVec.toNat r4 : Int) (BitVec.toNat r5 : Int) r6 σ := by
  unfold isa_Encode.j19
  unfold isa_Encode.v19 at hF
  try dsimp only at hF
  refine cond_v (F := F) (rfl) hF (fun h hF => ?_) (fun h hF => ?_)
  · skip
    exact hopI (isa_Encode.j20_v hE F rd rs1 rs2 imm w c true i0 i1 i2 i3 i4 i5 i6 i7 r0 r1 r2 r3 r4 r5 r6 hk hF)
  · skip
    exact hopI (isa_Encode.j20_v hE F rd rs1 rs2 imm w c (r2 == 13) i0 i1 i2 i3 i4 i5 i6 i7 r0 r1 r2 r3 r4 r5 r6 hk hF)
def isa_Encode.v18 (rd : Bool) (rs1 : Bool) (rs2 : Bool) (imm : Bool) (w : BitVec 32) (i0 : Int) (i1 : Int) (i2 : Int) (i3 : Int) (i4 : Int) (i5 : BitVec 32) (i6 : Bool) (i7 : Bool) (r0 : Int) (r1 : ByteArray) (r2 : Int) (r3 : BitVec 32) (r4 : BitVec 32) (r5 : BitVec 32) (r6 : Int) : BitVec 32 × Option (_root_.Fin 11) :=
  bif (r2 == 10) then
    isa_Encode.v19 rd rs1 rs2 imm w true i0 i1 i2 i3 i4 i5 i6 i7 r0 r1 r2 r3 r4 r5 r6
  else
    isa_Encode.v19 rd rs1 rs2 imm w (r2 == 11) i0 i1 i2 i3 i4 i5 i6 i7 r0 r1 r2 r3 r4 r5 r6
theorem isa_Encode.j18_v {K : Value → Store → Prop} {σ : Store} {E : Nat → Nat × Nat} (hE : Errs σ E) (F : (BitVec 32 × Option (_root_.Fin 11)) → Prop) (rd : Bool) (rs1 : Bool) (rs2 : Bool) (imm : Bool) (w : BitVec 32) (i0 : Int) (i1 : Int) (i2 : Int) (i3 : Int) (i4 : Int) (i5 : BitVec 32) (i6 : Bool) (i7 : Bool) (r0 : Int) (r1 : ByteArray) (r2 : Int) (r3 : BitVec 32) (r4 : BitVec 32) (r5 : BitVec 32) (r6 : Int) (hk : ∀ r, F r → K (.tuple #[.int .u32 (BitVec.toNat r.1 : Int), errO E r.2]) σ) (hF : F (isa_Encode.v18 rd rs1 rs2 imm w i0 i1 i2 i3 i4 i5 i6 i7 r0 r1 r2 r3 r4 r5 r6)) : isa_Encode.j18 K rd rs1 rs2 imm (BitVec.toNat w : Int) i0 i1 i2 i3 i4 (BitVec.toNat i5 : Int) i6 i7 r0 r1 r2 (BitVec.toNat r3 : Int) (BitVec.toNat r4 : Int) (BitVec.toNat r5 : Int) r6 σ := by
  unfold isa_Encode.j18
  unfold isa_Encode.v18 at hF
  try dsimp only at hF
  refine cond_v (F := F) (rfl) hF (fun h hF => ?_) (fun h hF => ?_)
  · skip
    exact hopI (isa_Encode.j19_v hE F rd rs1 rs2 imm w true i0 i1 i2 i3 i4 i5 i6 i7 r0 r1 r2 r3 r4 r5 r6 hk hF)
  · skip
    exact hopI (isa_Encode.j19_v hE F rd rs1 rs2 imm w (r2 == 11) i0 i1 i2 i3 i4 i5 i6 i7 r0 r1 r2 r3 r4 r5 r6 hk hF)
def isa_Encode.v12 (i0 : Int) (i1 : Int) (i2 : Int) (i3 : Int) (i4 : Int) (i5 : BitVec 32) (i6 : Bool) (i7 : Bool) (r0 : Int) (r1 : ByteArray) (r2 : Int) (r3 : BitVec 32) (r4 : BitVec 32) (r5 : BitVec 32) (r6 : Int) : BitVec 32 × Option (_root_.Fin 11) :=
  let c1 := isa_row_uses.v r0 r1 r2 r3 r4 r5 r6
  bif c1.2.2.2 then
    let c2 := isa_row_lay.v r0 r1 r2 r3 r4 r5 r6 i5
    bif (!c2.2) then
      (0#32, (some 5))
    else
      isa_Encode.v18 c1.1 c1.2.1 c1.2.2.1 c1.2.2.2 c2.1 i0 i1 i2 i3 i4 i5 i6 i7 r0 r1 r2 r3 r4 r5 r6
  else
    isa_Encode.v18 c1.1 c1.2.1 c1.2.2.1 c1.2.2.2 0#32 i0 i1 i2 i3 i4 i5 i6 i7 r0 r1 r2 r3 r4 r5 r6
theorem isa_Encode.j12_v {K : Value → Store → Prop} {σ : Store} {E : Nat → Nat × Nat} (hE : Errs σ E) (F : (BitVec 32 × Option (_root_.Fin 11)) → Prop) (i0 : Int) (i1 : Int) (i2 : Int) (i3 : Int) (i4 : Int) (i5 : BitVec 32) (i6 : Bool) (i7 : Bool) (r0 : Int) (r1 : ByteArray) (r2 : Int) (r3 : BitVec 32) (r4 : BitVec 32) (r5 : BitVec 32) (r6 : Int) (hk : ∀ r, F r → K (.tuple #[.int .u32 (BitVec.toNat r.1 : Int), errO E r.2]) σ) (hF : F (isa_Encode.v12 i0 i1 i2 i3 i4 i5 i6 i7 r0 r1 r2 r3 r4 r5 r6)) : isa_Encode.j12 K i0 i1 i2 i3 i4 (BitVec.toNat i5 : Int) i6 i7 r0 r1 r2 (BitVec.toNat r3 : Int) (BitVec.toNat r4 : Int) (BitVec.toNat r5 : Int) r6 σ := by
  unfold isa_Encode.j12
  unfold isa_Encode.v12 at hF
  try dsimp only at hF
  refine Pur.use (isa_row_uses.pur r0 r1 r2 r3 r4 r5 r6 σ) (rfl) ⟨_, _, _, _, rfl, ?_⟩
  refine cond_v (F := F) (rfl) hF (fun h hF => ?_) (fun h hF => ?_)
  · skip
    refine Pur.use (isa_row_lay.pur r0 r1 r2 r3 r4 r5 r6 i5 σ) (rfl) ⟨_, _, rfl, ?_⟩
    refine cond_v (F := F) (rfl) hF (fun h hF => ?_) (fun h hF => ?_)
    · skip
      refine ⟨_, hE.range, ?_⟩
      exact hk _ hF
    · skip
      exact hopI (isa_Encode.j18_v hE F ((isa_row_uses.v r0 r1 r2 r3 r4 r5 r6).1) ((isa_row_uses.v r0 r1 r2 r3 r4 r5 r6).2.1) ((isa_row_uses.v r0 r1 r2 r3 r4 r5 r6).2.2.1) ((isa_row_uses.v r0 r1 r2 r3 r4 r5 r6).2.2.2) ((isa_row_lay.v r0 r1 r2 r3 r4 r5 r6 i5).1) i0 i1 i2 i3 i4 i5 i6 i7 r0 r1 r2 r3 r4 r5 r6 hk hF)
  · skip
    exact hopI (Eq.mp (by simp only [ofInt_toNat, ofInt_toNat', ofInt_toInt, BitVec.setWidth_eq, lit_u, BitVec.reduceOfInt, BitVec.reduceToNat, Nat.reducePow, Nat.reduceMod, Int.cast_ofNat_Int, Int.natCast_zero, Int.natCast_one, Int.reduceLT, Int.reduceLE, Int.reducePow, and_self, Int.zero_sub, BitVec.zero_sub, errO]) (isa_Encode.j18_v hE F ((isa_row_uses.v r0 r1 r2 r3 r4 r5 r6).1) ((isa_row_uses.v r0 r1 r2 r3 r4 r5 r6).2.1) ((isa_row_uses.v r0 r1 r2 r3 r4 r5 r6).2.2.1) ((isa_row_uses.v r0 r1 r2 r3 r4 r5 r6).2.2.2) 0#32 i0 i1 i2 i3 i4 i5 i6 i7 r0 r1 r2 r3 r4 r5 r6 hk hF))
def isa_Encode.v11 (t52 : Bool) (i0 : Int) (i1 : Int) (i2 : Int) (i3 : Int) (i4 : Int) (i5 : BitVec 32) (i6 : Bool) (i7 : Bool) (r0 : Int) (r1 : ByteArray) (r2 : Int) (r3 : BitVec 32) (r4 : BitVec 32) (r5 : BitVec 32) (r6 : Int) : BitVec 32 × Option (_root_.Fin 11) :=
  bif t52 then
    (0#32, (some 5))
  else
    isa_Encode.v12 i0 i1 i2 i3 i4 i5 i6 i7 r0 r1 r2 r3 r4 r5 r6
theorem isa_Encode.j11_v {K : Value → Store → Prop} {σ : Store} {E : Nat → Nat × Nat} (hE : Errs σ E) (F : (BitVec 32 × Option (_root_.Fin 11)) → Prop) (t52 : Bool) (i0 : Int) (i1 : Int) (i2 : Int) (i3 : Int) (i4 : Int) (i5 : BitVec 32) (i6 : Bool) (i7 : Bool) (r0 : Int) (r1 : ByteArray) (r2 : Int) (r3 : BitVec 32) (r4 : BitVec 32) (r5 : BitVec 32) (r6 : Int) (hk : ∀ r, F r → K (.tuple #[.int .u32 (BitVec.toNat r.1 : Int), errO E r.2]) σ) (hF : F (isa_Encode.v11 t52 i0 i1 i2 i3 i4 i5 i6 i7 r0 r1 r2 r3 r4 r5 r6)) : isa_Encode.j11 K t52 i0 i1 i2 i3 i4 (BitVec.toNat i5 : Int) i6 i7 r0 r1 r2 (BitVec.toNat r3 : Int) (BitVec.toNat r4 : Int) (BitVec.toNat r5 : Int) r6 σ := by
  unfold isa_Encode.j11
  unfold isa_Encode.v11 at hF
  try dsimp only at hF
  refine cond_v (F := F) (rfl) hF (fun h hF => ?_) (fun h hF => ?_)
  · skip
    refine ⟨_, hE.range, ?_⟩
    exact hk _ hF
  · skip
    exact hopI (isa_Encode.j12_v hE F i0 i1 i2 i3 i4 i5 i6 i7 r0 r1 r2 r3 r4 r5 r6 hk hF)
def isa_Encode.v10 (i0 : Int) (i1 : Int) (i2 : Int) (i3 : Int) (i4 : Int) (i5 : BitVec 32) (i6 : Bool) (i7 : Bool) (r0 : Int) (r1 : ByteArray) (r2 : Int) (r3 : BitVec 32) (r4 : BitVec 32) (r5 : BitVec 32) (r6 : Int) : BitVec 32 × Option (_root_.Fin 11) :=
  bif (decide (i4 < 0)) then
    isa_Encode.v11 true i0 i1 i2 i3 i4 i5 i6 i7 r0 r1 r2 r3 r4 r5 r6
  else
    isa_Encode.v11 (decide (i4 > 4095)) i0 i1 i2 i3 i4 i5 i6 i7 r0 r1 r2 r3 r4 r5 r6
theorem isa_Encode.j10_v {K : Value → Store → Prop} {σ : Store} {E : Nat → Nat × Nat} (hE : Errs σ E) (F : (BitVec 32 × Option (_root_.Fin 11)) → Prop) (i0 : Int) (i1 : Int) (i2 : Int) (i3 : Int) (i4 : Int) (i5 : BitVec 32) (i6 : Bool) (i7 : Bool) (r0 : Int) (r1 : ByteArray) (r2 : Int) (r3 : BitVec 32) (r4 : BitVec 32) (r5 : BitVec 32) (r6 : Int) (hk : ∀ r, F r → K (.tuple #[.int .u32 (BitVec.toNat r.1 : Int), errO E r.2]) σ) (hF : F (isa_Encode.v10 i0 i1 i2 i3 i4 i5 i6 i7 r0 r1 r2 r3 r4 r5 r6)) : isa_Encode.j10 K i0 i1 i2 i3 i4 (BitVec.toNat i5 : Int) i6 i7 r0 r1 r2 (BitVec.toNat r3 : Int) (BitVec.toNat r4 : Int) (BitVec.toNat r5 : Int) r6 σ := by
  unfold isa_Encode.j10
  unfold isa_Encode.v10 at hF
  try dsimp only at hF
  refine cond_v (F := F) (rfl) hF (fun h hF => ?_) (fun h hF => ?_)
  · skip
    exact hopI (isa_Encode.j11_v hE F true i0 i1 i2 i3 i4 i5 i6 i7 r0 r1 r2 r3 r4 r5 r6 hk hF)
  · skip
    exact hopI (isa_Encode.j11_v hE F (decide (i4 > 4095)) i0 i1 i2 i3 i4 i5 i6 i7 r0 r1 r2 r3 r4 r5 r6 hk hF)
def isa_Encode.bv5 (t31A : Option Addr) (t31N : Nat) (t31C : Nat) (t32 : Int) (t33 : Int) (i0 : Int) (i1 : Int) (i2 : Int) (i3 : Int) (i4 : Int) (i5 : BitVec 32) (i6 : Bool) (i7 : Bool) (r0 : Int) (r1 : ByteArray) (r2 : Int) (r3 : BitVec 32) (r4 : BitVec 32) (r5 : BitVec 32) (r6 : Int) (t36 : Int) : (BitVec 32 × Option (_root_.Fin 11)) ⊕ (Int × Int × Int × Int × Int × Int × Int × BitVec 32 × Bool × Bool × Int × ByteArray × Int × BitVec 32 × BitVec 32 × BitVec 32 × Int) :=
  bif (decide (t36 < 0)) then
    isa_Encode.v8 t31A t31N t31C t32 t33 true i0 i1 i2 i3 i4 i5 i6 i7 r0 r1 r2 r3 r4 r5 r6
  else
    isa_Encode.v8 t31A t31N t31C t32 t33 (decide (t36 > 31)) i0 i1 i2 i3 i4 i5 i6 i7 r0 r1 r2 r3 r4 r5 r6
theorem isa_Encode.b5_v {K : Value → Store → Prop} {σ : Store} {E : Nat → Nat × Nat} (hE : Errs σ E) {rr5 : isa_Encode.R5} (F : ((BitVec 32 × Option (_root_.Fin 11)) ⊕ (Int × Int × Int × Int × Int × Int × Int × BitVec 32 × Bool × Bool × Int × ByteArray × Int × BitVec 32 × BitVec 32 × BitVec 32 × Int)) → Prop) (t31A : Option Addr) (t31N : Nat) (t31C : Nat) (t32 : Int) (t33 : Int) (i0 : Int) (i1 : Int) (i2 : Int) (i3 : Int) (i4 : Int) (i5 : BitVec 32) (i6 : Bool) (i7 : Bool) (r0 : Int) (r1 : ByteArray) (r2 : Int) (r3 : BitVec 32) (r4 : BitVec 32) (r5 : BitVec 32) (r6 : Int) (t36 : Int) (hk : ∀ r, F (.inl r) → K (.tuple #[.int .u32 (BitVec.toNat r.1 : Int), errO E r.2]) σ) (hrr : ∀ s, F (.inr s) → rr5 t31A t31N t31C s.1 s.2.1 s.2.2.1 s.2.2.2.1 s.2.2.2.2.1 s.2.2.2.2.2.1 s.2.2.2.2.2.2.1 (BitVec.toNat s.2.2.2.2.2.2.2.1 : Int) s.2.2.2.2.2.2.2.2.1 s.2.2.2.2.2.2.2.2.2.1 s.2.2.2.2.2.2.2.2.2.2.1 s.2.2.2.2.2.2.2.2.2.2.2.1 s.2.2.2.2.2.2.2.2.2.2.2.2.1 (BitVec.toNat s.2.2.2.2.2.2.2.2.2.2.2.2.2.1 : Int) (BitVec.toNat s.2.2.2.2.2.2.2.2.2.2.2.2.2.2.1 : Int) (BitVec.toNat s.2.2.2.2.2.2.2.2.2.2.2.2.2.2.2.1 : Int) s.2.2.2.2.2.2.2.2.2.2.2.2.2.2.2.2 σ) (hc : ((decide (t33 < t32))) = true) (hr0 : ∀ Body : Nat → Nat → Prop, (∀ B O, cellAt σ B (O + t33.toNat * 1) = some (.int .i64 t36) → Body B O) → Req ((decide (0 ≤ t33)) && (decide (t33 < ((t31N : Nat) : Int)))) (PtrNN t31A Body)) (hF : F (isa_Encode.bv5 t31A t31N t31C t32 t33 i0 i1 i2 i3 i4 i5 i6 i7 r0 r1 r2 r3 r4 r5 r6 t36)) : isa_Encode.b5 K rr5 t31A t31N t31C t32 t33 i0 i1 i2 i3 i4 (BitVec.toNat i5 : Int) i6 i7 r0 r1 r2 (BitVec.toNat r3 : Int) (BitVec.toNat r4 : Int) (BitVec.toNat r5 : Int) r6 σ := by
  unfold isa_Encode.b5
  unfold isa_Encode.bv5 at hF
  try dsimp only at hF
  refine cond_t (hc) ?_
  refine hr0 _ fun B O hc => ⟨_, hc, ?_⟩
  refine cond_v (F := F) (rfl) hF (fun h hF => ?_) (fun h hF => ?_)
  · skip
    exact hopI (isa_Encode.j8_v hE (rr5 := rr5) F t31A t31N t31C t32 t33 true i0 i1 i2 i3 i4 i5 i6 i7 r0 r1 r2 r3 r4 r5 r6 hk hrr hF)
  · skip
    exact hopI (isa_Encode.j8_v hE (rr5 := rr5) F t31A t31N t31C t32 t33 (decide (t36 > 31)) i0 i1 i2 i3 i4 i5 i6 i7 r0 r1 r2 r3 r4 r5 r6 hk hrr hF)

end Go.Ev
