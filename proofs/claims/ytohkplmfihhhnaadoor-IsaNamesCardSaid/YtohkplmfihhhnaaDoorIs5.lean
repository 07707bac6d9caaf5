/-
  Instructions: the program's Encode keeps to a plain function.
  Conditions: none.
-/
import Derived.Test.YtohkplmfihhhnaaDoorV4
set_option linter.unusedVariables false
namespace Go.Ev
open Go

/-- Registers' numbers, one after the other; then the rest. -/
def encL (l : List Int) (x : BitVec 32 × Option (_root_.Fin 11)) : BitVec 32 × Option (_root_.Fin 11) :=
  match l with
  | [] => x
  | n :: r => bif decide (n < 0) then (0#32, some 5) else bif decide (n > 31) then (0#32, some 5) else encL r x

abbrev isa_Encode.enc (E : Nat → Nat × Nat) (r : BitVec 32 × Option (_root_.Fin 11)) : Value := .tuple #[.int .u32 (BitVec.toNat r.1 : Int), errO E r.2]

def isa_Encode.v (i0 i1 i2 i3 i4 : Int) (i5 : BitVec 32) (i6 i7 : Bool) : BitVec 32 × Option (_root_.Fin 11) :=
  bif !(findP i0).2 then (0#32, some 1) else
    encL [i1, i2, i3] (isa_Encode.v10 i0 i1 i2 i3 i4 i5 i6 i7 (findP i0).1.op (findP i0).1.name (findP i0).1.form (findP i0).1.oc (findP i0).1.f3 (findP i0).1.f7 (findP i0).1.kind)

theorem encode_loop {σ : Store} {E : Nat → Nat × Nat} (hE : Errs σ E) {a : Option Addr} {n c : Nat} {xs : List Int} (h : IsL iC 1 σ a n xs) (hn : xs.length ≤ 3) (i0 i1 i2 i3 i4 : Int) (i5 : BitVec 32) (i6 i7 : Bool) (p : PRow) {K : Value → Store → Prop} :
    ∀ (r i : Nat), i + r = xs.length → K (isa_Encode.enc E (encL (xs.drop i) (isa_Encode.v10 i0 i1 i2 i3 i4 i5 i6 i7 p.op p.name p.form p.oc p.f3 p.f7 p.kind))) σ →
      isa_Encode.l5 K (r + 1) a n c ((n : Nat) : Int) (i : Int) i0 i1 i2 i3 i4 (BitVec.toNat i5 : Int) i6 i7 p.op p.name p.form (BitVec.toNat p.oc : Int) (BitVec.toNat p.f3 : Int) (BitVec.toNat p.f7 : Int) p.kind σ
  | 0, i, hi, hK => by
    refine cond_f (by simp [h.1]; omega) (hopI ?_)
    rw [List.drop_of_length_le (by omega)] at hK
    exact isa_Encode.j10_v hE (fun r => K (isa_Encode.enc E r) σ) i0 i1 i2 i3 i4 i5 i6 i7 p.op p.name p.form p.oc p.f3 p.f7 p.kind (fun _ h => h) hK
  | r + 1, i, hi, hK => by
    rw [List.drop_eq_getElem_cons (by omega)] at hK
    refine isa_Encode.b5_v hE (fun s => match s with
      | .inl r => K (isa_Encode.enc E r) σ
      | .inr s => s = ((n : Int), IntKind.wrap .i64 ((i : Int) + 1), i0, i1, i2, i3, i4, i5, i6, i7, p.op, p.name, p.form, p.oc, p.f3, p.f7, p.kind) ∧ K (isa_Encode.enc E (encL (xs.drop (i + 1)) (isa_Encode.v10 i0 i1 i2 i3 i4 i5 i6 i7 p.op p.name p.form p.oc p.f3 p.f7 p.kind))) σ)
      a n c n i i0 i1 i2 i3 i4 i5 i6 i7 p.op p.name p.form p.oc p.f3 p.f7 p.kind (xs[i]'(by omega)) (fun _ h => h) (fun s hs => ?_) (by simp [h.1]; omega) (fun Body hB => h.at1 (e := fun x => Value.int .i64 x) i rfl (by omega) hB) ?_
    · obtain ⟨rfl, hK⟩ := hs
      show isa_Encode.l5 K (r + 1) a n c n (IntKind.wrap .i64 ((i : Int) + 1)) _ _ _ _ _ _ _ _ _ _ _ _ _ _ _ σ
      rw [wrap_succ (by omega)]
      exact encode_loop hE h hn i0 i1 i2 i3 i4 i5 i6 i7 p r (i + 1) (by omega) hK
    · unfold isa_Encode.bv5 isa_Encode.v8 isa_Encode.v9
      unfold encL at hK
      cases h1 : decide ((xs[i]'(by omega)) < 0) <;> rw [h1] at hK
      · cases h2 : decide ((xs[i]'(by omega)) > 31) <;> rw [h2] at hK
        · exact ⟨rfl, hK⟩
        · exact hK
      · exact hK

theorem isa_Encode.pur (i0 i1 i2 i3 i4 : Int) (i5 : BitVec 32) (i6 i7 : Bool) (σ : Store) {E : Nat → Nat × Nat} (hE : Errs σ E) :
    Pur Pr F.isa_Encode [.agg #[.int .i64 i0, .int .i64 i1, .int .i64 i2, .int .i64 i3, .int .i64 i4, .int .u32 (BitVec.toNat i5 : Int), .bool i6, .bool i7]] σ (.tuple #[.int .u32 (BitVec.toNat (isa_Encode.v i0 i1 i2 i3 i4 i5 i6 i7).1 : Int), errO E (isa_Encode.v i0 i1 i2 i3 i4 i5 i6 i7).2]) := by
  refine Pur.le (isa_Encode.ok ?_)
  refine isa_find.pur i0 σ _ ⟨_, _, _, _, _, _, _, _, rfl, ?_⟩
  show (bif !(findP i0).2 then _ else _ : Prop)
  refine cond_i (fun h => ⟨_, hE.kind, ?_, Store.le_rfl⟩) (fun h => ?_)
  · have e : isa_Encode.v i0 i1 i2 i3 i4 i5 i6 i7 = (0#32, some 1) := by unfold isa_Encode.v; rw [h]; rfl
    rw [e]; rfl
  · intro b hb
    refine hopI ⟨4, ?_⟩
    have e : isa_Encode.v i0 i1 i2 i3 i4 i5 i6 i7 = encL [i1, i2, i3] (isa_Encode.v10 i0 i1 i2 i3 i4 i5 i6 i7 (findP i0).1.op (findP i0).1.name (findP i0).1.form (findP i0).1.oc (findP i0).1.f3 (findP i0).1.f7 (findP i0).1.kind) := by unfold isa_Encode.v; rw [h]; rfl
    exact encode_loop (c := 3) (hE.le (le_new _ hb)) (IsL.new iC_len [i1, i2, i3] rfl rfl) (by simp) i0 i1 i2 i3 i4 i5 i6 i7 (findP i0).1
      (K := fun v' σ' => v' = .tuple #[.int .u32 (BitVec.toNat (isa_Encode.v i0 i1 i2 i3 i4 i5 i6 i7).1 : Int), errO E (isa_Encode.v i0 i1 i2 i3 i4 i5 i6 i7).2] ∧ σ.le σ') 3 0 (by rfl) ⟨by rw [e]; rfl, le_new _ hb⟩
end Go.Ev
