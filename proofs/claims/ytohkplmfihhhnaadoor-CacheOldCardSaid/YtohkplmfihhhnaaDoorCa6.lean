/-
  Numbers in order, each once: corralref.Sorted; corralref.SameLine; the chapter's examples.
  Conditions: none.
-/
import Derived.Test.YtohkplmfihhhnaaDoorCa5
set_option linter.unusedVariables false
set_option linter.unusedSimpArgs false
set_option maxRecDepth 100000
namespace Go.Ev
open Go

theorem iLen (x : Int) : (iC x).length = 1 := rfl
theorem iOne (x : Int) : (iC x).all one = true := rfl

theorem insU_len (x : Int) : ∀ l : List Int, (insU x l).length ≤ l.length + 1
  | [] => by simp [insU]
  | y :: l => by
    unfold insU
    cases decide (y < x)
    · cases (y == x) <;> simp
    · have := insU_len x l
      simp; omega

theorem zero1_len (z : Value) : ∀ m : Nat, (zeroN [z] m).length = m
  | 0 => rfl
  | m + 1 => by
    have := zero1_len z m
    unfold zeroN at *
    rw [List.replicate_succ, List.flatten_cons, List.length_append, this]; simp; omega

theorem srt_j9 {σ0 σ : Store} {a : Option Addr} {n c : Nat} {xs : List Int} {A : Option Addr} {N C : Nat} {out : List Int} (hx : IsL iC 1 σ0 a n xs) (ho : Own iC 1 σ0 σ A N C out) (hl : σ0.le σ) {K : Value → Store → Prop} {rr3 : corralref_Sorted.R3}
    (i : Nat) (hi : i < xs.length) (k : Nat) (hk : k ≤ out.length) (hN : out.length ≤ 100000) (hn : xs.length ≤ 100000)
    (hr : ∀ A' N' C' σ', Own iC 1 σ0 σ' A' N' C' (out.take k ++ xs[i] :: out.drop k) → σ0.le σ' → rr3 a n c A' N' C' ((i + 1 : Nat) : Int) σ') : corralref_Sorted.j9 K rr3 a n c A N C (i : Int) (k : Int) σ := by
  have h1 := ho.1
  have h2 := ho.2.1
  unfold corralref_Sorted.j9
  rw [wrap_succ (by omega)]
  refine rq (by simp [okIdx]; omega) ⟨by omega, by omega, by omega, by omega, fun b hb => ?_⟩
  have hl1 := le_new ⟨3, zeroN [.int .i64 0] (((N + 1 : Nat) : Int).toNat), (0, 0)⟩ hb
  have hI := ho.isL.mono hl1
  refine ⟨_, (hI.takeI k C (by omega)).src, ?_⟩
  have hnew : Own iC 1 σ (σ.set b ⟨3, zeroN [.int .i64 0] (((N + 1 : Nat) : Int).toNat), (0, 0)⟩) (some ⟨b, 0, none⟩) 0 (N + 1) [] :=
    ⟨rfl, by omega, fun _ => ⟨b, 0, _, rfl, hb, set_eq, rfl, by dsimp only; rw [zero1_len, Int.toNat_natCast]; omega, by simp⟩⟩
  refine Own.app (enc := iC) iLen iOne hnew (some_ne hl1) rfl rfl (by rw [List.length_take]; show k = _; omega) (by show (2 * (0 + k) + 768) * 8 ≤ _; omega) (by show 0 + k ≤ _; omega) fun A1 N1 C1 σ1 ho1 hk1 => ?_
  have hs1 := hk1.le hl1
  have e1 := ho1.1
  rw [List.nil_append, List.length_take] at e1
  refine (hx.mono (fun b k h => hs1 _ _ (hl _ _ h))).at1 (e := fun x => Value.int .i64 x) i rfl hi fun B O hc => ⟨_, hc, ?_⟩
  refine Own.app (enc := iC) iLen iOne ho1 (some_ne hs1) rfl (ys := [xs[i]]) rfl rfl (by simp; omega) (by simp; omega) fun A2 N2 C2 σ2 ho2 hk2 => ?_
  have hs2 := hk2.le hs1
  have e2 := ho2.1
  rw [List.nil_append, List.length_append, List.length_take, List.length_singleton] at e2
  refine rq (by simp [okIdx]; omega) ⟨_, ((ho.isL.mono hs2).dropI k C (by omega) h2).src, ?_⟩
  refine Own.app (enc := iC) iLen iOne ho2 (some_ne hs2) rfl rfl (by rw [List.length_drop]; show N - k = _; omega) (by show (2 * (N2 + (N - k)) + 768) * 8 ≤ _; omega) (by show N2 + (N - k) ≤ _; omega) fun A3 N3 C3 σ3 ho3 hk3 => hopI (hopI ?_)
  rw [wrap_succ (by omega)]
  refine hr _ _ _ _ ?_ (fun b k h => hk3.le hs2 _ _ (hl _ _ h))
  have := ho3.base (some_ne hl)
  simpa using this

theorem srt6 {σ0 σ : Store} {a : Option Addr} {n c : Nat} {xs : List Int} {A : Option Addr} {N C : Nat} {out : List Int} (hx : IsL iC 1 σ0 a n xs) (ho : Own iC 1 σ0 σ A N C out) (hl : σ0.le σ) {K : Value → Store → Prop} {rr3 : corralref_Sorted.R3}
    (i : Nat) (hi : i < xs.length) (hN : out.length ≤ 100000) (hn : xs.length ≤ 100000)
    (hr : ∀ A' N' C' σ', Own iC 1 σ0 σ' A' N' C' (insU xs[i] out) → σ0.le σ' → rr3 a n c A' N' C' ((i + 1 : Nat) : Int) σ') (r : Nat) :
    ∀ k : Nat, k + r = out.length → (∀ j (h : j < k) (h' : j < out.length), out[j] < xs[i]) → corralref_Sorted.l6 K rr3 (r + 1) a n c A N C (i : Int) (k : Int) σ := by
  have h1 := ho.1
  have hxs := hx.mono hl
  have j8 : ∀ k : Nat, k ≤ out.length → (∀ j (h : j < k) (h' : j < out.length), out[j] < xs[i]) → (k = out.length ∨ ∃ h : k < out.length, ¬ out[k] < xs[i]) → corralref_Sorted.j8 K rr3 a n c A N C (i : Int) (k : Int) σ := by
    intro k hk hlt hge
    refine cond_i (fun e => ?_) (fun e => hopI (srt_j9 hx ho hl i hi k hk hN hn fun A' N' C' σ' ho' hl' => hr _ _ _ _ ?_ hl'))
    · have hkn : k < out.length := by simp at e; omega
      refine ho.isL.at1 (e := fun x => Value.int .i64 x) k rfl hkn fun B O hc => ⟨_, hc, hxs.at1 (e := fun x => Value.int .i64 x) i rfl hi fun B O hc => ⟨_, hc, cond_i (fun e2 => hopI (hopI ?_)) (fun e2 => hopI (srt_j9 hx ho hl i hi k hk hN hn fun A' N' C' σ' ho' hl' => hr _ _ _ _ ?_ hl'))⟩⟩
      · rw [wrap_succ (by omega)]
        exact hr _ _ _ _ (by rw [insU_mem' _ _ k hkn hlt (by simpa using e2)]; exact ho) hl
      · rw [insU_split _ _ k hk hlt (.inr ⟨hkn, ?_, by simpa using e2⟩)]
        · exact ho'
        · rcases hge with h | ⟨_, h⟩
          · omega
          · exact h
    · have hkn : k = out.length := by simp at e; omega
      rw [insU_split _ _ k hk hlt (.inl hkn)]; exact ho'
  induction r with
  | zero =>
    intro k hk hlt
    refine cond_f (by simp; omega) (hopI (j8 k (by omega) hlt (.inl (by omega))))
  | succ r ih =>
    intro k hk hlt
    have hkn : k < out.length := by omega
    refine cond_t (by simp; omega) (ho.isL.at1 (e := fun x => Value.int .i64 x) k rfl hkn fun B O hc => ⟨_, hc, hxs.at1 (e := fun x => Value.int .i64 x) i rfl hi fun B O hc => ⟨_, hc, cond_i (fun e => hopI ?_) (fun e => hopI (j8 k (by omega) hlt (.inr ⟨hkn, by simpa using e⟩)))⟩⟩)
    show corralref_Sorted.l6 K rr3 (r + 1) a n c A N C _ _ σ
    rw [wrap_succ (by omega)]
    refine ih (k + 1) (by omega) fun j h h' => ?_
    rcases Nat.lt_or_ge j k with h2 | h2
    · exact hlt j h2 h'
    · have : j = k := by omega
      subst this; simpa using e

theorem sorted_spec {σ0 : Store} {a : Option Addr} {n c : Nat} {xs : List Int} (hx : IsL iC 1 σ0 a n xs) (hn : xs.length ≤ 100000) {K : Value → Store → Prop}
    (hK : ∀ A N C σ', Own iC 1 σ0 σ' A N C (sortU xs) → σ0.le σ' → K (.slice A N C) σ') : Spec Pr F.corralref_Sorted [.slice a n c] σ0 K := by
  have hxn := hx.1
  have loop : ∀ (r i : Nat) (A N C σ out), i + r = xs.length → Own iC 1 σ0 σ A N C out → σ0.le σ → out.length ≤ i → out = sortU (xs.take i) → corralref_Sorted.l3 K (r + 1) a n c A N C (i : Int) σ := by
    intro r
    induction r with
    | zero =>
      intro i A N C σ out hi ho hl hlen he
      rw [List.take_of_length_le (by omega)] at he
      subst he
      exact cond_f (by simp; omega) (hopI (hK _ _ _ _ ho hl))
    | succ r ih =>
      intro i A N C σ out hi ho hl hlen he
      refine cond_t (by simp; omega) (hopI ⟨out.length + 1, srt6 hx ho hl i (by omega) (by omega) hn (fun A' N' C' σ' ho' hl' => ?_) out.length 0 (by omega) (fun j h => absurd h (by omega))⟩)
      refine ih (i + 1) A' N' C' σ' _ (by omega) ho' hl' (by have := insU_len (xs[i]'(by omega)) out; omega) ?_
      rw [List.take_succ_eq_append_getElem (by omega), sortU, List.foldl_append, ← sortU, ← he]; rfl
  exact corralref_Sorted.ok (hopI ⟨_, loop xs.length 0 none 0 0 σ0 [] (by omega) (Own.nil _ _ _ _) Store.le_rfl (by simp) rfl⟩)

theorem sameLine_pur (σ : Store) (a b c d a' b' c' d' : Int) : Pur Pr F.corralref_SameLine [.agg #[.int .u32 a, .int .u32 b, .int .u32 c, .int .u32 d], .agg #[.int .u32 a', .int .u32 b', .int .u32 c', .int .u32 d']] σ (.bool (a == a' && b == b' && c == c' && d == d')) := fun K hK => by
  refine corralref_SameLine.ok ?_
  unfold corralref_SameLine.m
  cases h1 : (a == a')
  · rw [h1] at hK; exact hK
  · cases h2 : (b == b')
    · rw [h1, h2] at hK; exact hK
    · cases h3 : (c == c')
      · rw [h1, h2, h3] at hK; exact hK
      · rw [h1, h2, h3] at hK; exact hK

/-! ### The chapter's examples -/
theorem ifaceNil_err {E : Nat → Nat × Nat} (k : _root_.Fin 11) {K : Bool → Prop} (h : K false) : IfaceNil (errO E (some k)) K := h

theorem Errs.md {σ σ' : Store} {E : Nat → Nat × Nat} {σ0 : Store} (h : Errs σ0 E) (hl : σ0.le σ') : Errs σ' E := h.le hl

theorem le_md {σ0 σ σ' : Store} {sb : Nat} (hl : σ0.le σ) (h0 : σ0 sb = none) (hm : Md sb σ σ') : σ0.le σ' := fun b k hb => hm b k (by rintro rfl; rw [h0] at hb; cases hb) (hl b k hb)

theorem first_spec {σ : Store} {E : Nat → Nat × Nat} (hE : Errs σ E) {K : Value → Store → Prop} (hK : K (.bool true) σ) : Spec Pr F.corrallaw17_first [] σ K := by
  refine Spec.shrink (corrallaw17_first.ok (new_spec 2 1 (by decide) (by decide) (by decide) (by decide) (by decide) fun p sb σ1 hsb C1 l1 => ⟨_, _, rfl, hopI ?_⟩))
  refine put_spec (hE.le l1) C1 ⟨0, 1, 0, 0, 0, 0⟩ (fun k hk => ?_) fun _ ps2 σ2 C2 e2 m2 => ⟨_, rfl, ?_⟩
  · exact nomatch (hk.symm.trans (by decide) : some k = none)
  have l2 := le_md l1 hsb m2.md
  refine put_spec (hE.le l2) C2 ⟨1, 1, 0, 0, 0, 0⟩ (fun k hk => ?_) fun _ ps3 σ3 C3 e3 m3 => ⟨_, rfl, ?_⟩
  · rw [e2] at hk; exact nomatch (hk.symm.trans (by decide) : some k = none)
  have l3 := le_md l2 hsb m3.md
  rw [e2] at e3
  refine put_spec (hE.le l3) C3 ⟨2, 1, 0, 0, 0, 0⟩ (fun k hk => ⟨_, rfl, ?_⟩) fun hn => ?_
  · rw [e3] at hk
    have : k = 6 := by
      have h6 : putRes (turnM (turnM (sets (List.replicate (2 : Int).toNat ((none, 0, 0), []))) ⟨0, 1, 0, 0, 0, 0⟩) ⟨1, 1, 0, 0, 0, 0⟩) 1 ⟨2, 1, 0, 0, 0, 0⟩ = some 6 := by decide
      rw [h6] at hk; exact (Option.some.inj hk).symm
    subst this
    refine victim_pur C3 2 (na := none) (nn := 0) (nc := 0) (no := []) ⟨rfl, fun h => absurd rfl h⟩ (by simp) _ ?_
    have hv : victimM (sets ps3) 2 [] = some ⟨0, 1, 0, 0, 0, 0⟩ := by rw [e3]; decide
    rw [hv]
    refine ⟨_, _, _, _, _, _, _, rfl, ?_⟩
    exact corralsee_Is.pur (some 6) 107 σ3 (hE.le l3) _ ⟨_, rfl, σ, l3, hK⟩
  · rw [e3] at hn; exact absurd hn (by decide)
end Go.Ev
