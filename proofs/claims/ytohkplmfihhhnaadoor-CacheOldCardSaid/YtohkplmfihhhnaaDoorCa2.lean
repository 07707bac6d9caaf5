/-
  The cache: slices.Delete, slices.Concat, 'last'.
  Conditions: none.
-/
import Derived.Test.YtohkplmfihhhnaaDoorCa1
import Derived.Test.YtohkplmfihhhnaaDoorFk
set_option linter.unusedVariables false
set_option linter.unusedSimpArgs false
set_option maxRecDepth 100000
namespace Go.Ev
open Go

theorem splice_take {cs vs : List Value} {o q p : Nat} (h : o + q ≤ p) (hl : p + vs.length ≤ cs.length) : ((spliceL cs p vs).drop o).take q = (cs.drop o).take q := by
  rw [spliceL_eq _ _ _ hl, List.append_assoc, List.drop_append_of_le_length (by simp; omega), List.take_append_of_le_length (by simp; omega), List.drop_take, List.take_take, Nat.min_eq_left (by omega)]

theorem splice_mid {cs vs : List Value} {o q : Nat} (hl : o + q + vs.length ≤ cs.length) : ((spliceL cs (o + q) vs).drop o).take (q + vs.length) = (cs.drop o).take q ++ vs := by
  rw [spliceL_eq _ _ _ hl, List.append_assoc, List.drop_append_of_le_length (by simp; omega), List.drop_take, Nat.add_sub_cancel_left, ← List.append_assoc, List.take_append_of_le_length (by simp; omega), List.take_of_length_le (by simp; omega)]

theorem delete_spec {σ0 σ : Store} {a : Option Addr} {n c : Nat} {xs : List Ent} (h : Own Ent.cells 6 σ0 σ a n c xs) (hn : n ≤ 1000000) (k : Nat) (hk : k < xs.length) {K : Value → Store → Prop}
    (hK : ∀ σ', Own Ent.cells 6 σ0 σ' a (n - 1) c (xs.eraseIdx k) → Kept σ0 σ σ' → K (.slice a (n - 1) c) σ') :
    Spec Pr F.slices_Delete [.slice a n c, .int .i64 (k : Int), .int .i64 (IntKind.wrap .i64 ((k : Int) + 1))] σ K := by
  obtain ⟨h1, h2, h3⟩ := h
  obtain ⟨b, o, ⟨ty, cs, fz⟩, rfl, hs0, hb, hf, hl, hx⟩ := h3 (by omega)
  obtain rfl : fz = (0, 0) := hf
  dsimp only at hl hx
  have he := List.eraseIdx_eq_take_drop_succ xs k
  have hlen : (xs.eraseIdx k).length = n - 1 := by rw [List.length_eraseIdx]; split <;> omega
  rw [wrap_succ (by omega)]
  have hs : slAddr (some (⟨b, o, none⟩ : Addr)) 0 c 6 = some ⟨b, o, none⟩ := by unfold slAddr; split <;> rfl
  have fin : ∀ (n' : Nat) (σ1 : Store) (cs1 : List Value), n' = n - 1 → σ1 b = some ⟨ty, cs1, (0, 0)⟩ → (∀ i, i ≠ b → σ1 i = σ i) → cs1.length = cs.length → (cs1.drop o).take ((n - 1) * 6) = (xs.eraseIdx k).flatMap Ent.cells →
      Req (okIdx ((n : Nat) : Int) c) (Req (okIdx ((n' : Nat) : Int) (((n : Nat) : Int).toNat)) (
        PutK σ1 (slAddr (some ⟨b, o, none⟩) (((n' : Nat) : Int).toNat) c 6) (((((n : Nat) : Int).toNat) - (((n' : Nat) : Int).toNat)) * 6) (zeroN [.int .i64 0, .int .i64 0, .int .u32 0, .int .u32 0, .int .u32 0, .int .u32 0] ((((n : Nat) : Int).toNat) - (((n' : Nat) : Int).toNat))) fun σ_1 =>
          K (.slice (some ⟨b, o, none⟩) n' c) σ_1)) := by
    rintro n' σ1 cs1 rfl h4 h5 h6 h7
    refine rq (by simp [okIdx] <;> omega) (rq (by simp [okIdx] <;> omega) ⟨fun h0 => ?_, fun _ => ?_⟩)
    · simp at h0; omega
    · have ea : slAddr (some (⟨b, o, none⟩ : Addr)) (((n - 1 : Nat) : Int).toNat) c 6 = some ⟨b, o + (n - 1) * 6, none⟩ := by
        rw [Int.toNat_natCast]; unfold slAddr; rw [if_neg (by omega)]; simp [Addr.add]
      rw [ea]
      have e1 : (((n : Nat) : Int).toNat) - (((n - 1 : Nat) : Int).toNat) = 1 := by simp; omega
      rw [e1]
      refine ⟨rfl, rfl, _, h4, by dsimp only; omega, rfl, hK _ ⟨hlen.symm, by omega, fun _ => ⟨b, o, _, rfl, hs0, set_eq, rfl, ?_, ?_⟩⟩ ⟨fun i hi => ?_, fun i hi => ?_⟩⟩
      · dsimp only; rw [spliceL_length]; omega
      · dsimp only; rw [splice_take (by omega) (by show _ + 6 ≤ _; omega)]; exact h7
      · rw [set_diff (by rintro rfl; exact hi hs0)]; exact h5 i (by rintro rfl; exact hi hs0)
      · by_cases e : i = b
        · subst e; rw [set_eq]; simp
        · rw [set_diff e, h5 i e]; exact hi
  refine slices_Delete.ok (rq (by simp [okIdx] <;> omega) (rq (by simp [okIdx] <;> omega) (rq (by simp [okIdx] <;> omega) (cond_f (by simp; omega) (rq (by simp [okIdx] <;> omega) (rq (by simp [okIdx] <;> omega) ⟨(xs.drop (k + 1)).flatMap Ent.cells, ?_, ?_⟩))))))
  · show srcCells σ (slAddr (some ⟨b, o, none⟩) (k + 1) c 6) ((n - (k + 1)) * 6) = _
    unfold srcCells
    split
    · rw [List.drop_of_length_le (by omega)]; rfl
    · have ea : slAddr (some (⟨b, o, none⟩ : Addr)) (k + 1) c 6 = some ⟨b, o + (k + 1) * 6, none⟩ := by unfold slAddr; rw [if_neg (by omega)]; simp [Addr.add]
      rw [ea]
      refine rds hb (by dsimp only; omega) ?_
      dsimp only
      rw [← flatMap_drop entLen, ← hx, List.drop_take, List.drop_drop]
      congr 1; omega
  · rw [hs]
    refine ⟨fun h0 => ⟨by show k ≤ c; omega, ?_⟩, fun h0 hle => ⟨b, o, _, rfl, hb, by show o + (k + (n - (k + 1))) * 6 ≤ cs.length; omega, rfl, ?_, ?_, ?_⟩, fun h0 hlt => ?_⟩
    · have hkn : n = k + 1 := by
        have : n - (k + 1) = 0 := h0
        omega
      refine fin k σ cs (by omega) hb (fun _ _ => rfl) rfl ?_
      rw [he, List.drop_of_length_le (show xs.length ≤ k + 1 by omega), List.append_nil, ← flatMap_take entLen, ← hx, List.take_take, Nat.min_eq_left (by omega)]
      congr 1; omega
    · show _ = (n - (k + 1)) * 6
      rw [flatMap_length entLen, List.length_drop]; omega
    · rw [List.all_eq_true]; intro v hv; rw [List.mem_flatMap] at hv; obtain ⟨x, _, hx⟩ := hv
      exact List.all_eq_true.mp (entOne x) v hx
    · have hvl : ((xs.drop (k + 1)).flatMap Ent.cells).length = (n - 1 - k) * 6 := by rw [flatMap_length entLen, List.length_drop]; congr 1; omega
      refine fin _ _ _ (by show k + (n - (k + 1)) = n - 1; omega) set_eq (fun i hi => set_diff hi) (by rw [spliceL_length]) ?_
      show ((spliceL cs (o + k * 6) ((xs.drop (k + 1)).flatMap Ent.cells)).drop o).take ((n - 1) * 6) = _
      rw [show (n - 1) * 6 = k * 6 + ((xs.drop (k + 1)).flatMap Ent.cells).length by rw [hvl, ← Nat.add_mul]; congr 1; omega, splice_mid (by rw [hvl, Nat.add_assoc, ← Nat.add_mul]; have : (k + (n - 1 - k)) * 6 ≤ c * 6 := Nat.mul_le_mul_right 6 (by omega); omega), he, List.flatMap_append]
      congr 1
      rw [← flatMap_take entLen, ← hx, List.take_take, Nat.min_eq_left (by omega)]
    · have : c < k + (n - (k + 1)) := hlt
      omega

/-! ### slices.Concat -/
abbrev SetH := (Option Addr × Nat × Nat) × List Ent
abbrev hdr (q : SetH) : Value := .slice q.1.1 q.1.2.1 q.1.2.2
abbrev hC (q : SetH) : List Value := [hdr q]
def tot : List SetH → Nat
  | [] => 0
  | q :: l => q.2.length + tot l

theorem con3 {σ : Store} {a : Option Addr} {n c : Nat} {ps : List SetH} (h : IsL hC 1 σ a n ps) (hp : ∀ q ∈ ps, IsL Ent.cells 6 σ q.1.1 q.1.2.1 q.2) (hn : n ≤ 1000000) {K : Value → Store → Prop} (r : Nat) :
    ∀ (i s : Nat), i + r = ps.length → s + tot (ps.drop i) ≤ 1000000 → slices_Concat.j9 K a n c ((s + tot (ps.drop i) : Nat) : Int) σ → slices_Concat.l3 K (r + 1) a n c (s : Int) a n c ((n : Nat) : Int) (i : Int) σ := by
  induction r with
  | zero =>
    intro i s hi ht hj
    rw [List.drop_of_length_le (by omega)] at hj
    exact cond_f (by simp [h.1]; omega) (hopI hj)
  | succ r ih =>
    intro i s hi ht hj
    have hlt : i < ps.length := by omega
    rw [List.drop_eq_getElem_cons hlt] at hj ht
    have hq := hp _ (List.getElem_mem hlt)
    have hw : IntKind.wrap .i64 ((s : Int) + ((ps[i].1.2.1 : Nat) : Int)) = ((s + ps[i].2.length : Nat) : Int) := by
      rw [hq.1]; unfold tot at ht; rw [wrap_id (by omega) (by omega)]; omega
    refine cond_t (by simp [h.1]; omega) (h.at1 (e := hdr) i rfl hlt fun B O hc => ⟨_, _, _, hc, ?_⟩)
    rw [hw]
    refine cond_f (by simp; omega) (hopI ?_)
    show slices_Concat.l3 K (r + 1) a n c _ a n c _ _ σ
    rw [wrap_succ (by have := h.1; omega)]
    unfold tot at hj ht
    rw [← Nat.add_assoc] at hj ht
    exact ih (i + 1) _ (by omega) ht hj

theorem con11 {σ : Store} {a : Option Addr} {n c : Nat} {ps : List SetH} (h : IsL hC 1 σ a n ps) (hp : ∀ q ∈ ps, IsL Ent.cells 6 σ q.1.1 q.1.2.1 q.2) (hn : n ≤ 1000000) {K : Value → Store → Prop}
    (hK : ∀ a' n' c' σ', Own Ent.cells 6 σ σ' a' n' c' (ps.flatMap (·.2)) → σ.le σ' → K (.slice a' n' c') σ') :
    ∀ (r i A N C σ'), i + r = ps.length → N + tot (ps.drop i) ≤ 1000000 → Own Ent.cells 6 σ σ' A N C ((ps.take i).flatMap (·.2)) → σ.le σ' → slices_Concat.l11 K (r + 1) A N C a n c ((n : Nat) : Int) (i : Nat) σ'
  | 0, i, A, N, C, σ', hi, ht, ho, hl => by
    rw [List.take_of_length_le (by omega)] at ho
    exact cond_f (by simp [h.1]; omega) (hopI (hK _ _ _ _ ho hl))
  | r + 1, i, A, N, C, σ', hi, ht, ho, hl => by
    have hlt : i < ps.length := by omega
    rw [List.drop_eq_getElem_cons hlt] at ht
    unfold tot at ht
    have hq := (hp _ (List.getElem_mem hlt)).mono hl
    refine cond_t (by simp [h.1]; omega) ((h.mono hl).at1 (e := hdr) i rfl hlt fun B O hc => ⟨_, _, _, hc, _, hq.src, ?_⟩)
    refine Own.app (enc := Ent.cells) entLen entOne ho (fun b hb => ?_) rfl rfl hq.1 (by rw [hq.1]; omega) (by rw [hq.1]; omega) fun a' n' c' σ'' ho' hk' => hopI ?_
    · obtain ⟨k, hk⟩ := Option.ne_none_iff_exists'.1 hb
      rw [hl b k hk]; simp
    · show slices_Concat.l11 K (r + 1) a' n' c' a n c _ _ σ''
      rw [wrap_succ (by have := h.1; omega)]
      refine con11 h hp hn hK r (i + 1) a' n' c' σ'' (by omega) ?_ ?_ (fun b k hb => by rw [hk'.same b (by rw [hb]; simp)]; exact hl b k hb)
      · have := ho'.1
        rw [List.length_append, ← ho.1] at this
        omega
      · rw [List.take_succ_eq_append_getElem hlt, List.flatMap_append]
        simpa using ho'

theorem concat_spec {σ : Store} {a : Option Addr} {n c : Nat} {ps : List SetH} (h : IsL hC 1 σ a n ps) (hp : ∀ q ∈ ps, IsL Ent.cells 6 σ q.1.1 q.1.2.1 q.2) (hn : n ≤ 1000000) (ht : tot ps ≤ 1000000) {K : Value → Store → Prop}
    (hK : ∀ a' n' c' σ', Own Ent.cells 6 σ σ' a' n' c' (ps.flatMap (·.2)) → σ.le σ' → K (.slice a' n' c') σ') : Spec Pr F.slices_Concat [.slice a n c] σ K := by
  refine slices_Concat.ok (hopI ⟨_, con3 h hp hn ps.length 0 0 (by omega) (by simpa using ht) ?_⟩)
  unfold slices_Concat.j9
  refine grow_spec _ (by simpa using ht) fun a' c' σ' ho hl => ⟨_, _, _, rfl, hopI ⟨ps.length + 1, ?_⟩⟩
  have hle : ∀ q ∈ ps, IsL Ent.cells 6 σ' q.1.1 q.1.2.1 q.2 := fun q hq => (hp q hq).mono hl
  exact con11 h hp hn hK ps.length 0 a' 0 c' σ' (by omega) (by simpa using ht) ho hl
end Go.Ev
