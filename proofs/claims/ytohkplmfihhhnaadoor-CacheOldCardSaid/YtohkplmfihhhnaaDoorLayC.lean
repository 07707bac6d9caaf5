/-
  What the laid errors of a row come to in the heap: the errors of package api lie there.
  Conditions: none.
-/
import Derived.Test.YtohkplmfihhhnaaDoorErC
import Derived.Test.YtohkplmfihhhnaaDoorEv13
import Derived.LaidLaws
import Derived.FnData
set_option linter.unusedVariables false
set_option maxRecDepth 100000
namespace Go.Ev
open Go Go.RowKit

def errD (t : List UInt8) : DataW Unit := .iface "*errors.errorString" (.ptr (.agg [.lit (.string t)]))

theorem row_errorString (u : TypeId) (h : Pr.typeName? 3 u = some "*errors.errorString") : u = Ty.P_errors_errorString := by
  have star : "*" ++ "errors.errorString" = "*errors.errorString" := by decide
  exact typeName_ptr_named (nm := "errors.errorString") (by rw [star]; kernel_rfl) (by kernel_rfl) (by decide) u (by rw [star]; exact h)

def theField (o : Option TypeDesc) (d : Field) : Field := match o with
  | some (.struct fs) => fs[0]?.getD d
  | _ => d

theorem es_struct (d : Field) : Pr.underlying Ty.errors_errorString = some (.struct #[theField (Pr.underlying Ty.errors_errorString) d]) ∧ (theField (Pr.underlying Ty.errors_errorString) d).type = Ty.string ∧ (theField (Pr.underlying Ty.errors_errorString) d).offset = 0 :=
  ⟨by kernel_rfl, by kernel_rfl, by kernel_rfl⟩

theorem es_iface : ∃ ms, Pr.underlying Ty.error = some (.interface ms) := by
  cases h : Pr.underlying Ty.error with
  | none => have : (Pr.underlying Ty.error).isSome = true := by kernel_rfl
            rw [h] at this; cases this
  | some d =>
    cases d with
    | interface ms => exact ⟨ms, rfl⟩
    | _ =>
      have : (match Pr.underlying Ty.error with | some (.interface _) => true | _ => false) = true := by kernel_rfl
      rw [h] at this; cases this

theorem laid_errs {W : World} {ps0 : List MemPlace} (hr : ∀ b off, MemPlace.cell b off ∈ ps0 → (∃ c t, W.heap[b]? = some (.cells c t (0, 0))) ∧ ∀ u v, W.cell? ⟨b, off, none⟩ = some (.iface u v) → Value.okWide Pr W .any 0 u v) :
    ∀ (L : List (String × List UInt8)) (ps : List MemPlace), DataW.LaidVars Pr W (L.map fun x => (x.1, errD x.2)) ps → (∀ p ∈ ps, p ∈ ps0) → (∀ x ∈ L, ∀ g, Pr.globalNamed x.1 = some g → (Pr.globals[g]?).map (·.type) = some Ty.error) →
      ∃ ads : List (Nat × Nat), ads.length = L.length ∧ (∀ (i : Nat) (x : String × List UInt8) (a : Nat × Nat), L[i]? = some x → ads[i]? = some a → ∃ g, Pr.globalNamed x.1 = some g ∧ W.cell? ⟨g, 0, none⟩ = some (errV a)) ∧ (ads.map fun a => MemPlace.cell a.1 a.2).Sublist ps
  | [], ps, h, _, _ => ⟨[], rfl, by simp, by simp⟩
  | x :: L, ps, h, hp, ht => by
    obtain ⟨g, t, cs, f, p, q, hg, htt, hv, hd, hrest, rfl⟩ := h
    obtain ⟨ads, hl, hi, hs⟩ := laid_errs hr L q hrest (fun p hq => hp p (by simp [hq])) (fun y hy => ht y (by simp [hy]))
    have := ht x (by simp) g hg
    rw [htt] at this
    obtain rfl := Option.some.inj this
    obtain ⟨l⟩ := cs
    have ok : ∀ u v, l = [.iface u v] → Value.okWide Pr W .any 0 u v := fun u v e => by
      subst e
      exact (hr g 0 (hp _ (by simp [MemPlace.row]))).2 u v (by simpa using World.var?_cell hg hv 0)
    obtain ⟨ms, hms⟩ := es_iface
    have es := es_struct { name := "", type := 0, offset := 0, embedded := false, tag := "", pkgPath := "", byteOffset := 0 }
    obtain ⟨a, s, rfl, hc, _, _, rfl⟩ := errorString_of_trod (ti := Ty.error) (tp := Ty.P_errors_errorString) (te := Ty.errors_errorString) (ts := Ty.string) hms row_errorString (by kernel_rfl) es.1 es.2.1 es.2.2 (by kernel_rfl) (by kernel_rfl) (by kernel_rfl) hd ok
    have hsp := World.cell?_spot hc
    obtain ⟨ab, ao, asp⟩ := a
    have hsp : asp = none := hsp
    subst hsp
    refine ⟨(ab, ao) :: ads, by simp [hl], fun i y b hy hb => ?_, ?_⟩
    · cases i with
      | zero =>
        simp at hy hb
        subst hy hb
        exact ⟨g, hg, by simpa using World.var?_cell hg hv 0⟩
      | succ i => exact hi i y b (by simpa using hy) (by simpa using hb)
    · rw [List.map_cons]
      have h1 : (MemPlace.cell ab ao :: ads.map fun a => MemPlace.cell a.1 a.2).Sublist (MemPlace.row ⟨ab, ao, none⟩ 1 ++ q) := by
        simpa [MemPlace.row] using hs
      rw [List.append_assoc]
      exact h1.trans (List.sublist_append_right _ _)

def errTexts : List (String × List UInt8) := [
  ("corral/api.ErrMany", [116, 111, 111, 32, 109, 97, 110, 121]),
  ("corral/api.ErrKind", [110, 111, 32, 115, 117, 99, 104, 32, 107, 105, 110, 100]),
  ("corral/api.ErrPlace", [110, 111, 32, 115, 117, 99, 104, 32, 112, 108, 97, 99, 101]),
  ("corral/api.ErrShape", [110, 111, 116, 32, 116, 104, 101, 32, 115, 104, 97, 112, 101, 32, 116, 104, 97, 116, 32, 105, 116, 32, 104, 97, 115, 32, 116, 111, 32, 104, 97, 118, 101]),
  ("corral/api.ErrWord", [110, 111, 32, 115, 117, 99, 104, 32, 119, 111, 114, 100]),
  ("corral/api.ErrRange", [97, 32, 110, 117, 109, 98, 101, 114, 32, 111, 117, 116, 32, 111, 102, 32, 105, 116, 115, 32, 114, 97, 110, 103, 101]),
  ("corral/api.ErrFull", [110, 111, 32, 114, 111, 111, 109]),
  ("corral/api.ErrNone", [116, 104, 101, 114, 101, 32, 105, 115, 32, 110, 111, 110, 101]),
  ("corral/api.ErrTrace", [110, 111, 32, 114, 117, 110, 32, 111, 102, 32, 116, 104, 101, 32, 105, 110, 115, 116, 114, 117, 99, 116, 105, 111, 110, 115]),
  ("corral/api.ErrOrder", [97, 110, 32, 111, 114, 100, 101, 114, 32, 116, 104, 97, 116, 32, 109, 97, 121, 32, 110, 111, 116, 32, 98, 101]),
  ("corral/api.ErrValue", [97, 32, 118, 97, 108, 117, 101, 32, 116, 104, 97, 116, 32, 119, 97, 115, 32, 110, 111, 116, 32, 116, 104, 101, 114, 101])]

def laidAll : List (String × DataW Unit) := errTexts.map fun x => (x.1, errD x.2)

theorem cellAt_full {W : World} {g o : Nat} {v : Value} (h : W.cell? ⟨g, o, none⟩ = some v) : cellAt (full W) g o = some v := by
  obtain ⟨k, hk, _, hc⟩ := full_cell h
  exact rd hk hc

theorem errs_of_laid {W : World} (h : laidMet Pr laidAll W) : ∃ E, Errs (full W) E := by
  obtain ⟨ps, hl, hnd, hr⟩ := h
  have hty : ∀ x ∈ errTexts, ∀ g, Pr.globalNamed x.1 = some g → (Pr.globals[g]?).map (·.type) = some Ty.error := by
    have key : (errTexts.map fun x => (Pr.globalNamed x.1).bind fun g => (Pr.globals[g]?).map (·.type)) = List.replicate 11 (some Ty.error) := by kernel_rfl
    intro x hx g hg
    have : (Pr.globalNamed x.1).bind (fun g => (Pr.globals[g]?).map (·.type)) ∈ List.replicate 11 (some Ty.error) := by
      rw [← key]; exact List.mem_map.2 ⟨x, hx, rfl⟩
    rw [hg] at this
    exact (List.mem_replicate.1 this).2
  obtain ⟨ads, hlen, hi, hs⟩ := laid_errs hr errTexts ps hl (fun _ h => h) hty
  have hl11 : ads.length = 11 := hlen
  have hndm := hnd.sublist hs
  have mem : ∀ (i : Nat) (h : i < 11), MemPlace.cell (ads.getD i (0, 0)).1 (ads.getD i (0, 0)).2 ∈ ps := fun i h => by
    have e : ads.getD i (0, 0) = ads[i]'(by omega) := by simp [List.getD, show i < ads.length by omega]
    rw [e]
    exact hs.subset (List.mem_map.2 ⟨ads[i]'(by omega), List.getElem_mem _, rfl⟩)
  have fact : ∀ (i : Nat) (n : String) (t : List UInt8) (g : Nat), errTexts[i]? = some (n, t) → Pr.globalNamed n = some g → cellAt (full W) g 0 = some (errV (ads.getD i (0, 0))) := fun i n t g h1 h2 => by
    have hlt : i < ads.length := by
      have := List.getElem?_eq_some_iff.1 h1
      obtain ⟨h, _⟩ := this
      rw [hlen]; exact h
    have e : ads.getD i (0, 0) = ads[i] := by simp [List.getD, hlt]
    obtain ⟨g', hg', hc⟩ := hi i (n, t) ads[i] h1 (List.getElem?_eq_getElem hlt)
    rw [h2] at hg'
    obtain rfl := Option.some.inj hg'
    rw [e]; exact cellAt_full hc
  refine ⟨fun i => ads.getD i (0, 0), ⟨fact 0 _ _ _ rfl (by kernel_rfl), fact 1 _ _ _ rfl (by kernel_rfl), fact 2 _ _ _ rfl (by kernel_rfl), fact 3 _ _ _ rfl (by kernel_rfl), fact 4 _ _ _ rfl (by kernel_rfl), fact 5 _ _ _ rfl (by kernel_rfl), fact 6 _ _ _ rfl (by kernel_rfl), fact 7 _ _ _ rfl (by kernel_rfl), fact 8 _ _ _ rfl (by kernel_rfl), fact 9 _ _ _ rfl (by kernel_rfl), fact 10 _ _ _ rfl (by kernel_rfl), fun k hk => ?_, fun i j hi hj hij he => ?_⟩⟩
  · obtain ⟨⟨c, t, hb⟩, _⟩ := hr _ _ (mem k hk)
    refine ⟨⟨t, c.toList, (0, 0)⟩, ?_, rfl⟩
    show full W _ = _
    unfold full
    rw [hb]
  · have e : ∀ (k : Nat) (h : k < ads.length), ads.getD k (0, 0) = ads[k] := fun k h => by simp [List.getD, h]
    have he : ads.getD i (0, 0) = ads.getD j (0, 0) := he
    rw [e i (by omega), e j (by omega)] at he
    have hp := List.pairwise_iff_getElem.1 hndm
    rcases Nat.lt_or_gt_of_ne hij with h | h
    · exact hp i j (by simp; omega) (by simp; omega) h (by simp [he])
    · exact hp j i (by simp; omega) (by simp; omega) h (by simp [he])
end Go.Ev
