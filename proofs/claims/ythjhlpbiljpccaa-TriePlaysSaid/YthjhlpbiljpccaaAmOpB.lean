/-
  Loads and stores of several cells; places.
-/
import Derived.Test.YthjhlpbiljpccaaAmOpA
namespace Go.AM
open Go.RowKit

theorem tyOk_spec {P : Program} {t : TypeId} (h : tyOk P t = true) : ∃ i d, P.info? t = some i ∧ P.underlying t = some d := by
  simp only [tyOk, Bool.and_eq_true, Option.isSome_iff_exists] at h
  obtain ⟨⟨i, hi⟩, ⟨d, hd⟩⟩ := h
  exact ⟨i, d, hi, hd⟩
theorem run_sizeOf {P : Program} {t : TypeId} (h : tyOk P t = true) (w : World) : (sizeOf t).run P w = .ok (P.cellsOf t) w := by
  obtain ⟨i, d, hi, hd⟩ := tyOk_spec h
  simp [sizeOf, typeInfo, Program.cellsOf, hi]
theorem run_typeInfo {P : Program} {t : TypeId} {i : TypeInfo} (h : P.info? t = some i) (w : World) : (typeInfo t).run P w = .ok i w := by
  simp [typeInfo, h]
theorem run_isAgg {P : Program} {t : TypeId} (h : tyOk P t = true) (w : World) : (isAgg t).run P w = .ok (isAggT P t) w := by
  obtain ⟨i, d, hi, hd⟩ := tyOk_spec h
  simp only [isAgg, Sem.run_bind, run_underlying hd, Result.andThen_ok, isAggT, hd]
  cases d <;> rfl

theorem addr_add (b o n : Nat) : (⟨b, o, none⟩ : Addr).add n = ⟨b, o + n, none⟩ := by
  unfold Addr.add
  split
  · rename_i h; subst h; rfl
  · rfl
theorem add_add (a : Addr) (i j : Nat) : (a.add i).add j = a.add (i + j) := by
  unfold Addr.add
  by_cases hi : i = 0 <;> by_cases hj : j = 0 <;> simp [hi, hj, Nat.add_assoc]

/-- What lies at an address: the cells from there on. -/
def AtA (N : Nat → Prop) (w : World) (φ : Phi) (A : Addr) (xs : List AV) : Prop :=
  ∀ (j : Nat) c, xs[j]? = some c → ∃ v, w.cell? (A.add j) = some v ∧ oneV v = true ∧ VRel N w φ c v

section
variable {P : Program} {N : Nat → Prop} {w : World} {φ : Phi}

theorem AtA.drop {A : Addr} {xs : List AV} (h : AtA N w φ A xs) (n : Nat) : AtA N w φ (A.add n) (xs.drop n) := fun j c hj => by
  rw [List.getElem?_drop] at hj
  obtain ⟨v, hv, ho, hr⟩ := h (n + j) c hj
  exact ⟨v, by rw [add_add]; exact hv, ho, hr⟩
theorem AtA.take {A : Addr} {xs : List AV} (h : AtA N w φ A xs) (n : Nat) : AtA N w φ A (xs.take n) := fun j c hj => by
  rw [List.getElem?_take] at hj
  split at hj
  · exact h j c hj
  · cases hj

theorem load_agg {t : TypeId} (ht : tyOk P t = true) (hag : isAggT P t = true) {A : Addr} {xs : List AV} (h : AtA N w φ A xs) (hl : xs.length = P.cellsOf t) :
    ∃ vs : List Value, (loadVar t A).run P w = .ok (.agg vs.toArray) w ∧ LRel N w φ xs vs ∧ Ones vs := by
  have hall : ∀ j, ∃ v, j < xs.length → (w.cell? (A.add j) = some v ∧ oneV v = true ∧ VRel N w φ (xs.getD j .junk) v) := fun j => by
    by_cases hj : j < xs.length
    · obtain ⟨v, hv⟩ := h j xs[j] (List.getElem?_eq_getElem hj)
      exact ⟨v, fun _ => by simpa [List.getD, List.getElem?_eq_getElem hj] using hv⟩
    · exact ⟨undef, fun h => absurd h hj⟩
  obtain ⟨f, hf⟩ := Classical.axiomOfChoice hall
  refine ⟨(List.range xs.length).map f, ?_, ⟨by simp, fun j c v hj hv => ?_⟩, fun v hv => ?_⟩
  · simp only [loadVar, Sem.run_bind, run_isAgg ht, Result.andThen_ok, hag, if_true, run_sizeOf ht, ← hl]
    rw [run_loadCells w A xs.length f (fun j hj => (hf j hj).1)]
    rfl
  · have hlt := (List.getElem?_eq_some_iff.1 hj).1
    simp [hlt] at hv
    subst hv
    have := (hf j hlt).2.2
    simpa [List.getD, hj] using this
  · simp at hv
    obtain ⟨j, hj, rfl⟩ := hv
    exact (hf j hj).2.1
theorem load_one {t : TypeId} (ht : tyOk P t = true) (hag : isAggT P t = false) {A : Addr} {v : Value} (h : w.cell? A = some v) : (loadVar t A).run P w = .ok v w := by
  simp [loadVar, run_isAgg ht, hag, h]

theorem rdA_ok {t : TypeId} (ht : tyOk P t = true) {A : Addr} {xs : List AV} (h : AtA N w φ A xs) {off : Nat} {x : AV} (hr : rdA (isAggT P t) (P.cellsOf t) xs off = some x) :
    ∃ v, (loadVar t (A.add off)).run P w = .ok v w ∧ VRel N w φ x v := by
  unfold rdA at hr
  cases hag : isAggT P t with
  | true =>
    rw [hag] at hr
    simp only [cond_true] at hr
    cases hl : ((xs.drop off).take (P.cellsOf t)).length == P.cellsOf t with
    | false => rw [hl] at hr; cases hr
    | true =>
      rw [hl] at hr; cases hr
      obtain ⟨vs, hrun, hrel, ho⟩ := load_agg ht hag ((h.drop off).take (P.cellsOf t)) (by simpa using hl)
      exact ⟨_, hrun, mkAgg_ok hrel ho⟩
  | false =>
    rw [hag] at hr
    simp only [cond_false] at hr
    obtain ⟨v, hv, ho, hrel⟩ := h off x hr
    exact ⟨v, load_one ht hag hv, hrel⟩
theorem allF_map : (xs : List FV) → allF (xs.map .f) = some xs
  | [] => rfl
  | x :: r => by simp [allF, allF_map r]
theorem rdF_rdA {ag : Bool} {sz off : Nat} {xs : List FV} {x : FV} (h : rdF ag sz xs off = some x) : rdA ag sz (xs.map .f) off = some (.f x) := by
  unfold rdF at h
  unfold rdA
  cases ag with
  | true =>
    simp only [cond_true] at h ⊢
    rw [← List.map_drop, ← List.map_take, List.length_map]
    cases hl : ((xs.drop off).take sz).length == sz with
    | false => rw [hl] at h; cases h
    | true =>
      rw [hl] at h; cases h
      simp only [cond_true, mkAgg, allF_map]
  | false =>
    simp only [cond_false] at h ⊢
    simp [h]

/-- Cells written into one block, one by one. -/
structure Wrote (w w' : World) (b off : Nat) (vs : List Value) (cells cells' : Array Value) (e : TypeId) : Prop where
  os : w'.os = w.os
  tape : w'.tape = w.tape
  output : w'.output = w.output
  size : w'.heap.size = w.heap.size
  at_ : w'.heap[b]? = some (.cells cells' e (0, 0))
  other : ∀ k, k ≠ b → w'.heap[k]? = w.heap[k]?
  csize : cells'.size = cells.size
  cell : ∀ k, cells'[k]? = if off ≤ k ∧ k < off + vs.length then vs[k - off]? else cells[k]?

theorem store_cells {b off : Nat} {e : TypeId} : (vs : List Value) → (i : Nat) → (w : World) → (cells : Array Value) → Ones vs → w.heap[b]? = some (.cells cells e (0, 0)) → off + i + vs.length ≤ cells.size →
    ∃ w' cells', (storeCells ⟨b, off, none⟩ vs i).run P w = .ok () w' ∧ Wrote w w' b (off + i) vs cells cells' e
  | [], i, w, cells, _, hb, _ => ⟨w, cells, rfl, rfl, rfl, rfl, rfl, hb, fun _ _ => rfl, rfl, fun k => by
      rw [if_neg (by simp)]⟩
  | v :: r, i, w, cells, ho, hb, hl => by
    have hlt : off + i < cells.size := by simp at hl; omega
    have hc : w.cell? ⟨b, off + i, none⟩ = some cells[off + i] := by simp [World.cell?, hb, hlt]
    have hf : w.frozen? ⟨b, off + i, none⟩ = false := by simp [World.frozen?, hb]
    have hv : v.oneCell' = true := by
      have := ho v (List.mem_cons_self ..)
      cases v <;> first | rfl | (simp [oneV] at this)
    have hb1 : (w.setCell ⟨b, off + i, none⟩ v).heap[b]? = some (.cells (cells.setIfInBounds (off + i) v) e (0, 0)) := by
      simp [World.setCell, Array.getElem?_modify, hb]
    obtain ⟨w', cells', hrun, hw⟩   := store_cells (off := off) r (i + 1) (w.setCell ⟨b, off + i, none⟩ v) (cells.setIfInBounds (off + i) v) (fun u hu => ho u (List.mem_cons_of_mem _ hu)) hb1 (by simp at hl ⊢; omega)
    refine ⟨w', cells', ?_, hw.os, hw.tape, hw.output, by rw [hw.size]; simp, hw.at_, fun k hk => ?_, by rw [hw.csize]; simp, fun k => ?_⟩
    · simp only [storeCells, Sem.run_bind, addr_add, run_store _ _ _ _ _ hv, hc, hf, Bool.false_eq_true, if_false, Result.andThen_ok, hrun]
    · rw [hw.other k hk, Below.heap_setCell w _ v k hk]
    · rw [hw.cell k]
      by_cases h1 : k = off + i
      · subst h1
        rw [if_neg (by omega), if_pos (by simp)]
        simp [hlt]
      · by_cases h2 : off + i + 1 ≤ k ∧ k < off + i + 1 + r.length
        · rw [if_pos (by omega), if_pos (by simp; omega)]
          have : k - (off + i) = (k - (off + (i + 1))) + 1 := by omega
          rw [this, List.getElem?_cons_succ]
        · rw [if_neg (by omega), if_neg (by simp; omega)]
          simp [Ne.symm h1]
end
end Go.AM
