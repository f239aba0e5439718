/-
  Tuples, closures, equality of structs, boxes, literals, stores.
-/
import Derived.Test.YthjhlpbiljpccaaAmOpE
namespace Go.AM
open Go.RowKit

section
variable {P : Program} {N : Nat → Prop} {B : Nat → Prop} {w : World} {φ : Phi} {m : Mem} {o : Oper} {a : Act} {Γ : Env} {s : Slots} {G : List (Nat × Bool)} {x : AV} {m' : Mem} {vc : Bool}

theorem op_ext {y : Operand} {i : Nat} (ho : o.op = .extract y i) {ay : AOpd} (hy : cOpd y = some ay) (hx : exOp Γ s G m (.ext i ay) = some (x, m', vc))
    (hs : SlotsOk (Nof N φ) w φ s a) (hG : Holds a G) (hm : MRel N B w φ m) : OpOk P o a w (Post N B φ w m' x) := by
  obtain ⟨p, hp, h2⟩ := obind hx
  clear hx
  have hpr := opd_ok hs hG hy hp
  generalize he : a.eval y = ey at hpr
  split at h2
  · rename_i vs
    obtain ⟨v, hv, h3⟩ := obind h2
    obtain ⟨rfl, rfl, _⟩ := ok1_spec h3
    cases hpr with
    | f hpr =>
    cases hpr with
    | @tup _ us hn h =>
    have hlt := (List.getElem?_eq_some_iff.1 hv).1
    have hu : us[i]? = some (us[i]'(by omega)) := Array.getElem?_eq_getElem (by omega)
    exact quiet_ok hm (by simp only [execOp, ho, he, Instr.extract, hu, Sem.run_bind, Sem.run_pure, Result.andThen_ok]) (.f (h i v _ hv hu))
  · rename_i vs
    obtain ⟨v, hv, h3⟩ := obind h2
    obtain ⟨rfl, rfl, _⟩ := ok1_spec h3
    cases hpr with
    | @tup _ us hn h =>
    have hlt := (List.getElem?_eq_some_iff.1 hv).1
    have hu : us[i]? = some (us[i]'(by omega)) := Array.getElem?_eq_getElem (by omega)
    exact quiet_ok hm (by simp only [execOp, ho, he, Instr.extract, hu, Sem.run_bind, Sem.run_pure, Result.andThen_ok]) (h i _ _ hv hu)
  · cases h2

theorem op_nilchk {y : Operand} (ho : o.op = .nilCheck y) {ay : AOpd} (hy : cOpd y = some ay) (hx : exOp Γ s G m (.nilchk ay) = some (x, m', vc)) (hvc : vc = true)
    (hs : SlotsOk (Nof N φ) w φ s a) (hG : Holds a G) (hm : MRel N B w φ m) : OpOk P o a w (Post N B φ w m' x) := by
  obtain ⟨p, hp, h2⟩ := obind hx
  clear hx
  have hpr := opd_ok hs hG hy hp
  generalize he : a.eval y = ey at hpr
  split at h2
  · obtain ⟨rfl, rfl, _⟩ := ok1_spec h2
    refine quiet_ok hm ?_ hpr
    cases hpr with
    | f hpr =>
    cases hpr with
    | fpt => simp [execOp, ho, he]
  · obtain ⟨rfl, rfl, _⟩ := ok1_spec h2
    refine quiet_ok hm ?_ hpr
    cases hpr with
    | f hpr =>
    cases hpr with
    | fn => simp [execOp, ho, he]
  · obtain ⟨rfl, rfl, _⟩ := ok1_spec h2
    refine quiet_ok hm ?_ hpr
    cases hpr with
    | fn => simp [execOp, ho, he]
  · obtain ⟨rfl, rfl, _⟩ := ok1_spec h2
    refine quiet_ok hm ?_ hpr
    cases hpr with
    | ptr => simp [execOp, ho, he]
  · obtain ⟨rfl, rfl, _⟩ := ok1_spec h2
    refine quiet_ok hm ?_ hpr
    cases hpr with
    | eptr => simp [execOp, ho, he]
  · obtain ⟨rfl, rfl, _⟩ := ok1_spec h2
    refine quiet_ok hm ?_ hpr
    cases hpr with
    | nd => simp [execOp, ho, he]
  · rename_i k oo
    simp only [Option.some.injEq, Prod.mk.injEq] at h2
    obtain ⟨rfl, rfl, h3⟩ := h2
    cases oo with
    | none => rw [hvc] at h3; cases h3
    | some i =>
      cases hpr with
      | ndo h h0 =>
        obtain ⟨b, tot, cnt, hφ, c, hc, rfl⟩ := h rfl
        exact quiet_ok hm (v := .pointer (some ⟨c, 0, none⟩)) (by simp [execOp, ho, he]) (.nd hφ hc)
  · cases h2

theorem op_mkfn {f : Nat} {caps : Array Operand} (ho : o.op = .makeFunc (.func f) #[] caps) {as : List AOpd} (hc : cOpds caps.toList = some as) (hx : exOp Γ s G m (.mkfn f as) = some (x, m', vc))
    (hs : SlotsOk (Nof N φ) w φ s a) (hG : Holds a G) (hm : MRel N B w φ m) : OpOk P o a w (Post N B φ w m' x) := by
  obtain ⟨vs, hv, h2⟩ := obind hx
  obtain ⟨rfl, rfl, _⟩ := ok1_spec h2
  have := opds_ok hs hG hc hv
  refine quiet_ok hm (v := .func (.func f) #[] (caps.map a.eval)) (by simp [execOp, ho, Instr.makeFunc]) (.fn (by have := this.1; simpa using this.symm) fun j c v hj hv => this.2 j c v hj (by
    have : (caps.map a.eval).toList[j]? = some v := by rw [Array.getElem?_toList]; exact hv
    simpa using this))

theorem op_mm {mx : Bool} {y z : Operand} {c : Call} (hoc : o.op = .call c) (hcc : c.callee = .builtin (bif mx then .max else .min)) (hca : c.args.toList = [y, z])
    {ay az : AOpd} (hy : cOpd y = some ay) (hz : cOpd z = some az) (hx : exOp Γ s G m (.mm mx ay az) = some (x, m', vc))
    (hs : SlotsOk (Nof N φ) w φ s a) (hG : Holds a G) (hm : MRel N B w φ m) : OpOk P o a w (Post N B φ w m' x) := by
  obtain ⟨p, hp, h1⟩ := obind hx
  obtain ⟨q, hq, h2⟩ := obind h1
  clear hx h1
  have hpr := opd_ok hs hG hy hp
  have hqr := opd_ok hs hG hz hq
  obtain ⟨callee, args, argTypes⟩ := c
  simp only at hcc hca
  subst hcc
  obtain rfl : args = #[y, z] := by cases args; simp_all
  generalize he : a.eval y = ey at hpr
  generalize hf : a.eval z = ez at hqr
  split at h2
  · rename_i k n j l
    cases hkj : decide (k = j) with
    | false => rw [hkj] at h2; cases h2
    | true =>
      rw [hkj] at h2
      have hkj' : k = j := by simpa using hkj
      subst hkj'
      obtain ⟨rfl, rfl, _⟩ := ok1_spec h2
      cases hpr with
      | f hpr =>
      cases hqr with
      | f hqr =>
      cases hpr with
      | int hin =>
      cases hqr with
      | int hin' =>
      cases mx with
      | true =>
        have : (bif decide (l > n) then l else n) = (if l > n then l else n) := by by_cases h : l > n <;> simp [h]
        simp only [cond_true]
        rw [this]
        refine quiet_ok hm ?_ (.f (.int (by split <;> assumption)))
        simp [execOp, hoc, resolve, invoke, builtin, Builtin.max_, Builtin.max2, he, hf]
      | false =>
        have : (bif decide (l < n) then l else n) = (if l < n then l else n) := by by_cases h : l < n <;> simp [h]
        simp only [cond_false]
        rw [this]
        refine quiet_ok hm ?_ (.f (.int (by split <;> assumption)))
        simp [execOp, hoc, resolve, invoke, builtin, Builtin.min_, Builtin.min2, he, hf]
  · cases h2

/-! ### Boxes -/
theorem alloc_ok (hm : MRel N B w φ m) (hB : ∀ b, B b → b < w.heap.size) {ob : MObj} {cells : Array Value} {e : TypeId} (hoc : OCont (Nof N φ) w φ w.heap.size [] ob cells) {v : Value} {x : AV}
    (hr : (execOp a.eval o).run P w = .ok (.value v) (w.alloc (.cells cells e)))
    (hv : VRel (Nof N (φ ++ [some (w.heap.size, cells.size, cN (cntO ob))])) (w.alloc (.cells cells e)) (φ ++ [some (w.heap.size, cells.size, cN (cntO ob))]) x v) (hnm : isMap ob = false := by rfl) :
    OpOk P o a w (Post N B φ w (m ++ [ob]) x) := by
  unfold OpOk
  rw [hr]
  have := mrel_alloc (e := e) hm hB hoc hnm
  exact ⟨_, this.1, this.2, hv⟩
theorem phi_new (hm : MRel N B w φ m) (y : Option (Nat × Nat × Cnt)) : (φ ++ [y])[m.length]? = some y := by
  rw [← hm.len, List.getElem?_append_right (Nat.le_refl _)]; simp

theorem cells_cont {cs : List AV} {vs : List Value} (h : LRel (Nof N φ) w φ cs vs) (ho : Ones vs) : OCont (Nof N φ) w φ w.heap.size [] (.box none cs) vs.toArray :=
  ⟨⟨rfl, fun _ _ h => by cases h⟩, by simp [h.1], fun j c hj => by
    have hlt := (List.getElem?_eq_some_iff.1 hj).1
    have hv : vs[j]? = some (vs[j]'(by have := h.1; omega)) := List.getElem?_eq_getElem (by have := h.1; omega)
    exact ⟨_, by rw [List.getElem?_toArray]; exact hv, ho _ (List.mem_of_getElem? hv), h.2 j c _ hj hv⟩⟩

theorem op_box {t : TypeId} {y : Operand} (ho : o.op = .box t y) {ay : AOpd} (hy : cOpd y = some ay) (hx : exOp Γ s G m (.box ay) = some (x, m', vc))
    (hs : SlotsOk (Nof N φ) w φ s a) (hG : Holds a G) (hm : MRel N B w φ m) (hB : ∀ b, B b → b < w.heap.size) : OpOk P o a w (Post N B φ w m' x) := by
  obtain ⟨p, hp, h1⟩ := obind hx
  obtain ⟨cs, hcs, h2⟩ := obind h1
  obtain ⟨rfl, rfl, _⟩ := ok1_spec h2
  have hpr := acells_ok (opd_ok hs hG hy hp) hcs
  refine alloc_ok (cells := (a.eval y).cells.toList.toArray) (e := t) hm hB (cells_cont hpr.1 hpr.2) (v := .pointer (some ⟨w.heap.size, 0, none⟩)) ?_ (.ptr (phi_new hm _))
  simp [execOp, ho, Instr.box, newVar, newRow]

theorem zeroA_run {t : TypeId} {z : List AV} (h : zeroA P t = some z) : ∃ v : Value, (∀ w : World, (zeroValue t).run P w = .ok v w) ∧ ∀ (N : Nat → Prop) (w : World) (φ : Phi), LRel N w φ z v.cells.toList ∧ Ones v.cells.toList := by
  unfold zeroA at h
  split at h
  · rename_i i hi
    split at h
    · rename_i v hv
      obtain ⟨xs, hx, rfl⟩ := omap h
      refine ⟨v, fun w => by simp [zeroValue, typeInfo, hi, hv], fun N w φ => ?_⟩
      have := constFs_ok (N := N) (w := w) hx
      refine ⟨LRel.f (by simp [this.1]) fun j c u hj hu => (this.2 j c u hj hu).1, fun u hu => ?_⟩
      obtain ⟨j, hj⟩ := List.mem_iff_getElem?.1 hu
      have hlt := (List.getElem?_eq_some_iff.1 hj).1
      exact (this.2 j _ u (List.getElem?_eq_getElem (by rw [this.1]; exact hlt)) hj).2
    · cases h
  · cases h

theorem op_alloc {t : TypeId} (ho : o.op = .alloc t) {z : List AV} (hz : zeroA P t = some z) (hx : exOp Γ s G m (.alloc z) = some (x, m', vc))
    (hm : MRel N B w φ m) (hB : ∀ b, B b → b < w.heap.size) : OpOk P o a w (Post N B φ w m' x) := by
  obtain ⟨rfl, rfl, _⟩ := ok1_spec hx
  obtain ⟨v, hr, hv⟩ := zeroA_run hz
  have := hv (Nof N φ) w φ
  refine alloc_ok (cells := v.cells.toList.toArray) (e := t) hm hB (cells_cont this.1 this.2) (v := .pointer (some ⟨w.heap.size, 0, none⟩)) ?_ (.ptr (phi_new hm _))
  simp [execOp, ho, Instr.alloc, hr, newVar, newRow]

theorem op_nil0 {t e : TypeId} (ho : o.op = .buildSlice t 0 #[]) (ht : P.underlying t = some (.slice e)) (hk : tyOk P e = true) (hx : exOp Γ s G m .nil0 = some (x, m', vc))
    (hm : MRel N B w φ m) (hB : ∀ b, B b → b < w.heap.size) : OpOk P o a w (Post N B φ w m' x) := by
  obtain ⟨rfl, rfl, _⟩ := ok1_spec hx
  have hbel : Below w.heap.size w (w.alloc (.cells #[] e)) := (Below.refl _ _).alloc (Nat.le_refl _) _
  have hk' := mrel_keep hm hbel
  have run : (execOp a.eval o).run P w = .ok (.value (.slice (some ⟨w.heap.size, 0, none⟩) 0 0)) (w.alloc (.cells #[] e)) := by
    have he : (Array.range 0).map (fun _ => (default : Value)) = #[] := by apply Array.ext'; simp
    simp [execOp, ho, Instr.buildSlice, run_underlying ht, run_sizeOf hk, Instr.fill, newRow, he]
  unfold OpOk
  rw [run]
  exact ⟨φ, hk'.1, hk'.2, .f .nils⟩
end
end Go.AM
