/-
  Struct and slice literals; stores.
-/
import Derived.Test.YtilbcgklkdkkdaaDoorAmOpG
import Derived.Laws.Tables
namespace Go.AM
open Go.RowKit

section
variable {P : Program} {N : Nat → Prop} {B : Nat → Prop} {w : World} {φ : Phi} {m : Mem} {o : Oper} {a : Act} {Γ : Env} {s : Slots} {G : List (Nat × Bool)} {x : AV} {m' : Mem} {vc : Bool}

theorem splice_get {α : Type} {cs xs cs' : List α} {off : Nat} (h : splice cs off xs = some cs') : cs'.length = cs.length ∧ off + xs.length ≤ cs.length ∧ ∀ (k : Nat), cs'[k]? = if off ≤ k ∧ k < off + xs.length then xs[k - off]? else cs[k]? := by
  unfold splice at h
  cases hb : Nat.ble (off + xs.length) cs.length with
  | false => rw [hb] at h; cases h
  | true =>
    rw [hb] at h; cases h
    have hl := Nat.le_of_ble_eq_true hb
    refine ⟨by simp; omega, hl, fun k => ?_⟩
    by_cases h1 : k < off
    · rw [if_neg (by omega), List.append_assoc, List.getElem?_append_left (by simp; omega), List.getElem?_take, if_pos h1]
    · by_cases h2 : k < off + xs.length
      · rw [if_pos (by omega), List.append_assoc, List.getElem?_append_right (by simp; omega), List.getElem?_append_left (by simp; omega)]
        simp; congr 1; omega
      · rw [if_neg (by omega), List.getElem?_append_right (by simp; omega), List.getElem?_drop]
        congr 1; simp; omega

theorem fold_set (off : Nat) : ∀ (vs : List Value) (k : Nat) (cells : Array Value), off + k + vs.length ≤ cells.size →
    ((vs.zipIdx k).foldl (fun (cs : Array Value) (x : Value × Nat) => match x with | (c, j) => cs.setIfInBounds (off + j) c) cells).size = cells.size ∧
    ∀ (q : Nat), ((vs.zipIdx k).foldl (fun (cs : Array Value) (x : Value × Nat) => match x with | (c, j) => cs.setIfInBounds (off + j) c) cells)[q]? = if off + k ≤ q ∧ q < off + k + vs.length then vs[q - (off + k)]? else cells[q]?
  | [], k, cells, _ => ⟨rfl, fun q => by rw [if_neg (by simp)]; rfl⟩
  | v :: r, k, cells, h => by
    simp only [List.zipIdx_cons, List.foldl_cons]
    have ih := fold_set off r (k + 1) (cells.setIfInBounds (off + k) v) (by simp at h ⊢; omega)
    refine ⟨by rw [ih.1]; simp, fun q => ?_⟩
    rw [ih.2 q]
    by_cases h1 : q = off + k
    · subst h1
      rw [if_neg (by omega), if_pos (by simp)]
      have hlt : off + k < cells.size := by simp at h; omega
      simp [hlt]
    · by_cases h2 : off + (k + 1) ≤ q ∧ q < off + (k + 1) + r.length
      · rw [if_pos h2, if_pos (by simp; omega)]
        have : q - (off + k) = (q - (off + (k + 1))) + 1 := by omega
        rw [this, List.getElem?_cons_succ]
      · rw [if_neg h2, if_neg (by simp; omega)]
        simp [Ne.symm h1]

theorem fill_step {place : Nat → Option (Nat × Nat)} {i off sz : Nat} {v : Value} {rest : List (Nat × Value)} {cells : Array Value} (hp : place i = some (off, sz)) (hv : v.cells.size = sz) (hl : off + sz ≤ cells.size) :
    ∃ cells', Instr.fill place cells ((i, v) :: rest) = Instr.fill place cells' rest ∧ cells'.size = cells.size ∧ ∀ (q : Nat), cells'[q]? = if off ≤ q ∧ q < off + sz then v.cells[q - off]? else cells[q]? := by
  have hf := fold_set off v.cells.toList 0 cells (by simpa [hv] using hl)
  refine ⟨v.cells.zipIdx.foldl (fun (cs : Array Value) (x : Value × Nat) => match x with | (c, j) => cs.setIfInBounds (off + j) c) cells, ?_, ?_, ?_⟩
  · have h1 : ¬ (v.cells.size ≠ sz || decide (off + v.cells.size > cells.size)) = true := by simp [hv]; omega
    simp only [Instr.fill, hp]
    rw [if_neg (by simpa using h1)]
  · have := hf.1
    rw [← Array.foldl_toList, Array.toList_zipIdx]
    simpa using this
  · intro q
    have := hf.2 q
    rw [← Array.foldl_toList, Array.toList_zipIdx]
    simp only [Nat.add_zero, Array.length_toList, hv, Array.getElem?_toList] at this
    exact this

theorem LRel.splice {cs xs cs' : List AV} {vs us vs' : List Value} {off : Nat} (h : LRel N w φ cs vs) (ho : Ones vs) (hx : LRel N w φ xs us) (hxo : Ones us) (hs : Go.AM.splice cs off xs = some cs')
    (hl : vs'.length = vs.length) (hv : ∀ (k : Nat), vs'[k]? = if off ≤ k ∧ k < off + us.length then us[k - off]? else vs[k]?) : LRel N w φ cs' vs' ∧ Ones vs' := by
  obtain ⟨h1, h2, h3⟩ := splice_get hs
  refine ⟨⟨by rw [h1, hl, h.1], fun j c v hj hv' => ?_⟩, fun v hv' => ?_⟩
  · rw [h3, hx.1] at hj
    rw [hv] at hv'
    split at hj
    · rename_i hc; rw [if_pos hc] at hv'; exact hx.2 _ c v hj hv'
    · rename_i hc; rw [if_neg hc] at hv'; exact h.2 _ c v hj hv'
  · obtain ⟨j, hj⟩ := List.mem_iff_getElem?.1 hv'
    rw [hv] at hj
    split at hj
    · exact hxo v (List.mem_of_getElem? hj)
    · exact ho v (List.mem_of_getElem? hj)

theorem fills_ok {s : Slots} {a : Act} (hs : SlotsOk (Nof N φ) w φ s a) (hG : Holds a G) (fs : Array Field) : ∀ (ps : List (Nat × Operand)) (aps : List (Nat × Nat × AOpd)) (vs : List (Nat × Nat × AV)) (cs cs' : List AV) (cells : Array Value),
    cParts P fs ps = some aps → opvP3 s G aps = some vs → fills cs vs = some cs' → LRel (Nof N φ) w φ cs cells.toList → Ones cells.toList →
    ∃ cells', Instr.fill (fun i => (fs[i]?).map fun f => (f.offset, P.cellsOf f.type)) cells (ps.map fun p => (p.1, a.eval p.2)) = some cells' ∧ LRel (Nof N φ) w φ cs' cells'.toList ∧ Ones cells'.toList
  | [], aps, vs, cs, cs', cells, h1, h2, h3, h4, h5 => by
    cases h1; cases h2; cases h3
    exact ⟨cells, rfl, h4, h5⟩
  | (i, y) :: ps, aps, vs, cs, cs', cells, h1, h2, h3, h4, h5 => by
    obtain ⟨f, hf, h1⟩ := obind h1
    obtain ⟨ay, hy, h1⟩ := obind h1
    obtain ⟨as, has, rfl⟩ := omap h1
    obtain ⟨v, hv, h2⟩ := obind h2
    obtain ⟨us, hus, rfl⟩ := omap h2
    obtain ⟨xs, hxs, h3⟩ := obind h3
    cases hl : xs.length == P.cellsOf f.type with
    | false => rw [hl] at h3; cases h3
    | true =>
      rw [hl] at h3
      obtain ⟨cs1, hcs1, h3⟩ := obind h3
      have hl' : xs.length = P.cellsOf f.type := by simpa using hl
      have hr := acells_ok (opd_ok hs hG hy hv) hxs
      have hsz : (a.eval y).cells.size = P.cellsOf f.type := by
        have := hr.1.1; rw [hl'] at this; simpa using this.symm
      have hsp := splice_get hcs1
      have hcl : cells.size = cs.length := by have := h4.1; simpa using this.symm
      obtain ⟨cells1, e1, e2, e3⟩ := fill_step (place := fun i => (fs[i]?).map fun f => (f.offset, P.cellsOf f.type)) (off := f.offset) (sz := P.cellsOf f.type) (i := i) (rest := ps.map fun p => (p.1, a.eval p.2)) (by simp [hf]) hsz (by rw [hcl, ← hl']; exact hsp.2.1)
      have hstep := LRel.splice (vs' := cells1.toList) h4 h5 hr.1 hr.2 hcs1 (by simpa using e2) (fun k => by
        rw [Array.getElem?_toList, e3 k]; simp [hsz])
      obtain ⟨cells', g1, g2, g3⟩ := fills_ok hs hG fs ps as us cs1 cs' cells1 has hus h3 hstep.1 hstep.2
      exact ⟨cells', by simp only [List.map_cons]; rw [e1]; exact g1, g2, g3⟩

theorem allTy_spec {f : Field} : ∀ {l : List Field}, allTy P l = true → f ∈ l → tyOk P f.type = true
  | [], _, h => by cases h
  | g :: r, h, hm => by
    simp only [allTy, Bool.and_eq_true] at h
    rcases List.mem_cons.1 hm with rfl | hm
    · exact h.1
    · exact allTy_spec h.2 hm

theorem places_run (w : World) : ∀ (l : List Field), allTy P l = true → (l.mapM fun (f : Field) => (do pure (f.offset, ← sizeOf f.type) : Sem (Nat × Nat))).run P w = .ok (l.map fun f => (f.offset, P.cellsOf f.type)) w
  | [], _ => rfl
  | f :: r, h => by
    simp only [allTy, Bool.and_eq_true] at h
    simp only [List.mapM_cons, Sem.run_bind, run_sizeOf h.1, Result.andThen_ok, places_run w r h.2, Sem.run_pure, List.map_cons]

theorem op_build {t : TypeId} {fs : Array Field} {ps : Array (Nat × Operand)} (ho : o.op = .build t ps) (ht : P.underlying t = some (.struct fs)) (hall : allTy P fs.toList = true)
    {z : List AV} {aps : List (Nat × Nat × AOpd)} (hz : zeroA P t = some z) (hp : cParts P fs ps.toList = some aps) (hx : exOp Γ s G m (.build z aps) = some (x, m', vc))
    (hs : SlotsOk (Nof N φ) w φ s a) (hG : Holds a G) (hm : MRel N B w φ m) : OpOk P o a w (Post N B φ w m' x) := by
  obtain ⟨vs, hvs, h1⟩ := obind hx
  obtain ⟨cs, hcs, h2⟩ := obind h1
  obtain ⟨rfl, rfl, _⟩ := ok1_spec h2
  obtain ⟨v, hr, hv⟩ := zeroA_run hz
  have hv0 := hv (Nof N φ) w φ
  obtain ⟨cells, e1, e2, e3⟩ := fills_ok hs hG fs ps.toList aps vs z cs v.cells hp hvs hcs hv0.1 hv0.2
  have hpl : (fun (i : Nat) => ((fs.toList.map fun (f : Field) => (f.offset, P.cellsOf f.type)).toArray)[i]?) = fun (i : Nat) => (fs[i]?).map fun (f : Field) => (f.offset, P.cellsOf f.type) := by
    funext i; simp
  refine quiet_ok hm (v := .agg cells) ?_ (by have := mkAgg_ok e2 e3; rwa [Array.toArray_toList] at this)
  have hmap : (ps.map fun p => (p.1, a.eval p.2)).toList = ps.toList.map fun p => (p.1, a.eval p.2) := by simp
  have hrun : (fs.mapM fun (f : Field) => (do pure (f.offset, ← sizeOf f.type) : Sem (Nat × Nat))).run P w = .ok ((fs.toList.map fun (f : Field) => (f.offset, P.cellsOf f.type)).toArray) w := by
    rw [Array.mapM_eq_mapM_toList]
    simp only [Sem.run_map, places_run w _ hall, Result.andThen_ok]
  simp only [execOp, ho, Instr.build, Sem.run_bind, hr, Result.andThen_ok, run_underlying ht, Sem.run_pure, hrun]
  rw [hpl, hmap, e1]
  rfl

/-! ### Slice literals -/
/-- The elements of a row, cell by cell. -/
def ERel (N : Nat → Prop) (w : World) (φ : Phi) (sz : Nat) (es : List (List AV)) (cells : Array Value) : Prop :=
  ∀ (i : Nat) (cs : List AV), es[i]? = some cs → cs.length = sz ∧ ∀ (j : Nat) c, cs[j]? = some c → ∃ v, cells[i * sz + j]? = some v ∧ oneV v = true ∧ VRel N w φ c v

theorem mul_apart {i j k sz : Nat} (hj : j < sz) (hne : i ≠ k) : ¬ (k * sz ≤ i * sz + j ∧ i * sz + j < k * sz + sz) := by
  rintro ⟨h1, h2⟩
  rcases Nat.lt_or_gt_of_ne hne with h | h
  · have := Nat.mul_le_mul_right sz (show i + 1 ≤ k from h)
    rw [Nat.add_mul] at this; omega
  · have := Nat.mul_le_mul_right sz (show k + 1 ≤ i from h)
    rw [Nat.add_mul] at this; omega

theorem mul_lt_len {i n sz : Nat} (h : i < n) : i * sz + sz ≤ n * sz := by
  have := Nat.mul_le_mul_right sz (show i + 1 ≤ n from h)
  rw [Nat.add_mul] at this; omega

theorem ERel.set {sz : Nat} {es : List (List AV)} {cells cells' : Array Value} (h : ERel N w φ sz es cells) {i : Nat} {xs : List AV} {us : List Value} (hi : i < es.length) (hx : LRel N w φ xs us) (hxo : Ones us) (hl : xs.length = sz)
    (hc : ∀ (q : Nat), cells'[q]? = if i * sz ≤ q ∧ q < i * sz + sz then us[q - i * sz]? else cells[q]?) : ERel N w φ sz (es.set i xs) cells' := fun k cs hk => by
  rw [List.getElem?_set] at hk
  by_cases hki : i = k
  · subst hki
    rw [if_pos rfl, if_pos hi] at hk
    cases hk
    refine ⟨hl, fun j c hj => ?_⟩
    have hjl := (List.getElem?_eq_some_iff.1 hj).1
    have hu : us[j]? = some (us[j]'(by have := hx.1; omega)) := List.getElem?_eq_getElem (by have := hx.1; omega)
    refine ⟨_, ?_, hxo _ (List.mem_of_getElem? hu), hx.2 j c _ hj hu⟩
    rw [hc, if_pos (by omega)]
    rw [show i * sz + j - i * sz = j by omega]
    exact hu
  · rw [if_neg hki] at hk
    obtain ⟨h1, h2⟩ := h k cs hk
    refine ⟨h1, fun j c hj => ?_⟩
    have hjl := (List.getElem?_eq_some_iff.1 hj).1
    obtain ⟨v, hv, ho, hr⟩ := h2 j c hj
    exact ⟨v, by rw [hc, if_neg (mul_apart (by omega) (Ne.symm hki))]; exact hv, ho, hr⟩

theorem fillE_ok {s : Slots} {a : Act} (hs : SlotsOk (Nof N φ) w φ s a) (hG : Holds a G) {sz : Nat} : ∀ (ps : List (Nat × Operand)) (aps : List (Nat × AOpd)) (vs : List (Nat × AV)) (es es' : List (List AV)) (cells : Array Value),
    cPartsS ps = some aps → opvP2 s G aps = some vs → fillE es sz vs = some es' → ERel (Nof N φ) w φ sz es cells → es.length * sz = cells.size →
    ∃ cells', Instr.fill (fun i => some (i * sz, sz)) cells (ps.map fun p => (p.1, a.eval p.2)) = some cells' ∧ ERel (Nof N φ) w φ sz es' cells' ∧ es'.length = es.length ∧ cells'.size = cells.size
  | [], aps, vs, es, es', cells, h1, h2, h3, h4, h5 => by
    cases h1; cases h2; cases h3
    exact ⟨cells, rfl, h4, rfl, rfl⟩
  | (i, y) :: ps, aps, vs, es, es', cells, h1, h2, h3, h4, h5 => by
    obtain ⟨ay, hy, h1⟩ := obind h1
    obtain ⟨as, has, rfl⟩ := omap h1
    obtain ⟨v, hv, h2⟩ := obind h2
    obtain ⟨us, hus, rfl⟩ := omap h2
    obtain ⟨xs, hxs, h3⟩ := obind h3
    cases hl : xs.length == sz && Nat.blt i es.length with
    | false => rw [hl] at h3; cases h3
    | true =>
      rw [hl] at h3
      simp only [Bool.and_eq_true, beq_iff_eq, Nat.blt_eq] at hl
      have hr := acells_ok (opd_ok hs hG hy hv) hxs
      have hsz : (a.eval y).cells.size = sz := by
        have := hr.1.1; rw [hl.1] at this; simpa using this.symm
      have hb := mul_lt_len (sz := sz) hl.2
      obtain ⟨cells1, e1, e2, e3⟩ := fill_step (cells := cells) (place := fun i => some (i * sz, sz)) (off := i * sz) (sz := sz) (i := i) (rest := ps.map fun p => (p.1, a.eval p.2)) rfl hsz (by omega)
      have hstep := h4.set hl.2 hr.1 hr.2 hl.1 (cells' := cells1) (fun q => by rw [e3 q]; simp)
      obtain ⟨cells', g1, g2, g3, g4⟩ := fillE_ok hs hG ps as us _ es' cells1 has hus h3 hstep (by simp; omega)
      exact ⟨cells', by simp only [List.map_cons]; rw [e1]; exact g1, g2, by simpa using g3, by rw [g4, e2]⟩

theorem op_bslice {t e : TypeId} {n : Nat} {ps : Array (Nat × Operand)} (ho : o.op = .buildSlice t n ps) (ht : P.underlying t = some (.slice e)) (hk : tyOk P e = true) (hn : 0 < n) (hcap : n * P.cellsOf e ≤ 4096) (hpos : 0 < P.cellsOf e)
    {T : Sch} (hT : T.size = P.cellsOf e) {by_ : Nat} {z : List AV} {aps : List (Nat × AOpd)} (hz : zeroA P e = some z) (hp : cPartsS ps.toList = some aps) (hx : exOp Γ s G m (.bslice T by_ z n aps) = some (x, m', vc))
    (hs : SlotsOk (Nof N φ) w φ s a) (hG : Holds a G) (hm : MRel N B w φ m) (hB : ∀ b, B b → b < w.heap.size) : OpOk P o a w (Post N B φ w m' x) := by
  obtain ⟨vs, hvs, h1⟩ := obind hx
  cases hzl : z.length == T.size with
  | false => rw [hzl] at h1; cases h1
  | true =>
  rw [hzl] at h1
  obtain ⟨es, hes, h2⟩ := obind h1
  obtain ⟨rfl, rfl, _⟩ := ok1_spec h2
  obtain ⟨v, hr, hv⟩ := zeroA_run hz
  have hv0 := hv (Nof N φ) w φ
  have hzl' : z.length = T.size := by simpa using hzl
  have hvs' : v.cells.size = T.size := by have := hv0.1.1; rw [hzl'] at this; simpa using this.symm
  have hsz0 : 0 < T.size := by omega
  have hE0 : ERel (Nof N φ) w φ T.size (List.replicate n z) ((Array.range (n * T.size)).map (v.cells[· % v.cells.size]!)) := fun i cs hi => by
    rw [List.getElem?_replicate] at hi
    split at hi
    · rename_i hin
      cases hi
      refine ⟨hzl', fun j c hj => ?_⟩
      have hjl := (List.getElem?_eq_some_iff.1 hj).1
      have hb := mul_lt_len (sz := T.size) hin
      have hvj : v.cells.toList[j]? = some (v.cells.toList[j]'(by simp; omega)) := List.getElem?_eq_getElem (by simp; omega)
      refine ⟨_, ?_, hv0.2 _ (List.mem_of_getElem? hvj), hv0.1.2 j c _ hj hvj⟩
      have hmod : (i * T.size + j) % T.size = j := by
        rw [Nat.add_comm, Nat.add_mul_mod_self_right, Nat.mod_eq_of_lt (by omega)]
      have hlt : i * T.size + j < n * T.size := by omega
      have hjv : j < v.cells.size := by omega
      simp [hlt, hvs', hmod, getElem!_pos v.cells j hjv]
    · cases hi
  obtain ⟨cells, e1, e2, e3, e4⟩ := fillE_ok hs hG ps.toList aps vs _ es _ hp hvs hes hE0 (by simp)
  simp only [List.length_replicate] at e3
  simp only [Array.size_map, Array.size_range] at e4
  have hcont : OCont (Nof N φ) w φ w.heap.size [] (.arow T es) cells := ⟨by rw [e3, e4]; exact Nat.le_refl _, by
      have : es.length * 1 ≤ es.length * T.size := Nat.mul_le_mul_left _ hsz0
      have h3 : es.length * T.size ≤ 4096 := by rw [e3, hT]; exact hcap
      unfold maxLen; omega, e2⟩
  refine alloc_ok (e := e) hm hB hcont (v := .slice (some ⟨w.heap.size, 0, none⟩) n n) ?_ (.sl (Nat.le_refl _) ?_ fun _ => ⟨_, _, _, phi_new hm _, by simp, by rw [e4]; simp, by simp [cntO, e3]⟩)
  · have hmap : (ps.map fun (i, x) => (i, a.eval x)).toList = ps.toList.map fun p => (p.1, a.eval p.2) := by simp
    have hgt : ¬ n * P.cellsOf e > 2 ^ 24 := by omega
    have hne : ¬ n * P.cellsOf e = 0 := by
      have := Nat.mul_pos hn hpos; omega
    rw [hT] at e1
    simp only [execOp, ho, Instr.buildSlice, Sem.run_bind, run_underlying ht, Result.andThen_ok, run_sizeOf hk, if_neg hgt, if_neg hne, hr, Sem.run_pure, Sem.run_ite]
    rw [hmap, e1]
    simp [newRow]
  · have h3 : n * 1 ≤ n * T.size := Nat.mul_le_mul_left _ hsz0
    have h4 : n * T.size ≤ 4096 := by rw [hT]; exact hcap
    unfold maxLen; omega

/-! ### Stores -/
theorem mrel_store {w' : World} (hm : MRel N B w φ m) {k b tot off : Nat} {cnt : Cnt} {ob ob' : MObj} {cells cells' : Array Value} {e : TypeId} {vs : List Value} (hk : m[k]? = some ob) (hl : live ob = true)
    (hφ : φ[k]? = some (some (b, tot, cnt))) (hw : Wrote w w' b off vs cells cells' e) (hc0 : w.heap[b]? = some (.cells cells e (0, 0))) (hnt : isTab ob' = false) (hcnt : cntO ob ≤ cntO ob') (hc : OCont (Nof N φ) w φ b cnt.ex ob' cells') :
    Tr N B φ w φ w' ∧ MRel N B w' φ (m.set k ob') := by
  have hbd := hm.bd k _ b hφ (foot_self ..)
  have hkeep : Keeps (Nof N φ) w (Nof N φ) w' := fun p v hp hv => ⟨hp, by
    rw [cell_same (hw.other _ fun e => hp.2 (e ▸ ⟨k, _, hφ, foot_self ..⟩))]; exact hv⟩
  have hmk : k < m.length := (List.getElem?_eq_some_iff.1 hk).1
  refine ⟨⟨⟨hw.os, hw.tape, hw.output, by rw [hw.size]; exact Nat.le_refl _, fun i hi _ => hw.other i fun e => hbd.1 (e ▸ hi)⟩, Ext.refl _, hkeep⟩, ⟨by simp [hm.len], fun j b2 t2 c2 p h hp lp => ?_, fun j x b2 h hf => ?_, fun i j p q x y b2 hi hj lp lq h g hf hg => ?_, hm.gl.mono hkeep⟩⟩
  · rw [List.getElem?_set] at hp
    by_cases hkj : k = j
    · subst hkj
      rw [if_pos rfl, if_pos hmk] at hp
      cases hp
      rw [hφ] at h
      injection h with h
      injection h with h
      injection h with h0 h
      injection h with h1 h2
      subst h0; subst h1; subst h2
      obtain ⟨cs2, e2, hb2, hs2, _, hn⟩ := hm.cells k b tot cnt _ hφ hk hl
      rw [hc0] at hb2
      injection hb2 with hb2
      injection hb2 with h1 h2 h3
      subst h1; subst h2
      exact ⟨cells', e, hw.at_, by rw [hw.csize]; exact hs2, hc.mono hkeep (Ext.refl _) (fun h => by rw [hnt] at h; cases h), Nat.le_trans hn hcnt⟩
    · rw [if_neg hkj] at hp
      obtain ⟨cs2, e2, hb2, hs2, hcont, hn⟩ := hm.cells j b2 t2 c2 p h hp lp
      have hbb : b2 ≠ b := fun e => hkj (hm.apart k j ob p _ _ b hk hp hl lp hφ h (foot_self ..) (.inl e.symm))
      exact ⟨cs2, e2, by rw [hw.other b2 hbb]; exact hb2, hs2, hcont.mono hkeep (Ext.refl _) (fun _ c hcx => hw.other c fun e => hkj (hm.apart k j ob p _ _ c hk hp hl lp hφ h (.inl e) (.inr hcx))), hn⟩
  · have := hm.bd j x b2 h hf
    exact ⟨this.1, by rw [hw.size]; exact this.2⟩
  · have back : ∀ {i : Nat} {p : MObj}, (m.set k ob')[i]? = some p → live p = true → ∃ q, m[i]? = some q ∧ live q = true := fun {i p} h l => by
      rw [List.getElem?_set] at h
      split at h
      · rename_i hki; subst hki; exact ⟨ob, hk, hl⟩
      · exact ⟨p, h, l⟩
    obtain ⟨p', hp', lp'⟩ := back hi lp
    obtain ⟨q', hq', lq'⟩ := back hj lq
    exact hm.apart i j p' q' x y b2 hp' hq' lp' lq' h g hf hg

theorem store_run {t : TypeId} (hk : tyOk P t = true) {A : Addr} {v : Value} (hv : v.cells.size = P.cellsOf t) {w' : World} (hr : (storeCells A v.cells.toList 0).run P w = .ok () w') : (Instr.storeAt t (.pointer (some A)) v).run P w = .ok () w' := by
  have hne : ¬ v.cells.size ≠ P.cellsOf t := by simpa using hv
  simp only [Instr.storeAt, Instr.sureAddr, storeVar, Sem.run_bind, Sem.run_pure, Result.andThen_ok, run_sizeOf hk, if_neg hne, hr]

theorem op_store {t : TypeId} {y z : Operand} (ho : o.op = .store t y z) (hk : tyOk P t = true) {ay az : AOpd} (hy : cOpd y = some ay) (hz : cOpd z = some az) (hx : exOp Γ s G m (.store (P.cellsOf t) ay az) = some (x, m', vc))
    (hs : SlotsOk (Nof N φ) w φ s a) (hG : Holds a G) (hm : MRel N B w φ m) : OpOk P o a w (Post N B φ w m' x) := by
  obtain ⟨p, hp, h1⟩ := obind hx
  obtain ⟨q, hq, h2⟩ := obind h1
  obtain ⟨m1, hm1, h3⟩ := obind h2
  obtain ⟨rfl, rfl, _⟩ := ok1_spec h3
  clear hx h1 h2 h3
  have hpr := opd_ok hs hG hy hp
  have hqr := opd_ok hs hG hz hq
  generalize he : a.eval y = ey at hpr
  obtain ⟨xs, hxs, h4⟩ := obind hm1
  have hcr := acells_ok hqr hxs
  cases hl : xs.length == P.cellsOf t with
  | false => rw [hl] at h4; cases h4
  | true =>
  rw [hl] at h4
  simp only [cond_true] at h4
  have hl' : xs.length = P.cellsOf t := by simpa using hl
  have hsz : (a.eval z).cells.size = P.cellsOf t := by have := hcr.1.1; rw [hl'] at this; simpa using this.symm
  have fin : ∀ {b tot off k : Nat} {cnt : Cnt} {ob ob' : MObj}, ey = .pointer (some ⟨b, off, none⟩) → φ[k]? = some (some (b, tot, cnt)) → m[k]? = some ob → live ob = true → isTab ob' = false → cntO ob ≤ cntO ob' →
      (∀ (cells cells' : Array Value), OCont (Nof N φ) w φ b cnt.ex ob cells → off + P.cellsOf t ≤ cells.size ∧ (cells'.size = cells.size → (∀ (q : Nat), cells'[q]? = if off ≤ q ∧ q < off + P.cellsOf t then (a.eval z).cells.toList[q - off]? else cells[q]?) → OCont (Nof N φ) w φ b cnt.ex ob' cells')) →
      OpOk P o a w (Post N B φ w (m.set k ob') .junk) := fun {b tot off k cnt ob ob'} e0 hφ hkk l1 l2 hcnt hcc => by
    obtain ⟨cells, e, hb, hst, hcont, _⟩ := hm.cells k b tot cnt ob hφ hkk l1
    obtain ⟨hroom, hnew⟩ := hcc cells #[] hcont
    obtain ⟨w', cells', hrun, hw⟩ := store_cells (P := P) (off := off) (a.eval z).cells.toList 0 w cells hcr.2 hb (by simp [hsz]; omega)
    have := mrel_store hm hkk l1 hφ hw hb l2 hcnt (((hcc cells cells' hcont).2) hw.csize (fun q => by have := hw.cell q; simpa [hsz] using this))
    have run : (execOp a.eval o).run P w = .ok .skip w' := by
      simp only [execOp, ho, Sem.run_bind, he, e0, store_run hk hsz hrun, Result.andThen_ok, Sem.run_pure]
    unfold OpOk
    rw [run]
    exact ⟨φ, this.1, this.2, .junk⟩
  split at h4
  · rename_i k off
    cases hpr with
    | @ptr _ _ b tot cnt hφ =>
      split at h4
      · rename_i pn cs hkk
        obtain ⟨cs', hcs, rfl⟩ := omap h4
        have hsp := splice_get hcs
        refine fin (off := off) rfl hφ hkk rfl rfl (Nat.le_refl _) fun cells cells' hcont => ⟨by rw [hcont.2.1, ← hl']; exact hsp.2.1, fun hsize hq => ⟨hcont.1, by rw [hsize, hcont.2.1, hsp.1], fun j c hj => ?_⟩⟩
        rw [hsp.2.2, hl'] at hj
        rw [hq]
        split at hj
        · rename_i hc
          rw [if_pos hc]
          have hlt := (List.getElem?_eq_some_iff.1 hj).1
          have hu : (a.eval z).cells.toList[j - off]? = some ((a.eval z).cells.toList[j - off]'(by have := hcr.1.1; omega)) := List.getElem?_eq_getElem (by have := hcr.1.1; omega)
          exact ⟨_, hu, hcr.2 _ (List.mem_of_getElem? hu), hcr.1.2 _ c _ hj hu⟩
        · rename_i hc
          rw [if_neg hc]
          exact hcont.2.2 j c hj
      · cases h4
  · rename_i k z' i off
    cases hpr with
    | @eptr _ _ _ _ b tot cnt hφ hi =>
      split at h4
      · rename_i T l hkk
        cases hz' : T.size == z' with
        | false => rw [hz'] at h4; cases h4
        | true =>
          rw [hz'] at h4
          have hz'' : T.size = z' := by simpa using hz'
          subst hz''
          simp only [cond_true] at h4
          obtain ⟨fs, hfs, h5⟩ := obind h4
          obtain ⟨cs, hcs, h6⟩ := obind h5
          obtain ⟨y', hy', rfl⟩ := omap h6
          have hsp := splice_get hcs
          have hfr := hcr.1.allF hfs
          have hfl : fs.length = P.cellsOf t := by rw [hfr.1]; simp [hsz]
          rw [Sch.enc_length] at hsp
          refine fin (off := i * T.size + off) rfl hφ hkk rfl rfl (by simp [cntO]) fun cells cells' hcont => ?_
          have hil : i < l.length := by
            obtain ⟨_, _, _, _, _, hc⟩ := hm.cells k b tot cnt _ hφ hkk rfl
            exact Nat.lt_of_lt_of_le hi hc
          have hml := mul_lt_len (sz := T.size) hil
          refine ⟨by have := hcont.1; omega, fun hsize hq => ⟨by rw [hsize]; simpa using hcont.1, by simpa using hcont.2.1, fun i2 x2 hx2 => ?_⟩⟩
          rw [List.getElem?_set] at hx2
          by_cases hii : i = i2
          · subst hii
            rw [if_pos rfl, if_pos hil] at hx2
            cases hx2
            refine dec_srel T cs _ hy' _ fun j c hj => ?_
            have hjl := (List.getElem?_eq_some_iff.1 hj).1
            rw [hsp.2.2] at hj
            by_cases hc : off ≤ j ∧ j < off + fs.length
            · rw [if_pos hc] at hj
              have hlt := (List.getElem?_eq_some_iff.1 hj).1
              have hu : (a.eval z).cells.toList[j - off]? = some ((a.eval z).cells.toList[j - off]'(by have := hfr.1; omega)) := List.getElem?_eq_getElem (by have := hfr.1; omega)
              refine ⟨_, ?_, hfr.2 _ c _ hj hu⟩
              rw [hq, if_pos (by omega), show i * T.size + j - (i * T.size + off) = j - off by omega]
              exact hu
            · rw [if_neg hc] at hj
              obtain ⟨v, h1, h2, h3⟩ := srel_enc T _ _ (hcont.2.2 i _ (getD_some (d := T.dflt) hil)) j c hj
              exact ⟨v, by rw [hq, if_neg (by omega)]; exact h1, h3⟩
          · rw [if_neg hii] at hx2
            refine SRel.mono (Keeps.refl _ w) T x2 _ _ (fun j u hj hu => ?_) (hcont.2.2 i2 x2 hx2)
            have := mul_apart (sz := T.size) hj (Ne.symm hii)
            rw [hq, if_neg (by omega)]
            exact hu
      · rename_i T es hkk
        cases hz' : T.size == z' with
        | false => rw [hz'] at h4; cases h4
        | true =>
          rw [hz'] at h4
          have hz'' : T.size = z' := by simpa using hz'
          subst hz''
          simp only [cond_true] at h4
          obtain ⟨cs, hcs, h5⟩ := obind h4
          obtain ⟨cs', hcs', rfl⟩ := omap h5
          have hsp := splice_get hcs'
          have hil := (List.getElem?_eq_some_iff.1 hcs).1
          have hml := mul_lt_len (sz := T.size) hil
          refine fin (off := i * T.size + off) rfl hφ hkk rfl rfl (by simp [cntO]) fun cells cells' hcont => ?_
          have hcl := (hcont.2.2 i cs hcs).1
          refine ⟨by have := hcont.1; omega, fun hsize hq => ⟨by rw [hsize]; simpa using hcont.1, by simpa using hcont.2.1, fun i2 x2 hx2 => ?_⟩⟩
          rw [List.getElem?_set] at hx2
          by_cases hii : i = i2
          · subst hii
            rw [if_pos rfl, if_pos hil] at hx2
            cases hx2
            refine ⟨by rw [hsp.1, hcl], fun j c hj => ?_⟩
            have hjl := (List.getElem?_eq_some_iff.1 hj).1
            rw [hsp.2.2] at hj
            by_cases hc : off ≤ j ∧ j < off + xs.length
            · rw [if_pos hc] at hj
              have hlt := (List.getElem?_eq_some_iff.1 hj).1
              have hu : (a.eval z).cells.toList[j - off]? = some ((a.eval z).cells.toList[j - off]'(by have := hcr.1.1; omega)) := List.getElem?_eq_getElem (by have := hcr.1.1; omega)
              refine ⟨_, ?_, hcr.2 _ (List.mem_of_getElem? hu), hcr.1.2 _ c _ hj hu⟩
              rw [hq, if_pos (by omega), show i * T.size + j - (i * T.size + off) = j - off by omega]
              exact hu
            · rw [if_neg hc] at hj
              obtain ⟨v, h1, h2, h3⟩ := (hcont.2.2 i cs hcs).2 j c hj
              exact ⟨v, by rw [hq, if_neg (by omega)]; exact h1, h2, h3⟩
          · rw [if_neg hii] at hx2
            obtain ⟨h1, h2⟩ := hcont.2.2 i2 x2 hx2
            refine ⟨h1, fun j c hj => ?_⟩
            have hjl := (List.getElem?_eq_some_iff.1 hj).1
            obtain ⟨v, h3, h4, h5⟩ := h2 j c hj
            have := mul_apart (sz := T.size) (show j < T.size by omega) (Ne.symm hii)
            exact ⟨v, by rw [hq, if_neg (by omega)]; exact h3, h4, h5⟩
      · cases h4
  · cases h4
end
end Go.AM
