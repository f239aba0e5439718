/-
  Struct and slice literals; stores.
-/
import Derived.Test.YthjhlpbiljpccaaAmOpG
import Derived.Laws.Tables
namespace Go.AM
open Go.RowKit

section
variable {P : Program} {N : Nat → Prop} {B : Nat → Prop} {w : World} {φ : Phi} {m : Mem} {o : Oper} {a : Act} {Γ : Env} {s : Slots} {G : List (Nat × Bool)} {x : AV} {m' : Mem} {vc : Bool}

theorem splice_get {α : Type} {cs xs cs' : List α} {off : Nat} (h : splice cs off xs = some cs') : cs'.length = cs.length ∧ off + xs.length ≤ cs.length ∧ ∀ (k : Nat), cs'[k]? = if off ≤ k ∧ k < off + xs.length then xs[k - off]? else cs[k]? := by
  unfold splice at h
  cases hb : Nat.ble (off + xs.length) cs.length with
  | false => rw [hb] at h; cases h
  | true =>
    rw [hb] at h; cases h
    have hl := Nat.le_of_ble_eq_true hb
    refine ⟨by simp; omega, hl, fun k => ?_⟩
    by_cases h1 : k < off
    · rw [if_neg (by omega), List.append_assoc, List.getElem?_append_left (by simp; omega), List.getElem?_take, if_pos h1]
    · by_cases h2 : k < off + xs.length
      · rw [if_pos (by omega), List.append_assoc, List.getElem?_append_right (by simp; omega), List.getElem?_append_left (by simp; omega)]
        simp; congr 1; omega
      · rw [if_neg (by omega), List.getElem?_append_right (by simp; omega), List.getElem?_drop]
        congr 1; simp; omega

theorem fold_set (off : Nat) : ∀ (vs : List Value) (k : Nat) (cells : Array Value), off + k + vs.length ≤ cells.size →
    ((vs.zipIdx k).foldl (fun (cs : Array Value) (x : Value × Nat) => match x with | (c, j) => cs.setIfInBounds (off + j) c) cells).size = cells.size ∧
    ∀ (q : Nat), ((vs.zipIdx k).foldl (fun (cs : Array Value) (x : Value × Nat) => match x with | (c, j) => cs.setIfInBounds (off + j) c) cells)[q]? = if off + k ≤ q ∧ q < off + k + vs.length then vs[q - (off + k)]? else cells[q]?
  | [], k, cells, _ => ⟨rfl, fun q => by rw [if_neg (by simp)]; rfl⟩
  | v :: r, k, cells, h => by
    simp only [List.zipIdx_cons, List.foldl_cons]
    have ih := fold_set off r (k + 1) (cells.setIfInBounds (off + k) v) (by simp at h ⊢; omega)
    refine ⟨by rw [ih.1]; simp, fun q => ?_⟩
    rw [ih.2 q]
    by_cases h1 : q = off + k
    · subst h1
      rw [if_neg (by omega), if_pos (by simp)]
      have hlt : off + k < cells.size := by simp at h; omega
      simp [hlt]
    · by_cases h2 : off + (k + 1) ≤ q ∧ q < off + (k + 1) + r.length
      · rw [if_pos h2, if_pos (by simp; omega)]
        have : q - (off + k) = (q - (off + (k + 1))) + 1 := by omega
        rw [this, List.getElem?_cons_succ]
      · rw [if_neg h2, if_neg (by simp; omega)]
        simp [Ne.symm h1]

theorem fill_step {place : Nat → Option (Nat × Nat)} {i off sz : Nat} {v : Value} {rest : List (Nat × Value)} {cells : Array Value} (hp : place i = some (off, sz)) (hv : v.cells.size = sz) (hl : off + sz ≤ cells.size) :
    ∃ cells', Instr.fill place cells ((i, v) :: rest) = Instr.fill place cells' rest ∧ cells'.size = cells.size ∧ ∀ (q : Nat), cells'[q]? = if off ≤ q ∧ q < off + sz then v.cells[q - off]? else cells[q]? := by
  have hf := fold_set off v.cells.toList 0 cells (by simpa [hv] using hl)
  refine ⟨v.cells.zipIdx.foldl (fun (cs : Array Value) (x : Value × Nat) => match x with | (c, j) => cs.setIfInBounds (off + j) c) cells, ?_, ?_, ?_⟩
  · have h1 : ¬ (v.cells.size ≠ sz || decide (off + v.cells.size > cells.size)) = true := by simp [hv]; omega
    simp only [Instr.fill, hp]
    rw [if_neg (by simpa using h1)]
  · have := hf.1
    rw [← Array.foldl_toList, Array.toList_zipIdx]
    simpa using this
  · intro q
    have := hf.2 q
    rw [← Array.foldl_toList, Array.toList_zipIdx]
    simp only [Nat.add_zero, Array.length_toList, hv, Array.getElem?_toList] at this
    exact this

theorem LRel.splice {cs xs cs' : List AV} {vs us vs' : List Value} {off : Nat} (h : LRel N w φ cs vs) (ho : Ones vs) (hx : LRel N w φ xs us) (hxo : Ones us) (hs : Go.AM.splice cs off xs = some cs')
    (hl : vs'.length = vs.length) (hv : ∀ (k : Nat), vs'[k]? = if off ≤ k ∧ k < off + us.length then us[k - off]? else vs[k]?) : LRel N w φ cs' vs' ∧ Ones vs' := by
  obtain ⟨h1, h2, h3⟩ := splice_get hs
  refine ⟨⟨by rw [h1, hl, h.1], fun j c v hj hv' => ?_⟩, fun v hv' => ?_⟩
  · rw [h3, hx.1] at hj
    rw [hv] at hv'
    split at hj
    · rename_i hc; rw [if_pos hc] at hv'; exact hx.2 _ c v hj hv'
    · rename_i hc; rw [if_neg hc] at hv'; exact h.2 _ c v hj hv'
  · obtain ⟨j, hj⟩ := List.mem_iff_getElem?.1 hv'
    rw [hv] at hj
    split at hj
    · exact hxo v (List.mem_of_getElem? hj)
    · exact ho v (List.mem_of_getElem? hj)

theorem fills_ok {s : Slots} {a : Act} (hs : SlotsOk (Nof N φ) w φ s a) (hG : Holds a G) (fs : Array Field) : ∀ (ps : List (Nat × Operand)) (aps : List (Nat × Nat × AOpd)) (vs : List (Nat × Nat × AV)) (cs cs' : List AV) (cells : Array Value),
    cParts P fs ps = some aps → opvP3 s G aps = some vs → fills cs vs = some cs' → LRel (Nof N φ) w φ cs cells.toList → Ones cells.toList →
    ∃ cells', Instr.fill (fun i => (fs[i]?).map fun f => (f.offset, P.cellsOf f.type)) cells (ps.map fun p => (p.1, a.eval p.2)) = some cells' ∧ LRel (Nof N φ) w φ cs' cells'.toList ∧ Ones cells'.toList
  | [], aps, vs, cs, cs', cells, h1, h2, h3, h4, h5 => by
    cases h1; cases h2; cases h3
    exact ⟨cells, rfl, h4, h5⟩
  | (i, y) :: ps, aps, vs, cs, cs', cells, h1, h2, h3, h4, h5 => by
    obtain ⟨f, hf, h1⟩ := obind h1
    obtain ⟨ay, hy, h1⟩ := obind h1
    obtain ⟨as, has, rfl⟩ := omap h1
    obtain ⟨v, hv, h2⟩ := obind h2
    obtain ⟨us, hus, rfl⟩ := omap h2
    obtain ⟨xs, hxs, h3⟩ := obind h3
    cases hl : xs.length == P.cellsOf f.type with
    | false => rw [hl] at h3; cases h3
    | true =>
      rw [hl] at h3
      obtain ⟨cs1, hcs1, h3⟩ := obind h3
      have hl' : xs.length = P.cellsOf f.type := by simpa using hl
      have hr := acells_ok (opd_ok hs hG hy hv) hxs
      have hsz : (a.eval y).cells.size = P.cellsOf f.type := by
        have := hr.1.1; rw [hl'] at this; simpa using this.symm
      have hsp := splice_get hcs1
      have hcl : cells.size = cs.length := by have := h4.1; simpa using this.symm
      obtain ⟨cells1, e1, e2, e3⟩ := fill_step (place := fun i => (fs[i]?).map fun f => (f.offset, P.cellsOf f.type)) (off := f.offset) (sz := P.cellsOf f.type) (i := i) (rest := ps.map fun p => (p.1, a.eval p.2)) (by simp [hf]) hsz (by rw [hcl, ← hl']; exact hsp.2.1)
      have hstep := LRel.splice (vs' := cells1.toList) h4 h5 hr.1 hr.2 hcs1 (by simpa using e2) (fun k => by
        rw [Array.getElem?_toList, e3 k]; simp [hsz])
      obtain ⟨cells', g1, g2, g3⟩ := fills_ok hs hG fs ps as us cs1 cs' cells1 has hus h3 hstep.1 hstep.2
      exact ⟨cells', by simp only [List.map_cons]; rw [e1]; exact g1, g2, g3⟩

theorem allTy_spec {f : Field} : ∀ {l : List Field}, allTy P l = true → f ∈ l → tyOk P f.type = true
  | [], _, h => by cases h
  | g :: r, h, hm => by
    simp only [allTy, Bool.and_eq_true] at h
    rcases List.mem_cons.1 hm with rfl | hm
    · exact h.1
    · exact allTy_spec h.2 hm

theorem places_run (w : World) : ∀ (l : List Field), allTy P l = true → (l.mapM fun (f : Field) => (do pure (f.offset, ← sizeOf f.type) : Sem (Nat × Nat))).run P w = .ok (l.map fun f => (f.offset, P.cellsOf f.type)) w
  | [], _ => rfl
  | f :: r, h => by
    simp only [allTy, Bool.and_eq_true] at h
    simp only [List.mapM_cons, Sem.run_bind, run_sizeOf h.1, Result.andThen_ok, places_run w r h.2, Sem.run_pure, List.map_cons]

theorem op_build {t : TypeId} {fs : Array Field} {ps : Array (Nat × Operand)} (ho : o.op = .build t ps) (ht : P.underlying t = some (.struct fs)) (hall : allTy P fs.toList = true)
    {z : List AV} {aps : List (Nat × Nat × AOpd)} (hz : zeroA P t = some z) (hp : cParts P fs ps.toList = some aps) (hx : exOp Γ s G m (.build z aps) = some (x, m', vc))
    (hs : SlotsOk (Nof N φ) w φ s a) (hG : Holds a G) (hm : MRel N B w φ m) : OpOk P o a w (Post N B φ w m' x) := by
  obtain ⟨vs, hvs, h1⟩ := obind hx
  obtain ⟨cs, hcs, h2⟩ := obind h1
  obtain ⟨rfl, rfl, _⟩ := ok1_spec h2
  obtain ⟨v, hr, hv⟩ := zeroA_run hz
  have hv0 := hv (Nof N φ) w φ
  obtain ⟨cells, e1, e2, e3⟩ := fills_ok hs hG fs ps.toList aps vs z cs v.cells hp hvs hcs hv0.1 hv0.2
  have hpl : (fun (i : Nat) => ((fs.toList.map fun (f : Field) => (f.offset, P.cellsOf f.type)).toArray)[i]?) = fun (i : Nat) => (fs[i]?).map fun (f : Field) => (f.offset, P.cellsOf f.type) := by
    funext i; simp
  refine quiet_ok hm (v := .agg cells) ?_ (by have := mkAgg_ok e2 e3; rwa [Array.toArray_toList] at this)
  have hmap : (ps.map fun p => (p.1, a.eval p.2)).toList = ps.toList.map fun p => (p.1, a.eval p.2) := by simp
  have hrun : (fs.mapM fun (f : Field) => (do pure (f.offset, ← sizeOf f.type) : Sem (Nat × Nat))).run P w = .ok ((fs.toList.map fun (f : Field) => (f.offset, P.cellsOf f.type)).toArray) w := by
    rw [Array.mapM_eq_mapM_toList]
    simp only [Sem.run_map, places_run w _ hall, Result.andThen_ok]
  simp only [execOp, ho, Instr.build, Sem.run_bind, hr, Result.andThen_ok, run_underlying ht, Sem.run_pure, hrun]
  rw [hpl, hmap, e1]
  rfl

/-! ### Slice literals -/
/-- The elements of a row, cell by cell. -/
def ERel (N : Nat → Prop) (w : World) (φ : Phi) (sz : Nat) (es : List (List AV)) (cells : Array Value) : Prop :=
  ∀ (i : Nat) (cs : List AV), es[i]? = some cs → cs.length = sz ∧ ∀ (j : Nat) c, cs[j]? = some c → ∃ v, cells[i * sz + j]? = some v ∧ oneV v = true ∧ VRel N w φ c v

theorem mul_apart {i j k sz : Nat} (hj : j < sz) (hne : i ≠ k) : ¬ (k * sz ≤ i * sz + j ∧ i * sz + j < k * sz + sz) := by
  rintro ⟨h1, h2⟩
  rcases Nat.lt_or_gt_of_ne hne with h | h
  · have := Nat.mul_le_mul_right sz (show i + 1 ≤ k from h)
    rw [Nat.add_mul] at this; omega
  · have := Nat.mul_le_mul_right sz (show k + 1 ≤ i from h)
    rw [Nat.add_mul] at this; omega

theorem mul_lt_len {i n sz : Nat} (h : i < n) : i * sz + sz ≤ n * sz := by
  have := Nat.mul_le_mul_right sz (show i + 1 ≤ n from h)
  rw [Nat.add_mul] at this; omega

theorem ERel.set {sz : Nat} {es : List (List AV)} {cells cells' : Array Value} (h : ERel N w φ sz es cells) {i : Nat} {xs : List AV} {us : List Value} (hi : i < es.length) (hx : LRel N w φ xs us) (hxo : Ones us) (hl : xs.length = sz)
    (hc : ∀ (q : Nat), cells'[q]? = if i * sz ≤ q ∧ q < i * sz + sz then us[q - i * sz]? else cells[q]?) : ERel N w φ sz (es.set i xs) cells' := fun k cs hk => by
  rw [List.getElem?_set] at hk
  by_cases hki : i = k
  · subst hki
    rw [if_pos rfl, if_pos hi] at hk
    cases hk
    refine ⟨hl, fun j c hj => ?_⟩
    have hjl := (List.getElem?_eq_some_iff.1 hj).1
    have hu : us[j]? = some (us[j]'(by have := hx.1; omega)) := List.getElem?_eq_getElem (by have := hx.1; omega)
    refine ⟨_, ?_, hxo _ (List.mem_of_getElem? hu), hx.2 j c _ hj hu⟩
    rw [hc, if_pos (by omega)]
    rw [show i * sz + j - i * sz = j by omega]
    exact hu
  · rw [if_neg hki] at hk
    obtain ⟨h1, h2⟩ := h k cs hk
    refine ⟨h1, fun j c hj => ?_⟩
    have hjl := (List.getElem?_eq_some_iff.1 hj).1
    obtain ⟨v, hv, ho, hr⟩ := h2 j c hj
    exact ⟨v, by rw [hc, if_neg (mul_apart (by omega) (Ne.symm hki))]; exact hv, ho, hr⟩

theorem fillE_ok {s : Slots} {a : Act} (hs : SlotsOk (Nof N φ) w φ s a) (hG : Holds a G) {sz : Nat} : ∀ (ps : List (Nat × Operand)) (aps : List (Nat × AOpd)) (vs : List (Nat × AV)) (es es' : List (List AV)) (cells : Array Value),
    cPartsS ps = some aps → opvP2 s G aps = some vs → fillE es sz vs = some es' → ERel (Nof N φ) w φ sz es cells → es.length * sz = cells.size →
    ∃ cells', Instr.fill (fun i => some (i * sz, sz)) cells (ps.map fun p => (p.1, a.eval p.2)) = some cells' ∧ ERel (Nof N φ) w φ sz es' cells' ∧ es'.length = es.length ∧ cells'.size = cells.size
  | [], aps, vs, es, es', cells, h1, h2, h3, h4, h5 => by
    cases h1; cases h2; cases h3
    exact ⟨cells, rfl, h4, rfl, rfl⟩
  | (i, y) :: ps, aps, vs, es, es', cells, h1, h2, h3, h4, h5 => by
    obtain ⟨ay, hy, h1⟩ := obind h1
    obtain ⟨as, has, rfl⟩ := omap h1
    obtain ⟨v, hv, h2⟩ := obind h2
    obtain ⟨us, hus, rfl⟩ := omap h2
    obtain ⟨xs, hxs, h3⟩ := obind h3
    cases hl : xs.length == sz && Nat.blt i es.length with
    | false => rw [hl] at h3; cases h3
    | true =>
      rw [hl] at h3
      simp only [Bool.and_eq_true, beq_iff_eq, Nat.blt_eq] at hl
      have hr := acells_ok (opd_ok hs hG hy hv) hxs
      have hsz : (a.eval y).cells.size = sz := by
        have := hr.1.1; rw [hl.1] at this; simpa using this.symm
      have hb := mul_lt_len (sz := sz) hl.2
      obtain ⟨cells1, e1, e2, e3⟩ := fill_step (cells := cells) (place := fun i => some (i * sz, sz)) (off := i * sz) (sz := sz) (i := i) (rest := ps.map fun p => (p.1, a.eval p.2)) rfl hsz (by omega)
      have hstep := h4.set hl.2 hr.1 hr.2 hl.1 (cells' := cells1) (fun q => by rw [e3 q]; simp)
      obtain ⟨cells', g1, g2, g3, g4⟩ := fillE_ok hs hG ps as us _ es' cells1 has hus h3 hstep (by simp; omega)
      exact ⟨cells', by simp only [List.map_cons]; rw [e1]; exact g1, g2, by simpa using g3, by rw [g4, e2]⟩

theorem op_bslice {t e : TypeId} {n : Nat} {ps : Array (Nat × Operand)} (ho : o.op = .buildSlice t n ps) (ht : P.underlying t = some (.slice e)) (hk : tyOk P e = true) (hn : 0 < n) (hcap : n * P.cellsOf e ≤ 4096) (hpos : 0 < P.cellsOf e)
    {T : Sch} (hT : T.size = P.cellsOf e) {by_ : Nat} {z : List AV} {aps : List (Nat × AOpd)} (hz : zeroA P e = some z) (hp : cPartsS ps.toList = some aps) (hx : exOp Γ s G m (.bslice T by_ z n aps) = some (x, m', vc))
    (hs : SlotsOk (Nof N φ) w φ s a) (hG : Holds a G) (hm : MRel N B w φ m) (hB : ∀ b, B b → b < w.heap.size) : OpOk P o a w (Post N B φ w m' x) := by
  obtain ⟨vs, hvs, h1⟩ := obind hx
  cases hzl : z.length == T.size with
  | false => rw [hzl] at h1; cases h1
  | true =>
  rw [hzl] at h1
  obtain ⟨es, hes, h2⟩ := obind h1
  obtain ⟨rfl, rfl, _⟩ := ok1_spec h2
  obtain ⟨v, hr, hv⟩ := zeroA_run hz
  have hv0 := hv (Nof N φ) w φ
  have hzl' : z.length = T.size := by simpa using hzl
  have hvs' : v.cells.size = T.size := by have := hv0.1.1; rw [hzl'] at this; simpa using this.symm
  have hsz0 : 0 < T.size := by omega
  have hE0 : ERel (Nof N φ) w φ T.size (List.replicate n z) ((Array.range (n * T.size)).map (v.cells[· % v.cells.size]!)) := fun i cs hi => by
    rw [List.getElem?_replicate] at hi
    split at hi
    · rename_i hin
      cases hi
      refine ⟨hzl', fun j c hj => ?_⟩
      have hjl := (List.getElem?_eq_some_iff.1 hj).1
      have hb := mul_lt_len (sz := T.size) hin
      have hvj : v.cells.toList[j]? = some (v.cells.toList[j]'(by simp; omega)) := List.getElem?_eq_getElem (by simp; omega)
      refine ⟨_, ?_, hv0.2 _ (List.mem_of_getElem? hvj), hv0.1.2 j c _ hj hvj⟩
      have hmod : (i * T.size + j) % T.size = j := by
        rw [Nat.add_comm, Nat.add_mul_mod_self_right, Nat.mod_eq_of_lt (by omega)]
      have hlt : i * T.size + j < n * T.size := by omega
      have hjv : j < v.cells.size := by omega
      simp [hlt, hvs', hmod, getElem!_pos v.cells j hjv]
    · cases hi
  obtain ⟨cells, e1, e2, e3, e4⟩ := fillE_ok hs hG ps.toList aps vs _ es _ hp hvs hes hE0 (by simp)
  simp only [List.length_replicate] at e3
  simp only [Array.size_map, Array.size_range] at e4
  have hcont : OCont (Nof N φ) w φ w.heap.size [] (.arow T es) cells := ⟨by rw [e3, e4]; exact Nat.le_refl _, by
      have : es.length * 1 ≤ es.length * T.size := Nat.mul_le_mul_left _ hsz0
      have h3 : es.length * T.size ≤ 4096 := by rw [e3, hT]; exact hcap
      unfold maxLen; omega, e2⟩
  refine alloc_ok (e := e) hm hB hcont (v := .slice (some ⟨w.heap.size, 0, none⟩) n n) ?_ (.sl (Nat.le_refl _) ?_ fun _ => ⟨_, _, _, phi_new hm _, by simp, by rw [e4]; simp, by simp [cntO, e3]⟩)
  · have hmap : (ps.map fun (i, x) => (i, a.eval x)).toList = ps.toList.map fun p => (p.1, a.eval p.2) := by simp
    have hgt : ¬ n * P.cellsOf e > 2 ^ 24 := by omega
    have hne : ¬ n * P.cellsOf e = 0 := by
      have := Nat.mul_pos hn hpos; omega
    rw [hT] at e1
    simp only [execOp, ho, Instr.buildSlice, Sem.run_bind, run_underlying ht, Result.andThen_ok, run_sizeOf hk, if_neg hgt, if_neg hne, hr, Sem.run_pure, Sem.run_ite]
    rw [hmap, e1]
    simp [newRow]
  · have h3 : n * 1 ≤ n * T.size := Nat.mul_le_mul_left _ hsz0
    have h4 : n * T.size ≤ 4096 := by rw [hT]; exact hcap
    unfold maxLen; omega

/-! ### Stores -/
theorem mrel_store {w' : World} (hm : MRel N B w φ m) {k b tot off : Nat} {cnt : Cnt} {ob ob' : MObj} {cells cells' : Array Value} {e : TypeId} {vs : List Value} (hk : m[k]? = some ob) (hlc : celly ob = true)
    (hφ : φ[k]? = some (some (b, tot, cnt))) (hw : Wrote w w' b off vs cells cells' e) (hc0 : w.heap[b]? = some (.cells cells e (0, 0))) (hnt : isTab ob' = false) (hcnt : cntO ob ≤ cntO ob') (hc : OCont (Nof N φ) w φ b cnt.ex ob' cells') :
    Tr N B φ w φ w' ∧ MRel N B w' φ (m.set k ob') := by
  have hl := celly_live hlc
  have hbd := hm.bd k _ b hφ (foot_self ..)
  have hkeep : Keeps (Nof N φ) w (Nof N φ) w' := fun p v hp hv => ⟨hp, by
    rw [peek_same (hw.other _ fun e => hp.2 (e ▸ ⟨k, _, hφ, foot_self ..⟩))]; exact hv⟩
  have hmk : k < m.length := (List.getElem?_eq_some_iff.1 hk).1
  refine ⟨⟨⟨hw.os, hw.tape, hw.output, by rw [hw.size]; exact Nat.le_refl _, fun i hi _ => hw.other i fun e => hbd.1 (e ▸ hi)⟩, Ext.refl _, hkeep⟩, ⟨by simp [hm.len], fun j b2 t2 c2 p h hp lp => ?_, fun j x b2 h hf => ?_, fun i j p q x y b2 hi hj lp lq h g hf hg => ?_, hm.gl.mono hkeep⟩⟩
  · rw [List.getElem?_set] at hp
    by_cases hkj : k = j
    · subst hkj
      rw [if_pos rfl, if_pos hmk] at hp
      cases hp
      rw [hφ] at h
      injection h with h
      injection h with h
      injection h with h0 h
      injection h with h1 h2
      subst h0; subst h1; subst h2
      obtain ⟨cs2, e2, hb2, hs2, _, hn⟩ := hm.cells k b tot cnt _ hφ hk hlc
      rw [hc0] at hb2
      injection hb2 with hb2
      injection hb2 with h1 h2 h3
      subst h1; subst h2
      exact ⟨cells', e, HB.of (isMap_tab hnt) hw.at_, by rw [hw.csize]; exact hs2, hc.mono hkeep (Ext.refl _) (fun h => by rw [hnt] at h; cases h), Nat.le_trans hn hcnt⟩
    · rw [if_neg hkj] at hp
      obtain ⟨cs2, e2, hb2, hs2, hcont, hn⟩ := hm.objs j b2 t2 c2 p h hp lp
      have hbb : b2 ≠ b := fun e => hkj (hm.apart k j ob p _ _ b hk hp hl lp hφ h (foot_self ..) (.inl e.symm))
      exact ⟨cs2, e2, hb2.mono (hw.other b2 hbb), hs2, hcont.mono hkeep (Ext.refl _) (fun _ c hcx => hw.other c fun e => hkj (hm.apart k j ob p _ _ c hk hp hl lp hφ h (.inl e) (.inr hcx))), hn⟩
  · have := hm.bd j x b2 h hf
    exact ⟨this.1, by rw [hw.size]; exact this.2⟩
  · have back : ∀ {i : Nat} {p : MObj}, (m.set k ob')[i]? = some p → live p = true → ∃ q, m[i]? = some q ∧ live q = true := fun {i p} h l => by
      rw [List.getElem?_set] at h
      split at h
      · rename_i hki; subst hki; exact ⟨ob, hk, hl⟩
      · exact ⟨p, h, l⟩
    obtain ⟨p', hp', lp'⟩ := back hi lp
    obtain ⟨q', hq', lq'⟩ := back hj lq
    exact hm.apart i j p' q' x y b2 hp' hq' lp' lq' h g hf hg

/-! ### A tree's cells written -/
theorem bif_some {α : Type} {b : Bool} {y : Option α} {z : α} (h : (bif b then y else none) = some z) : b = true ∧ y = some z := by
  cases b with
  | true => exact ⟨rfl, h⟩
  | false => cases h
theorem asNd_ok {N : Nat → Prop} {k b tot : Nat} {cnt : Cnt} {x : AV} {v : Value} {o : Option Nat} (hφ : φ[k]? = some (some (b, tot, cnt))) (h : VRel N w φ x v) (ha : asNd k x = some o) : NPtr (b :: cnt.ex) o v := by
  unfold asNd at ha
  split at ha
  · cases ha; cases h with | f h => cases h with | nilp => rfl
  · obtain ⟨hj, ha2⟩ := bif_some ha
    have hj := beq_iff_eq.1 hj
    subst hj
    cases ha2
    cases h with
    | ptr h => rw [hφ] at h; cases h; exact ⟨_, rfl, rfl⟩
  · obtain ⟨hj, ha2⟩ := bif_some ha
    have hj := beq_iff_eq.1 hj
    subst hj
    cases ha2
    cases h with
    | nd h hi => rw [hφ] at h; cases h; exact ⟨_, hi, rfl⟩
  · obtain ⟨hj, ha2⟩ := bif_some ha
    have hj := beq_iff_eq.1 hj
    subst hj
    cases ha2
    cases h with
    | ndo h h0 =>
      cases o with
      | none => exact h0 rfl
      | some i =>
        obtain ⟨b', tot', cnt', h1, h2⟩ := h rfl
        rw [hφ] at h1; cases h1
        exact h2
  · cases ha
theorem asNd_ndo {N : Nat → Prop} {k : Nat} {x : AV} {v : Value} {o : Option Nat} (h : VRel N w φ x v) (ha : asNd k x = some o) : VRel N w φ (.ndo k o) v := by
  unfold asNd at ha
  split at ha
  · cases ha; cases h with | f h => cases h with | nilp => exact .ndo (fun h => by cases h) fun _ => rfl
  · obtain ⟨hj, ha2⟩ := bif_some ha
    have hj := beq_iff_eq.1 hj
    subst hj
    cases ha2
    cases h with
    | ptr h => exact .ndo (fun _ => ⟨_, _, _, h, _, rfl, rfl⟩) fun h => by cases h
  · obtain ⟨hj, ha2⟩ := bif_some ha
    have hj := beq_iff_eq.1 hj
    subst hj
    cases ha2
    cases h with
    | nd h hi => exact .ndo (fun _ => ⟨_, _, _, h, _, hi, rfl⟩) fun h => by cases h
  · obtain ⟨hj, ha2⟩ := bif_some ha
    have hj := beq_iff_eq.1 hj
    subst hj
    cases ha2
    exact h
  · cases ha
theorem ndWr_ok {N : Nat → Prop} {k b tot : Nat} {cnt : Cnt} (hφ : φ[k]? = some (some (b, tot, cnt))) {f g : Nat → Option Value} {x y : Nd} {u : AV} {v : Value} {off : Nat} (hv : VRel N w φ u v) (hx : NdAt (b :: cnt.ex) f x) (hw : ndWr k x u off = some y)
    (hg : ∀ q, g q = if q = off then some v else f q) : NdAt (b :: cnt.ex) g y := by
  unfold ndWr at hw
  split at hw
  · obtain ⟨o, ho, rfl⟩ := omap hw
    exact ⟨⟨v, by rw [hg]; rfl, asNd_ok hφ hv ho⟩, by obtain ⟨z, h1, h2⟩ := hx.c1; exact ⟨z, by rw [hg]; exact h1, h2⟩, by rw [hg]; exact hx.has, by rw [hg]; exact hx.val, hx.inr⟩
  · obtain ⟨o, ho, rfl⟩ := omap hw
    exact ⟨by obtain ⟨z, h1, h2⟩ := hx.c0; exact ⟨z, by rw [hg]; exact h1, h2⟩, ⟨v, by rw [hg]; rfl, asNd_ok hφ hv ho⟩, by rw [hg]; exact hx.has, by rw [hg]; exact hx.val, hx.inr⟩
  · split at hw
    · cases hw
      cases hv with | f hv => cases hv with
      | bool =>
        exact ⟨by obtain ⟨z, h1, h2⟩ := hx.c0; exact ⟨z, by rw [hg]; exact h1, h2⟩, by obtain ⟨z, h1, h2⟩ := hx.c1; exact ⟨z, by rw [hg]; exact h1, h2⟩, by rw [hg]; rfl, by rw [hg]; exact hx.val, hx.inr⟩
    · cases hw
  · split at hw
    · cases hw
      cases hv with | f hv => cases hv with
      | int hi =>
        exact ⟨by obtain ⟨z, h1, h2⟩ := hx.c0; exact ⟨z, by rw [hg]; exact h1, h2⟩, by obtain ⟨z, h1, h2⟩ := hx.c1; exact ⟨z, by rw [hg]; exact h1, h2⟩, by rw [hg]; exact hx.has, by rw [hg]; rfl, hi⟩
    · cases hw
  · cases hw
theorem ndWr_lt {k : Nat} {x y : Nd} {u : AV} {off : Nat} (hw : ndWr k x u off = some y) : off < 4 := by
  unfold ndWr at hw
  split at hw <;> first | omega | cases hw
theorem arAt_set {w' : World} {b i c off : Nat} {ex : List Nat} {l : List Nd} {size : Int} {cells cells0 cells0' : Array Value} {v : Value} {e eb : TypeId} {y : Nd} (h : ArAt w b ex l size cells) (hi : (b :: ex)[i]? = some c) (hb : w.heap[b]? = some (.cells cells eb (0, 0)))
    (hc : w.heap[c]? = some (.cells cells0 e (0, 0))) (hw : Wrote w w' c off [v] cells0 cells0' e) (hoff : off < 4)
    (hy : ∀ x, l[i]? = some x → NdAt (b :: ex) (fun j => cells0[j]?) x → NdAt (b :: ex) (fun j => cells0'[j]?) y) :
    ∃ cs e, w'.heap[b]? = some (.cells cs e (0, 0)) ∧ cs.size = cells.size ∧ ArAt w' b ex (l.set i y) size cs := by
  have hlt : i < l.length := by have := (List.getElem?_eq_some_iff.1 hi).1; rw [h.len]; simpa using this
  have hli : l[i]? = some l[i] := List.getElem?_eq_getElem hlt
  cases i with
  | zero =>
    cases hi
    rw [hb] at hc; cases hc
    refine ⟨cells0', e, hw.at_, hw.csize, ⟨by rw [hw.csize]; exact h.csz, ?_, h.inr, by simpa using h.len, h.nd, fun n hn => ?_, fun j n d hj hd => ?_⟩⟩
    · rw [hw.cell, if_neg (by simp; omega)]; exact h.sat
    · rw [List.getElem?_set_self (by simpa using hlt)] at hn
      cases hn
      exact hy _ hli (h.root _ hli)
    · rw [List.getElem?_set_ne (by omega)] at hj
      have hne : d ≠ b := by rintro rfl; exact (List.nodup_cons.1 h.nd).1 (List.mem_of_getElem? hd)
      rw [hw.other d hne]
      exact h.at_ j n d hj hd
  | succ i =>
    have hi' : ex[i]? = some c := by simpa using hi
    have hnb : b ≠ c := by rintro rfl; exact (List.nodup_cons.1 h.nd).1 (List.mem_of_getElem? hi')
    refine ⟨cells, eb, by rw [hw.other b hnb]; exact hb, rfl, ⟨h.csz, h.sat, h.inr, by simpa using h.len, h.nd, fun n hn => ?_, fun j n d hj hd => ?_⟩⟩
    · rw [List.getElem?_set_ne (by omega)] at hn
      exact h.root n hn
    · by_cases hji : j = i
      · subst hji
        rw [List.getElem?_set_self (by simpa using hlt)] at hj
        cases hj
        rw [hi'] at hd; cases hd
        obtain ⟨cs, e2, h1, h2, h3⟩ := h.at_ j _ c hli hi'
        rw [hc] at h1; cases h1
        exact ⟨cells0', e, hw.at_, by rw [hw.csize]; exact h2, hy _ hli h3⟩
      · rw [List.getElem?_set_ne (by omega)] at hj
        have hne : d ≠ c := by
          rintro rfl
          exact hji ((List.getElem?_inj (List.getElem?_eq_some_iff.1 hd).1 (List.nodup_cons.1 h.nd).2).1 (by rw [hd, hi']))
        rw [hw.other d hne]
        exact h.at_ j n d hj hd

theorem mrel_storeA {w' : World} (hm : MRel N B w φ m) {k b tot off c : Nat} {cnt : Cnt} {ob ob' : MObj} {cells cells' : Array Value} {e : TypeId} {vs : List Value} (hk : m[k]? = some ob) (hl : live ob = true)
    (hφ : φ[k]? = some (some (b, tot, cnt))) (hfc : foot (b, tot, cnt) c) (hw : Wrote w w' c off vs cells cells' e)
    (hc : ∃ cs e, w'.heap[b]? = some (.cells cs e (0, 0)) ∧ cs.size = tot ∧ OCont (Nof N φ) w' φ b cnt.ex ob' cs ∧ cnt.n ≤ cntO ob') (hnm : isMap ob' = false := by rfl) :
    Tr N B φ w φ w' ∧ MRel N B w' φ (m.set k ob') := by
  have hbd := hm.bd k _ c hφ hfc
  have hkeep : Keeps (Nof N φ) w (Nof N φ) w' := fun p v hp hv => ⟨hp, by
    rw [peek_same (hw.other _ fun e => hp.2 (e ▸ ⟨k, _, hφ, hfc⟩))]; exact hv⟩
  have hmk : k < m.length := (List.getElem?_eq_some_iff.1 hk).1
  refine ⟨⟨⟨hw.os, hw.tape, hw.output, by rw [hw.size]; exact Nat.le_refl _, fun i hi _ => hw.other i fun e => hbd.1 (e ▸ hi)⟩, Ext.refl _, hkeep⟩, ⟨by simp [hm.len], fun j b2 t2 c2 p h hp lp => ?_, fun j x b2 h hf => ?_, fun i j p q x y b2 hi hj lp lq h g hf hg => ?_, hm.gl.mono hkeep⟩⟩
  · rw [List.getElem?_set] at hp
    by_cases hkj : k = j
    · subst hkj
      rw [if_pos rfl, if_pos hmk] at hp
      cases hp
      rw [hφ] at h
      cases h
      exact let ⟨cs, e, h1, h2⟩ := hc; ⟨cs, e, HB.of hnm h1, h2⟩
    · rw [if_neg hkj] at hp
      obtain ⟨cs2, e2, hb2, hs2, hcont, hn⟩ := hm.objs j b2 t2 c2 p h hp lp
      have hbb : b2 ≠ c := fun e => hkj (hm.apart k j ob p _ _ c hk hp hl lp hφ h hfc (.inl e.symm))
      exact ⟨cs2, e2, hb2.mono (hw.other b2 hbb), hs2, hcont.mono hkeep (Ext.refl _) (fun _ d hcx => hw.other d fun e => hkj (hm.apart k j ob p _ _ d hk hp hl lp hφ h (e ▸ hfc) (.inr hcx))), hn⟩
  · have := hm.bd j x b2 h hf
    exact ⟨this.1, by rw [hw.size]; exact this.2⟩
  · have back : ∀ {i : Nat} {p : MObj}, (m.set k ob')[i]? = some p → live p = true → ∃ q, m[i]? = some q ∧ live q = true := fun {i p} h l => by
      rw [List.getElem?_set] at h
      split at h
      · rename_i hki; subst hki; exact ⟨ob, hk, hl⟩
      · exact ⟨p, h, l⟩
    obtain ⟨p', hp', lp'⟩ := back hi lp
    obtain ⟨q', hq', lq'⟩ := back hj lq
    exact hm.apart i j p' q' x y b2 hp' hq' lp' lq' h g hf hg

theorem NdAt.more {bl ex : List Nat} {f : Nat → Option Value} {x : Nd} (h : NdAt bl f x) : NdAt (bl ++ ex) f x :=
  ⟨let ⟨v, a, b⟩ := h.c0; ⟨v, a, b.more⟩, let ⟨v, a, b⟩ := h.c1; ⟨v, a, b.more⟩, h.has, h.val, h.inr⟩
/-- A box becomes a node of a tree. -/
theorem mrel_adopt (hm : MRel N B w φ m) {k j b tot d totd : Nat} {cnt cntd : Cnt} {pn : Option (Nat × List Nat)} {l : List Nd} {n : Int} {cs : List AV} {y : Nd} (hk : m[k]? = some (.arena pn l n)) (hφ : φ[k]? = some (some (b, tot, cnt)))
    (hj : m[j]? = some (.box none cs)) (hφj : φ[j]? = some (some (d, totd, cntd))) (hy : asNode k cs = some y) :
    l.length = cnt.ex.length + 1 ∧ Ext φ (φ.set k (some (b, tot, ⟨cnt.n, cnt.ex ++ [d]⟩))) ∧ Keeps (Nof N φ) w (Nof N (φ.set k (some (b, tot, ⟨cnt.n, cnt.ex ++ [d]⟩)))) w ∧
      MRel N B w (φ.set k (some (b, tot, ⟨cnt.n, cnt.ex ++ [d]⟩))) ((m.set j .dead).set k (.arena pn (l ++ [y]) n)) := by
  have hjk : j ≠ k := by rintro rfl; rw [hk] at hj; cases hj
  have hkl : k < φ.length := (List.getElem?_eq_some_iff.1 hφ).1
  have hkm : k < m.length := (List.getElem?_eq_some_iff.1 hk).1
  have hφk : (φ.set k (some (b, tot, ⟨cnt.n, cnt.ex ++ [d]⟩)))[k]? = some (some (b, tot, ⟨cnt.n, cnt.ex ++ [d]⟩)) := by rw [List.getElem?_set_self hkl]
  have hφo : ∀ {q : Nat}, q ≠ k → (φ.set k (some (b, tot, ⟨cnt.n, cnt.ex ++ [d]⟩)))[q]? = φ[q]? := fun {q} h => List.getElem?_set_ne (Ne.symm h)
  -- where a block of the new places was
  have old : ∀ {q : Nat} {x c}, (φ.set k (some (b, tot, ⟨cnt.n, cnt.ex ++ [d]⟩)))[q]? = some (some x) → foot x c → (∃ y, φ[q]? = some (some y) ∧ foot y c) ∨ (q = k ∧ c = d) := fun {q x c} h hf => by
    by_cases hq : q = k
    · subst hq
      rw [hφk] at h; cases h
      rcases hf with hf | hf
      · exact .inl ⟨_, hφ, .inl hf⟩
      · rcases List.mem_append.1 hf with hf | hf
        · exact .inl ⟨_, hφ, .inr hf⟩
        · exact .inr ⟨rfl, by simpa using hf⟩
    · rw [hφo hq] at h; exact .inl ⟨x, h, hf⟩
  have hown : ∀ c, own (φ.set k (some (b, tot, ⟨cnt.n, cnt.ex ++ [d]⟩))) c → own φ c := fun c ⟨q, x, h, hf⟩ => by
    rcases old h hf with ⟨y, h1, h2⟩ | ⟨_, rfl⟩
    · exact ⟨q, y, h1, h2⟩
    · exact ⟨j, _, hφj, foot_self ..⟩
  have hkeep : Keeps (Nof N φ) w (Nof N (φ.set k (some (b, tot, ⟨cnt.n, cnt.ex ++ [d]⟩)))) w := fun p v hp hv => ⟨⟨hp.1, fun h => hp.2 (hown _ h)⟩, hv⟩
  have hext : Ext φ (φ.set k (some (b, tot, ⟨cnt.n, cnt.ex ++ [d]⟩))) := ⟨fun q b' tot' cnt' h => by
    by_cases hq : q = k
    · subst hq; rw [hφ] at h; cases h; exact ⟨[d], hφk⟩
    · exact ⟨[], by rw [hφo hq, List.append_nil]; exact h⟩, fun q h => by
    have hq : q ≠ k := fun e => by subst e; rw [hφ] at h; cases h
    rw [hφo hq]; exact h⟩
  obtain ⟨cells, e, hb, hst, hcont, hcn⟩ := hm.cells k b tot cnt _ hφ hk rfl
  have hA : ArAt w b cnt.ex l n cells := hcont.2
  obtain ⟨cellsd, ed, hbd, hstd, hcontd, _⟩ := hm.cells j d totd cntd _ hφj hj rfl
  have hnot : d ∉ b :: cnt.ex := fun h => hjk (hm.apart j k _ _ _ _ d hj hk rfl rfl hφj hφ (foot_self ..) (by rcases List.mem_cons.1 h with h | h; exact .inl h; exact .inr h))
  have hat : ∀ {q : Nat} {p : MObj}, ((m.set j .dead).set k (.arena pn (l ++ [y]) n))[q]? = some p → live p = true → (q = k ∧ p = .arena pn (l ++ [y]) n) ∨ (q ≠ k ∧ q ≠ j ∧ m[q]? = some p) := fun {q p} h lp => by
    by_cases hq : q = k
    · subst hq
      rw [List.getElem?_set_self (by simpa using hkm)] at h
      cases h; exact .inl ⟨rfl, rfl⟩
    · rw [List.getElem?_set_ne (Ne.symm hq)] at h
      obtain ⟨h1, h2⟩ := dead_back h lp
      exact .inr ⟨hq, Ne.symm h2, h1⟩
  refine ⟨hA.len, hext, hkeep, ⟨by simp [hm.len], fun q b' tot' cnt' p h hp lp => ?_, fun q x c h hf => ?_, fun q r p p' x x' c hq hr lq lr hx hx' hf hf' => ?_, hm.gl.mono hkeep⟩⟩
  · rcases hat hp lp with ⟨rfl, rfl⟩ | ⟨h1, h2, h3⟩
    · rw [hφk] at h; cases h
      refine ⟨cells, e, hb, hst, ⟨fun b' e' h => ⟨(hcont.1 b' e' h).1, let ⟨r, hr⟩ := (hcont.1 b' e' h).2; ⟨r ++ [d], by rw [hr, List.append_assoc]⟩⟩, ⟨hA.csz, hA.sat, hA.inr, by simp [hA.len], ?_, fun x hx => ?_, fun i x c hi hc => ?_⟩⟩, hcn⟩
      · have : (b :: cnt.ex ++ [d]).Nodup := List.nodup_append.2 ⟨hA.nd, by simp, fun a ha c hc => by
          simp at hc; subst hc; rintro rfl; exact hnot ha⟩
        exact this
      · rw [List.getElem?_append_left (by rw [hA.len]; omega)] at hx
        exact (hA.root x hx).more (ex := [d])
      · by_cases hil : i + 1 < l.length
        · rw [List.getElem?_append_left hil] at hi
          rw [List.getElem?_append_left (by rw [hA.len] at hil; omega)] at hc
          obtain ⟨cs', e', g1, g2, g3⟩ := hA.at_ i x c hi hc
          exact ⟨cs', e', g1, g2, g3.more (ex := [d])⟩
        · have hi' := (List.getElem?_eq_some_iff.1 hi).1
          simp at hi'
          have hie : i = cnt.ex.length := by rw [hA.len] at hi' hil; omega
          subst hie
          rw [← hA.len] at hi
          simp at hi hc
          subst hi; subst hc
          refine ⟨cellsd, ed, hbd, ?_, ?_⟩
          · rw [hcontd.2.1]
            unfold asNode at hy
            split at hy
            · rfl
            · cases hy
          · unfold asNode at hy
            split at hy
            · rename_i u v hh nn
              obtain ⟨o1, ho1, hy⟩ := obind hy
              obtain ⟨o2, ho2, rfl⟩ := omap hy
              obtain ⟨v0, a0, _, r0⟩ := hcontd.2.2 0 _ rfl
              obtain ⟨v1, a1, _, r1⟩ := hcontd.2.2 1 _ rfl
              obtain ⟨v2, a2, _, r2⟩ := hcontd.2.2 2 _ rfl
              obtain ⟨v3, a3, _, r3⟩ := hcontd.2.2 3 _ rfl
              cases r2 with | f r2 => cases r2 with | bool => cases r3 with | f r3 => cases r3 with
              | int hin => exact NdAt.more (ex := [d]) ⟨⟨v0, a0, asNd_ok hφ r0 ho1⟩, ⟨v1, a1, asNd_ok hφ r1 ho2⟩, a2, a3, hin⟩
            · cases hy
    · rw [hφo h1] at h
      obtain ⟨cs', e', g1, g2, g3, g4⟩ := hm.objs q b' tot' cnt' p h h3 lp
      exact ⟨cs', e', g1, g2, g3.mono hkeep hext fun _ _ _ => rfl, g4⟩
  · rcases old h hf with ⟨y, h1, h2⟩ | ⟨_, rfl⟩
    · exact hm.bd q y c h1 h2
    · exact hm.bd j _ c hφj (foot_self ..)
  · rcases hat hq lq with ⟨rfl, rfl⟩ | ⟨h1, h2, h3⟩ <;> rcases hat hr lr with ⟨rfl, rfl⟩ | ⟨g1, g2, g3⟩
    · rfl
    · rw [hφo g1] at hx'
      rcases old hx hf with ⟨y, e1, e2⟩ | ⟨_, rfl⟩
      · exact hm.apart _ _ _ _ _ _ c hk g3 rfl lr e1 hx' e2 hf'
      · exact absurd (hm.apart _ _ _ _ _ _ _ hj g3 rfl lr hφj hx' (foot_self ..) hf') (Ne.symm g2)
    · rw [hφo h1] at hx
      rcases old hx' hf' with ⟨y, e1, e2⟩ | ⟨_, rfl⟩
      · exact hm.apart _ _ _ _ _ _ c h3 hk lq rfl hx e1 hf e2
      · exact absurd (hm.apart _ _ _ _ _ _ _ h3 hj lq rfl hx hφj hf (foot_self ..)) h2
    · rw [hφo h1] at hx
      rw [hφo g1] at hx'
      exact hm.apart _ _ _ _ _ _ c h3 g3 lq lr hx hx' hf hf'

theorem store_run {t : TypeId} (hk : tyOk P t = true) {A : Addr} {v : Value} (hv : v.cells.size = P.cellsOf t) {w' : World} (hr : (storeCells A v.cells.toList 0).run P w = .ok () w') : (Instr.storeAt t (.pointer (some A)) v).run P w = .ok () w' := by
  have hne : ¬ v.cells.size ≠ P.cellsOf t := by simpa using hv
  simp only [Instr.storeAt, Instr.sureAddr, storeVar, Sem.run_bind, Sem.run_pure, Result.andThen_ok, run_sizeOf hk, if_neg hne, hr]

theorem op_store {t : TypeId} {y z : Operand} (ho : o.op = .store t y z) (hk : tyOk P t = true) {ay az : AOpd} (hy : cOpd y = some ay) (hz : cOpd z = some az) (hx : exOp Γ s G m (.store (P.cellsOf t) ay az) = some (x, m', vc))
    (hs : SlotsOk (Nof N φ) w φ s a) (hG : Holds a G) (hm : MRel N B w φ m) : OpOk P o a w (Post N B φ w m' x) := by
  obtain ⟨p, hp, h1⟩ := obind hx
  obtain ⟨q, hq, h2⟩ := obind h1
  obtain ⟨m1, hm1, h3⟩ := obind h2
  obtain ⟨rfl, rfl, _⟩ := ok1_spec h3
  clear hx h1 h2 h3
  have hpr := opd_ok hs hG hy hp
  have hqr := opd_ok hs hG hz hq
  generalize he : a.eval y = ey at hpr
  obtain ⟨xs, hxs, h4⟩ := obind hm1
  have hcr := acells_ok hqr hxs
  cases hl : xs.length == P.cellsOf t with
  | false => rw [hl] at h4; cases h4
  | true =>
  rw [hl] at h4
  simp only [cond_true] at h4
  have hl' : xs.length = P.cellsOf t := by simpa using hl
  have hsz : (a.eval z).cells.size = P.cellsOf t := by have := hcr.1.1; rw [hl'] at this; simpa using this.symm
  have fin : ∀ {b tot off k : Nat} {cnt : Cnt} {ob ob' : MObj}, ey = .pointer (some ⟨b, off, none⟩) → φ[k]? = some (some (b, tot, cnt)) → m[k]? = some ob → celly ob = true → isTab ob' = false → cntO ob ≤ cntO ob' →
      (∀ (cells cells' : Array Value), OCont (Nof N φ) w φ b cnt.ex ob cells → off + P.cellsOf t ≤ cells.size ∧ (cells'.size = cells.size → (∀ (q : Nat), cells'[q]? = if off ≤ q ∧ q < off + P.cellsOf t then (a.eval z).cells.toList[q - off]? else cells[q]?) → OCont (Nof N φ) w φ b cnt.ex ob' cells')) →
      OpOk P o a w (Post N B φ w (m.set k ob') .junk) := fun {b tot off k cnt ob ob'} e0 hφ hkk l1 l2 hcnt hcc => by
    obtain ⟨cells, e, hb, hst, hcont, _⟩ := hm.cells k b tot cnt ob hφ hkk l1
    obtain ⟨hroom, hnew⟩ := hcc cells #[] hcont
    obtain ⟨w', cells', hrun, hw⟩ := store_cells (P := P) (off := off) (a.eval z).cells.toList 0 w cells hcr.2 hb (by simp [hsz]; omega)
    have := mrel_store hm hkk l1 hφ hw hb l2 hcnt (((hcc cells cells' hcont).2) hw.csize (fun q => by have := hw.cell q; simpa [hsz] using this))
    have run : (execOp a.eval o).run P w = .ok .skip w' := by
      simp only [execOp, ho, Sem.run_bind, he, e0, store_run hk hsz hrun, Result.andThen_ok, Sem.run_pure]
    unfold OpOk
    rw [run]
    exact ⟨φ, this.1, this.2, .junk⟩
  have one : ∀ {u : AV}, xs = [u] → ∃ v, P.cellsOf t = 1 ∧ (a.eval z).cells.toList = [v] ∧ VRel (Nof N φ) w φ u v := fun {u} h => by
    subst h
    have h1 := hcr.1.1
    match hcl : (a.eval z).cells.toList, h1 with
    | [v], _ => exact ⟨v, by simpa using hl'.symm, rfl, hcr.1.2 0 u v rfl (by rw [hcl]; rfl)⟩
  have wr : ∀ {c off : Nat} {v : Value} {cells0 : Array Value} {e : TypeId}, ey = .pointer (some ⟨c, off, none⟩) → (a.eval z).cells.toList = [v] → w.heap[c]? = some (.cells cells0 e (0, 0)) → off < cells0.size →
      ∃ w' cells', (execOp a.eval o).run P w = .ok .skip w' ∧ Wrote w w' c off [v] cells0 cells' e := fun {c off v cells0 e} e0 h2 hc0 hlt => by
    obtain ⟨w', cells', hrun, hw⟩ := store_cells (P := P) (off := off) (a.eval z).cells.toList 0 w cells0 hcr.2 hc0 (by rw [h2]; simp; omega)
    refine ⟨w', cells', ?_, by rw [h2] at hw; exact hw⟩
    simp only [execOp, ho, Sem.run_bind, he, e0, store_run hk hsz hrun, Result.andThen_ok, Sem.run_pure]
  have fin0 : ∀ {φ : Phi} {m : Mem} (_ : MRel N B w φ m) {b tot off k i c : Nat} {cnt : Cnt} {pn : Option (Nat × List Nat)} {l : List Nd} {n : Int} {u : AV} {v : Value} {y' : Nd}, ey = .pointer (some ⟨c, off, none⟩) → φ[k]? = some (some (b, tot, cnt)) → m[k]? = some (.arena pn l n) → (b :: cnt.ex)[i]? = some c → (a.eval z).cells.toList = [v] → VRel (Nof N φ) w φ u v →
      ndWr k (l.getD i Nd.z) u off = some y' → ∃ w', (execOp a.eval o).run P w = .ok .skip w' ∧ Tr N B φ w φ w' ∧ MRel N B w' φ (m.set k (.arena pn (l.set i y') n)) := fun {φ m} hm {b tot off k i c cnt pn l n u v y'} e0 hφ hkk hi h2 h3 hy' => by
    obtain ⟨cellsb, eb, hb, hst, hcont, hcn⟩ := hm.cells k b tot cnt _ hφ hkk rfl
    have hA : ArAt w b cnt.ex l n cellsb := hcont.2
    have hoff := ndWr_lt hy'
    have hlt : i < l.length := by have := (List.getElem?_eq_some_iff.1 hi).1; rw [hA.len]; simpa using this
    obtain ⟨cells0, e, hc0, hsz0⟩ : ∃ cells0 e, w.heap[c]? = some (.cells cells0 e (0, 0)) ∧ off < cells0.size := by
      cases i with
      | zero => cases hi; exact ⟨cellsb, eb, hb, by rw [hA.csz]; omega⟩
      | succ i =>
        obtain ⟨cs, e2, g1, g2, _⟩ := hA.at_ i _ c (List.getElem?_eq_getElem hlt) (by simpa using hi)
        exact ⟨cs, e2, g1, by omega⟩
    obtain ⟨w', cells', run, hw⟩ := wr e0 h2 hc0 hsz0
    obtain ⟨cs, e', g1, g2, g3⟩ := arAt_set hA hi hb hc0 hw hoff (y := y') fun x hx hn => ndWr_ok (k := k) (tot := tot) hφ h3 hn (by rwa [show l.getD i Nd.z = x from by simp [List.getD, hx]] at hy') fun q => by
      have := hw.cell q
      by_cases hq : q = off
      · subst hq; simpa using this
      · rw [if_neg (by simp; omega)] at this; rw [if_neg hq]; exact this
    have := mrel_storeA hm hkk rfl hφ (by rcases List.mem_cons.1 (List.mem_of_getElem? hi) with h | h; exact .inl h; exact .inr h) hw (ob' := .arena pn (l.set i y') n) ⟨cs, e', g1, by rw [g2, hst], ⟨hcont.1, g3⟩, hcn⟩
    exact ⟨w', run, this.1, this.2⟩
  have finA : ∀ {b tot off k i c : Nat} {cnt : Cnt} {pn : Option (Nat × List Nat)} {l : List Nd} {n : Int} {u : AV} {y' : Nd}, ey = .pointer (some ⟨c, off, none⟩) → φ[k]? = some (some (b, tot, cnt)) → m[k]? = some (.arena pn l n) → (b :: cnt.ex)[i]? = some c → xs = [u] →
      ndWr k (l.getD i Nd.z) u off = some y' → OpOk P o a w (Post N B φ w (m.set k (.arena pn (l.set i y') n)) .junk) := fun {b tot off k i c cnt pn l n u y'} e0 hφ hkk hi hu hy' => by
    obtain ⟨v, h1, h2, h3⟩ := one hu
    obtain ⟨w', run, t1, t2⟩ := fin0 hm e0 hφ hkk hi h2 h3 hy'
    unfold OpOk
    rw [run]
    exact ⟨φ, t1, t2, .junk⟩
  have finR : ∀ {b tot off k : Nat} {cnt : Cnt} {pn : Option (Nat × List Nat)} {l : List Nd} {n : Int} {u : AV} {ob' : MObj}, ey = .pointer (some ⟨b, off, none⟩) → φ[k]? = some (some (b, tot, cnt)) → m[k]? = some (.arena pn l n) → xs = [u] →
      arWr k pn l n 0 off u = some ob' → OpOk P o a w (Post N B φ w (m.set k ob') .junk) := fun {b tot off k cnt pn l n u ob'} e0 hφ hkk hu hob => by
    unfold arWr at hob
    split at hob
    · split at hob
      · rename_i n'
        cases hob
        obtain ⟨v, h1, h2, h3⟩ := one hu
        obtain ⟨cellsb, eb, hb, hst, hcont, hcn⟩ := hm.cells k b tot cnt _ hφ hkk rfl
        have hA : ArAt w b cnt.ex l n cellsb := hcont.2
        obtain ⟨w', cells', run, hw⟩ := wr e0 h2 hb (by rw [hA.csz]; omega)
        have hcell : ∀ q, q ≠ 4 → cells'[q]? = cellsb[q]? := fun q hq => by rw [hw.cell, if_neg (by simp; omega)]
        have h4' : cells'[4]? = some v := by rw [hw.cell]; simp
        cases h3 with | f h3 => cases h3 with
        | int hin =>
          have ho2 : ∀ c ∈ cnt.ex, w'.heap[c]? = w.heap[c]? := fun c hc => hw.other c (by rintro rfl; exact (List.nodup_cons.1 hA.nd).1 hc)
          have := mrel_storeA hm hkk rfl hφ (foot_self ..) hw (ob' := .arena pn l n') ⟨cells', eb, hw.at_, by rw [hw.csize, hst], ⟨hcont.1, ⟨by rw [hw.csize]; exact hA.csz, h4', hin, hA.len, hA.nd, fun x hx => by
            have hr := hA.root x hx
            exact ⟨by simp only [hcell 0 (by decide)]; exact hr.c0, by simp only [hcell 1 (by decide)]; exact hr.c1, by simp only [hcell 2 (by decide)]; exact hr.has, by simp only [hcell 3 (by decide)]; exact hr.val, hr.inr⟩, fun i x c hi hc => by
            rw [ho2 c (List.mem_of_getElem? hc)]; exact hA.at_ i x c hi hc⟩⟩, hcn⟩
          unfold OpOk
          rw [run]
          exact ⟨φ, this.1, this.2, .junk⟩
      · cases hob
    · obtain ⟨y', hy', rfl⟩ := omap hob
      rename_i i0 off0 _
      exact finA e0 hφ hkk rfl hu hy'
  split at h4
  · rename_i k off
    cases hpr with
    | @ptr _ _ b tot cnt hφ =>
      split at h4
      · rename_i pn cs hkk
        obtain ⟨cs', hcs, rfl⟩ := omap h4
        have hsp := splice_get hcs
        refine fin (off := off) rfl hφ hkk rfl rfl (Nat.le_refl _) fun cells cells' hcont => ⟨by rw [hcont.2.1, ← hl']; exact hsp.2.1, fun hsize hq => ⟨hcont.1, by rw [hsize, hcont.2.1, hsp.1], fun j c hj => ?_⟩⟩
        rw [hsp.2.2, hl'] at hj
        rw [hq]
        split at hj
        · rename_i hc
          rw [if_pos hc]
          have hlt := (List.getElem?_eq_some_iff.1 hj).1
          have hu : (a.eval z).cells.toList[j - off]? = some ((a.eval z).cells.toList[j - off]'(by have := hcr.1.1; omega)) := List.getElem?_eq_getElem (by have := hcr.1.1; omega)
          exact ⟨_, hu, hcr.2 _ (List.mem_of_getElem? hu), hcr.1.2 _ c _ hj hu⟩
        · rename_i hc
          rw [if_neg hc]
          exact hcont.2.2 j c hj
      · rename_i pn l n hkk
        split at h4
        · rename_i u
          obtain ⟨ob', hob, rfl⟩ := omap h4
          exact finR rfl hφ hkk rfl hob
        · cases h4
      · cases h4
  · rename_i k i off
    cases hpr with
    | @nd _ _ _ b tot c cnt hφ hi =>
      split at h4
      · rename_i pn l n u hkk
        obtain ⟨y', hy', rfl⟩ := omap h4
        exact finA rfl hφ hkk hi rfl hy'
      · cases h4
  · rename_i k i v
    cases hpr with
    | @ndx _ _ b tot c _ cnt hφ hi h0 h1 =>
      split at h4
      · rename_i pn l n u hkk
        have hput : ∀ {x : Nd} {o : Option Nat} {K : Nat} {u : AV}, asNd K u = some o → ndWr K x u v.toNat = some (x.put v o) := fun {x o K u} h => by
          have : v = 0 ∨ v = 1 := by omega
          rcases this with rfl | rfl <;> simp [ndWr, h, Nd.put]
        split at h4
        · rename_i oo hoo
          cases h4
          exact finA rfl hφ hkk hi rfl (hput hoo)
        · split at h4
          · rename_i j
            split at h4
            · rename_i cs hjj
              obtain ⟨y', hy', rfl⟩ := omap h4
              obtain ⟨v1, e1, e2, e3⟩ := one rfl
              cases e3 with
              | @ptr _ _ d totd cntd hφj =>
              obtain ⟨hlen, hext, hkeep, hmA⟩ := mrel_adopt hm hkk hφ hjj hφj hy'
              have hmk : k < m.length := (List.getElem?_eq_some_iff.1 hkk).1
              have hkl : k < φ.length := (List.getElem?_eq_some_iff.1 hφ).1
              have hil : i < l.length := by have := (List.getElem?_eq_some_iff.1 hi).1; rw [hlen]; simpa using this
              have hφ' : (φ.set k (some (b, tot, ⟨cnt.n, cnt.ex ++ [d]⟩)))[k]? = some (some (b, tot, ⟨cnt.n, cnt.ex ++ [d]⟩)) := List.getElem?_set_self hkl
              obtain ⟨w', run, t1, t2⟩ := fin0 hmA (u := .nd k l.length 0) rfl hφ' (List.getElem?_set_self (by simpa using hmk)) (more_at (bl := b :: cnt.ex) hi) e2 (.nd hφ' (by rw [hlen]; simp)) (hput (x := (l ++ [y']).getD i Nd.z) (o := some l.length) (by simp [asNd]))
              rw [List.set_set] at t2
              unfold OpOk
              rw [run]
              refine ⟨_, Tr.trans ⟨Bel.refl _ _, hext, hkeep⟩ t1, ?_, .junk⟩
              have hg : (l ++ [y']).getD i Nd.z = l.getD i Nd.z := by simp [List.getD, List.getElem?_append_left hil]
              rw [hg, List.set_append_left _ _ hil] at t2
              exact t2
            · cases h4
          · cases h4
      · cases h4
  · rename_i k v
    cases hpr with
    | @bx _ b tot _ cnt hφ h0 h1 =>
      split at h4
      · rename_i j l u hkk
        obtain ⟨oo, hoo, rfl⟩ := omap h4
        obtain ⟨v1, e1, e2, e3⟩ := one rfl
        have hnd := asNd_ndo e3 hoo
        have hov : oneV v1 = true := hcr.2 v1 (by rw [e2]; simp)
        refine fin (off := v.toNat) rfl hφ hkk rfl rfl (Nat.le_refl _) fun cells cells' hcont => ?_
        obtain ⟨cs0, e0, hb0, hs0, hcont0, _⟩ := hm.cells k b tot cnt _ hφ hkk rfl
        have hlt : v.toNat < l.length := by have := hcont0.1; omega
        refine ⟨by rw [hcont.1, e1]; exact hlt, fun hsize hq => ⟨by rw [hsize, hcont.1]; simp, fun i o hi => ?_⟩⟩
        rw [hq, e1]
        by_cases hin : i = v.toNat
        · subst hin
          rw [List.getElem?_set_self hlt] at hi
          cases hi
          exact ⟨v1, by rw [if_pos (by omega), e2]; simp, hov, hnd⟩
        · rw [List.getElem?_set_ne (Ne.symm hin)] at hi
          rw [if_neg (by omega)]
          exact hcont.2 i o hi
      · cases h4
  · rename_i k z' i off
    cases hpr with
    | @eptr _ _ _ _ b tot cnt hφ hi =>
      split at h4
      · rename_i T l hkk
        cases hz' : T.size == z' with
        | false => rw [hz'] at h4; cases h4
        | true =>
          rw [hz'] at h4
          have hz'' : T.size = z' := by simpa using hz'
          subst hz''
          simp only [cond_true] at h4
          obtain ⟨fs, hfs, h5⟩ := obind h4
          obtain ⟨cs, hcs, h6⟩ := obind h5
          obtain ⟨y', hy', rfl⟩ := omap h6
          have hsp := splice_get hcs
          have hfr := hcr.1.allF hfs
          have hfl : fs.length = P.cellsOf t := by rw [hfr.1]; simp [hsz]
          rw [Sch.enc_length] at hsp
          refine fin (off := i * T.size + off) rfl hφ hkk rfl rfl (by simp [cntO]) fun cells cells' hcont => ?_
          have hil : i < l.length := by
            obtain ⟨_, _, _, _, _, hc⟩ := hm.cells k b tot cnt _ hφ hkk rfl
            exact Nat.lt_of_lt_of_le hi hc
          have hml := mul_lt_len (sz := T.size) hil
          refine ⟨by have := hcont.1; omega, fun hsize hq => ⟨by rw [hsize]; simpa using hcont.1, by simpa using hcont.2.1, fun i2 x2 hx2 => ?_⟩⟩
          rw [List.getElem?_set] at hx2
          by_cases hii : i = i2
          · subst hii
            rw [if_pos rfl, if_pos hil] at hx2
            cases hx2
            refine dec_srel T cs _ hy' _ fun j c hj => ?_
            have hjl := (List.getElem?_eq_some_iff.1 hj).1
            rw [hsp.2.2] at hj
            by_cases hc : off ≤ j ∧ j < off + fs.length
            · rw [if_pos hc] at hj
              have hlt := (List.getElem?_eq_some_iff.1 hj).1
              have hu : (a.eval z).cells.toList[j - off]? = some ((a.eval z).cells.toList[j - off]'(by have := hfr.1; omega)) := List.getElem?_eq_getElem (by have := hfr.1; omega)
              refine ⟨_, ?_, hfr.2 _ c _ hj hu⟩
              rw [hq, if_pos (by omega), show i * T.size + j - (i * T.size + off) = j - off by omega]
              exact hu
            · rw [if_neg hc] at hj
              obtain ⟨v, h1, h2, h3⟩ := srel_enc T _ _ (hcont.2.2 i _ (getD_some (d := T.dflt) hil)) j c hj
              exact ⟨v, by rw [hq, if_neg (by omega)]; exact h1, h3⟩
          · rw [if_neg hii] at hx2
            refine SRel.mono (Keeps.refl _ w) T x2 _ _ (fun j u hj hu => ?_) (hcont.2.2 i2 x2 hx2)
            have := mul_apart (sz := T.size) hj (Ne.symm hii)
            rw [hq, if_neg (by omega)]
            exact hu
      · rename_i T es hkk
        cases hz' : T.size == z' with
        | false => rw [hz'] at h4; cases h4
        | true =>
          rw [hz'] at h4
          have hz'' : T.size = z' := by simpa using hz'
          subst hz''
          simp only [cond_true] at h4
          obtain ⟨cs, hcs, h5⟩ := obind h4
          obtain ⟨cs', hcs', rfl⟩ := omap h5
          have hsp := splice_get hcs'
          have hil := (List.getElem?_eq_some_iff.1 hcs).1
          have hml := mul_lt_len (sz := T.size) hil
          refine fin (off := i * T.size + off) rfl hφ hkk rfl rfl (by simp [cntO]) fun cells cells' hcont => ?_
          have hcl := (hcont.2.2 i cs hcs).1
          refine ⟨by have := hcont.1; omega, fun hsize hq => ⟨by rw [hsize]; simpa using hcont.1, by simpa using hcont.2.1, fun i2 x2 hx2 => ?_⟩⟩
          rw [List.getElem?_set] at hx2
          by_cases hii : i = i2
          · subst hii
            rw [if_pos rfl, if_pos hil] at hx2
            cases hx2
            refine ⟨by rw [hsp.1, hcl], fun j c hj => ?_⟩
            have hjl := (List.getElem?_eq_some_iff.1 hj).1
            rw [hsp.2.2] at hj
            by_cases hc : off ≤ j ∧ j < off + xs.length
            · rw [if_pos hc] at hj
              have hlt := (List.getElem?_eq_some_iff.1 hj).1
              have hu : (a.eval z).cells.toList[j - off]? = some ((a.eval z).cells.toList[j - off]'(by have := hcr.1.1; omega)) := List.getElem?_eq_getElem (by have := hcr.1.1; omega)
              refine ⟨_, ?_, hcr.2 _ (List.mem_of_getElem? hu), hcr.1.2 _ c _ hj hu⟩
              rw [hq, if_pos (by omega), show i * T.size + j - (i * T.size + off) = j - off by omega]
              exact hu
            · rw [if_neg hc] at hj
              obtain ⟨v, h1, h2, h3⟩ := (hcont.2.2 i cs hcs).2 j c hj
              exact ⟨v, by rw [hq, if_neg (by omega)]; exact h1, h2, h3⟩
          · rw [if_neg hii] at hx2
            obtain ⟨h1, h2⟩ := hcont.2.2 i2 x2 hx2
            refine ⟨h1, fun j c hj => ?_⟩
            have hjl := (List.getElem?_eq_some_iff.1 hj).1
            obtain ⟨v, h3, h4, h5⟩ := h2 j c hj
            have := mul_apart (sz := T.size) (show j < T.size by omega) (Ne.symm hii)
            exact ⟨v, by rw [hq, if_neg (by omega)]; exact h3, h4, h5⟩
      · cases h4
  · cases h4
end
end Go.AM
