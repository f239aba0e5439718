/-
  append.
-/
import Derived.Test.YthjhlpbiljpccaaAmOpH
namespace Go.AM
open Go.RowKit

section
variable {P : Program} {N : Nat → Prop} {B : Nat → Prop} {w : World} {φ : Phi} {m : Mem} {o : Oper} {a : Act} {Γ : Env} {s : Slots} {G : List (Nat × Bool)} {x : AV} {m' : Mem} {vc : Bool}

theorem srel_cells {N : Nat → Prop} {w : World} : (s : Sch) → (x : s.den) → (f : Nat → Option Value) → SRel N w s x f → ∀ j, j < s.size → ∃ v, f j = some v ∧ oneV v = true
  | .nil, _, _, _, _, h => by simp [Sch.size] at h
  | .cons _ _, _, _, h, 0, _ => by obtain ⟨⟨v, hv, ho, _⟩, _⟩ := h; exact ⟨v, hv, ho⟩
  | .cons _ s, x, _, h, j + 1, hj => srel_cells s x.2 _ h.2 j (by simp [Sch.size] at hj; exact hj)

/-- What append is handed: so many elements, these cells. -/
structure Src (P : Program) (w : World) (sz n : Nat) (yv : Value) (vs : List Value) : Prop where
  len : (Builtin.lenOf yv).run P w = .ok n w
  run : (Builtin.firstCells sz n yv).run P w = .ok vs.toArray w
  rund : (Builtin.firstCells sz n yv).run P w.drew = .ok vs.toArray w.drew
  ones : Ones vs
  size : vs.length = n * sz

def TRel (N : Nat → Prop) (w : World) (T : Sch) (l : List T.den) (vs : List Value) : Prop := ∀ (i : Nat) (x : T.den), l[i]? = some x → SRel N w T x (fun j => vs[i * T.size + j]?)
def AERel (N : Nat → Prop) (w : World) (φ : Phi) (sz : Nat) (es : List (List AV)) (vs : List Value) : Prop := ERel N w φ sz es vs.toArray

theorem src_of {sz n c : Nat} {A : Addr} (h : ∀ p, p < n * sz → ∃ v, w.cell? (A.add p) = some v ∧ oneV v = true) :
    ∃ vs, Src P w sz n (.slice (some A) n c) vs ∧ ∀ p, p < n * sz → vs[p]? = w.cell? (A.add p) := by
  have hall : ∀ p, ∃ v, p < n * sz → (w.cell? (A.add p) = some v ∧ oneV v = true) := fun p => by
    by_cases hp : p < n * sz
    · obtain ⟨v, hv⟩ := h p hp; exact ⟨v, fun _ => hv⟩
    · exact ⟨undef, fun h => absurd h hp⟩
  obtain ⟨f, hf⟩ := Classical.axiomOfChoice hall
  refine ⟨(List.range (n * sz)).map f, ⟨rfl, ?_, ?_, fun v hv => ?_, by simp⟩, fun p hp => ?_⟩
  · simp only [Builtin.firstCells]
    exact run_loadCells w A (n * sz) f (fun j hj => (hf j hj).1)
  · simp only [Builtin.firstCells]
    exact run_loadCells w.drew A (n * sz) f (fun j hj => (hf j hj).1)
  · simp at hv
    obtain ⟨j, hj, rfl⟩ := hv
    exact (hf j hj).2
  · rw [(hf p hp).1]; simp [hp]
theorem src_nil {sz c : Nat} {A : Option Addr} : Src P w sz 0 (.slice A 0 c) [] := by
  refine ⟨rfl, ?_, ?_, (fun v hv => by cases hv), by simp⟩ <;> cases A with
  | none => rfl
  | some a => simp [Builtin.firstCells, loadCells, loadCellsFrom]

theorem div_cell {p n sz : Nat} (hp : p < n * sz) : p / sz < n ∧ p % sz < sz ∧ p / sz * sz + p % sz = p := by
  have hs : 0 < sz := by
    rcases Nat.eq_zero_or_pos sz with rfl | h
    · simp at hp
    · exact h
  exact ⟨by rw [Nat.div_lt_iff_lt_mul hs]; exact hp, Nat.mod_lt _ hs, by rw [Nat.mul_comm]; exact Nat.div_add_mod p sz⟩

/-- Typed elements that lie in a row from an address on. -/
theorem src_typed {T : Sch} {l : List T.den} {c : Nat} {A : Addr} (h : ∀ (i : Nat) (x : T.den), l[i]? = some x → SRel (Nof N φ) w T x (fun j => w.cell? (A.add (i * T.size + j)))) :
    ∃ vs, Src P w T.size l.length (.slice (some A) l.length c) vs ∧ TRel (Nof N φ) w T l vs := by
  obtain ⟨vs, h1, h2⟩ := src_of (P := P) (w := w) (sz := T.size) (n := l.length) (c := c) (A := A) (fun p hp => by
    obtain ⟨a1, a2, a3⟩ := div_cell hp
    obtain ⟨v, hv, ho⟩ := srel_cells T _ _ (h (p / T.size) _ (List.getElem?_eq_getElem a1)) (p % T.size) a2
    exact ⟨v, by rw [a3] at hv; exact hv, ho⟩)
  refine ⟨vs, h1, fun i x hi => SRel.mono (Keeps.refl _ w) T x _ _ (fun j u hj hu => ?_) (h i x hi)⟩
  have hil := (List.getElem?_eq_some_iff.1 hi).1
  have := mul_lt_len (sz := T.size) hil
  rw [h2 _ (by omega)]
  exact hu

theorem frzE_asF {T : Sch} : ∀ (es : List (List AV)) (l : List T.den), frzE asF T es = some l → l.length = es.length ∧ ∀ (i : Nat) (x : T.den), l[i]? = some x → ∃ e fs, es[i]? = some e ∧ e = fs.map AV.f ∧ T.dec fs = some x
  | [], l, h => by cases h; exact ⟨rfl, fun i x hx => by simp at hx⟩
  | e :: es, l, h => by
    obtain ⟨x, hx, h1⟩ := obind h
    obtain ⟨fs, hfs, hd⟩ := obind hx
    obtain ⟨xs, hxs, rfl⟩ := omap h1
    obtain ⟨h2, h3⟩ := frzE_asF es xs hxs
    have hfe : ∀ (e : List AV) (fs : List FV), frzL asF e = some fs → e = fs.map AV.f := fun e => by
      induction e with
      | nil => intro fs h; cases h; rfl
      | cons v r ih =>
        intro fs h
        obtain ⟨y, hy, h⟩ := obind h
        obtain ⟨ys, hys, rfl⟩ := omap h
        cases v <;> simp only [asF, reduceCtorEq, Option.some.injEq] at hy
        subst hy
        simp [ih ys hys]
    refine ⟨by simp [h2], fun i y hy => ?_⟩
    cases i with
    | zero => simp at hy; subst hy; exact ⟨e, fs, rfl, hfe e fs hfs, hd⟩
    | succ i => exact h3 i y (by simpa using hy)

theorem erel_typed {T : Sch} {es : List (List AV)} {l : List T.den} {cells : Array Value} (h : ERel (Nof N φ) w φ T.size es cells) (hf : frzE asF T es = some l) :
    ∀ (i : Nat) (x : T.den), l[i]? = some x → SRel (Nof N φ) w T x (fun j => cells[i * T.size + j]?) := fun i x hx => by
  obtain ⟨h2, h3⟩ := frzE_asF es l hf
  obtain ⟨e, fs, he, rfl, hd⟩ := h3 i x hx
  obtain ⟨_, hc⟩ := h i _ he
  refine dec_srel T fs x hd _ fun j c hj => ?_
  obtain ⟨v, hv, _, hr⟩ := hc j (.f c) (by simp [hj])
  cases hr with | f hr => exact ⟨v, hv, hr⟩

theorem op_bslF {t e : TypeId} {n : Nat} {ps : Array (Nat × Operand)} (ho : o.op = .buildSlice t n ps) (ht : P.underlying t = some (.slice e)) (hk : tyOk P e = true) (hn : 0 < n) (hcap : n * P.cellsOf e ≤ 4096) (hpos : 0 < P.cellsOf e)
    {T : Sch} (hT : T.size = P.cellsOf e) {z : List AV} {aps : List (Nat × AOpd)} (hz : zeroA P e = some z) (hp : cPartsS ps.toList = some aps) (hx : exOp Γ s G m (.bslF T z n aps) = some (x, m', vc))
    (hs : SlotsOk (Nof N φ) w φ s a) (hG : Holds a G) (hN : ∀ b, ¬ B b → N b) (hm : MRel N B w φ m) (hB : ∀ b, B b → b < w.heap.size) : OpOk P o a w (Post N B φ w m' x) := by
  obtain ⟨vs, hvs, h1⟩ := obind hx
  cases hzl : z.length == T.size with
  | false => rw [hzl] at h1; cases h1
  | true =>
  rw [hzl] at h1
  obtain ⟨es, hes, h3⟩ := obind h1
  obtain ⟨l, hl, h2⟩ := obind h3
  obtain ⟨rfl, rfl, _⟩ := ok1_spec h2
  obtain ⟨v, hr, hv⟩ := zeroA_run hz
  have hv0 := hv (Nof N φ) w φ
  have hzl' : z.length = T.size := by simpa using hzl
  have hvs' : v.cells.size = T.size := by have := hv0.1.1; rw [hzl'] at this; simpa using this.symm
  have hsz0 : 0 < T.size := by omega
  have hE0 : ERel (Nof N φ) w φ T.size (List.replicate n z) ((Array.range (n * T.size)).map (v.cells[· % v.cells.size]!)) := fun i cs hi => by
    rw [List.getElem?_replicate] at hi
    split at hi
    · rename_i hin
      cases hi
      refine ⟨hzl', fun j c hj => ?_⟩
      have hjl := (List.getElem?_eq_some_iff.1 hj).1
      have hb := mul_lt_len (sz := T.size) hin
      have hvj : v.cells.toList[j]? = some (v.cells.toList[j]'(by simp; omega)) := List.getElem?_eq_getElem (by simp; omega)
      refine ⟨_, ?_, hv0.2 _ (List.mem_of_getElem? hvj), hv0.1.2 j c _ hj hvj⟩
      have hmod : (i * T.size + j) % T.size = j := by
        rw [Nat.add_comm, Nat.add_mul_mod_self_right, Nat.mod_eq_of_lt (by omega)]
      have hlt : i * T.size + j < n * T.size := by omega
      have hjv : j < v.cells.size := by omega
      simp [hlt, hvs', hmod, getElem!_pos v.cells j hjv]
    · cases hi
  obtain ⟨cells, e1, e2, e3, e4⟩ := fillE_ok hs hG ps.toList aps vs _ es _ hp hvs hes hE0 (by simp)
  simp only [List.length_replicate] at e3
  simp only [Array.size_map, Array.size_range] at e4
  have hrun : (execOp a.eval o).run P w = .ok (.value (.slice (some ⟨w.heap.size, 0, none⟩) n n)) (w.alloc (.cells cells e)) := by
    have hmap : (ps.map fun (i, x) => (i, a.eval x)).toList = ps.toList.map fun p => (p.1, a.eval p.2) := by simp
    have hgt : ¬ n * P.cellsOf e > 2 ^ 24 := by omega
    have hne : ¬ n * P.cellsOf e = 0 := by
      have := Nat.mul_pos hn hpos; omega
    rw [hT] at e1
    simp only [execOp, ho, Instr.buildSlice, Sem.run_bind, run_underlying ht, Result.andThen_ok, run_sizeOf hk, if_neg hgt, if_neg hne, hr, Sem.run_pure, Sem.run_ite]
    rw [hmap, e1]
    simp [newRow]
  have hb : Below w.heap.size w (w.alloc (.cells cells e)) := ⟨rfl, rfl, rfl, by simp, fun k hk => Below.heap_alloc w _ k hk⟩
  obtain ⟨tr, mr⟩ := mrel_keep hm hb
  have hll := (frzE_asF es l hl).1
  have hm1 : n ≤ maxLen := by
    have h3 : n * 1 ≤ n * T.size := Nat.mul_le_mul_left _ hsz0
    have h4 : n * T.size ≤ 4096 := by rw [hT]; exact hcap
    unfold maxLen; omega
  unfold OpOk
  rw [hrun]
  refine ⟨φ, tr, mr, .f (.fs ⟨some ⟨w.heap.size, 0, none⟩, n, ?_, ?_, ?_, fun _ _ => ⟨_, rfl, ⟨hN _ fun h => ?_, fun ⟨k, y, h, hf⟩ => ?_⟩, fun i y hy => ?_⟩⟩)⟩
  · show _ = Value.slice _ l.length n
    rw [hll, e3]
  · show l.length ≤ maxLen
    omega
  · show l.length ≤ n
    omega
  · exact absurd (hB _ h) (Nat.lt_irrefl _)
  · exact absurd (hm.bd k y _ h hf).2 (Nat.lt_irrefl _)
  · refine SRel.mono tr.keeps T y _ _ (fun j u hj hu => ?_) (erel_typed e2 hl i y hy)
    show World.cell? _ (Addr.add _ _) = some u
    rw [addr_add]
    simp only [World.cell?, World.alloc, Array.getElem?_push_size]
    simpa using hu

/-- An own slice's elements: their cells. -/
theorem sl_at (hm : MRel N B w φ m) {k z off len : Nat} {yv : Value} (hr : VRel (Nof N φ) w φ (.sl k z off len) yv) {ob : MObj} (hk : m[k]? = some ob) (hl : celly ob = true) :
    (len = 0 ∧ ∃ A c, yv = .slice A 0 c) ∨ ∃ b c cells e, yv = .slice (some ⟨b, off * z, none⟩) len c ∧ w.heap[b]? = some (.cells cells e (0, 0)) ∧ (∃ ex, OCont (Nof N φ) w φ b ex ob cells) ∧ off + len ≤ cntO ob ∧ (off + c) * z ≤ cells.size ∧ len ≤ c := by
  cases hr with
  | @sl _ _ _ _ c A hlen hmx h =>
    rcases Nat.eq_zero_or_pos len with rfl | hpos
    · exact .inl ⟨rfl, A, c, rfl⟩
    · obtain ⟨b, tot, cnt, hφ, rfl, ht, hc⟩ := h (by omega)
      obtain ⟨cells, e, hb, hs, hcont, hn⟩ := hm.cells k b tot cnt ob hφ hk hl
      exact .inr ⟨b, c, cells, e, rfl, hb, ⟨_, hcont⟩, Nat.le_trans hc hn, by rw [hs]; exact ht, hlen⟩

theorem take_drop_get {α : Type} {l : List α} {off len i : Nat} {x : α} (h : ((l.drop off).take len)[i]? = some x) : l[off + i]? = some x ∧ i < len := by
  rw [List.getElem?_take] at h
  split at h
  · rename_i hi; rw [List.getElem?_drop] at h; exact ⟨h, hi⟩
  · cases h

theorem appSrc_ok (hm : MRel N B w φ m) {T : Sch} (hpos : 0 < T.size) {y : AV} {yv : Value} (hr : VRel (Nof N φ) w φ y yv) {ys : List T.den} (h : appSrc m T y = some ys) :
    ∃ vs, Src P w T.size ys.length yv vs ∧ TRel (Nof N φ) w T ys vs := by
  have empty : ∀ {A c}, yv = .slice A 0 c → ys.length = 0 → ∃ vs, Src P w T.size ys.length yv vs ∧ TRel (Nof N φ) w T ys vs := fun {A c} e hz => by
    subst e
    rw [hz]
    refine ⟨[], src_nil, fun i x hx => ?_⟩
    rw [List.eq_nil_of_length_eq_zero hz] at hx; simp at hx
  unfold appSrc at h
  split at h
  · rename_i U l
    obtain ⟨hh, _, rfl⟩ := omap h
    cases hr with
    | f hr =>
    cases hr with
    | fs hr =>
    have hr2 := castL_rel hh hr
    obtain ⟨A, cap, rfl, hmx, hc, hcell⟩ := hr2
    rcases Nat.eq_zero_or_pos (castL hh l).length with hz | hp
    · exact empty (by rw [show lenD (T := T) (castL hh l) = 0 from hz]) hz
    · obtain ⟨a, rfl, _, hcc⟩ := hcell hp hpos
      exact src_typed (fun i x hx => hcc i x hx)
  · cases h
    cases hr with
    | f hr =>
    cases hr with
    | nils => exact empty rfl rfl
  · rename_i k z off len
    split at h
    · rename_i U l hk
      cases hz : U.size == z with
      | false => rw [hz] at h; cases h
      | true =>
        rw [hz] at h
        simp only [cond_true] at h
        obtain ⟨hh, _, rfl⟩ := omap h
        obtain ⟨rfl⟩ := hh
        have hz' : U.size = z := by simpa using hz
        subst hz'
        rcases sl_at hm hr hk rfl with ⟨rfl, A, c, rfl⟩ | ⟨b, c, cells, e, rfl, hb, ⟨_, hcont⟩, hcnt, hcap, hlc⟩
        · exact empty rfl (by simp [castL])
        · have hlen : (castL ⟨rfl⟩ ((l.drop off).take len)).length = len := by
            simp only [castL, List.length_take, List.length_drop]
            simp only [cntO] at hcnt
            omega
          have := src_typed (P := P) (N := N) (φ := φ) (w := w) (T := U) (l := (l.drop off).take len) (c := c) (A := ⟨b, off * U.size, none⟩) (fun i x hx => by
            obtain ⟨h1, h2⟩ := take_drop_get hx
            refine SRel.mono (Keeps.refl _ w) U x _ _ (fun j u hj hu => ?_) (hcont.2.2 (off + i) x h1)
            rw [addr_add]
            simp only [World.cell?, hb]
            rw [Nat.add_mul, Nat.add_assoc] at hu
            simpa using hu)
          have hlen' : ((l.drop off).take len).length = len := hlen
          rw [hlen'] at this
          rw [hlen]
          exact this
    · rename_i U es hk
      cases hz : U.size == z && U.size == T.size with
      | false => rw [hz] at h; cases h
      | true =>
        rw [hz] at h
        simp only [Bool.and_eq_true, beq_iff_eq] at hz
        simp only [cond_true] at h
        obtain ⟨hz1, hz2⟩ := hz
        subst hz1
        have hfl := (frzE_asF _ _ h).1
        rcases sl_at hm hr hk rfl with ⟨rfl, A, c, rfl⟩ | ⟨b, c, cells, e, rfl, hb, ⟨_, hcont⟩, hcnt, hcap, hlc⟩
        · exact empty rfl (by rw [hfl]; simp)
        · have hlen : ys.length = len := by
            rw [hfl]; simp only [List.length_take, List.length_drop]
            simp only [cntO] at hcnt
            omega
          obtain ⟨h2, h3⟩ := frzE_asF _ _ h
          have := src_typed (P := P) (N := N) (φ := φ) (w := w) (T := T) (l := ys) (c := c) (A := ⟨b, off * U.size, none⟩) (fun i x hx => by
            obtain ⟨e, fs, he, rfl, hd⟩ := h3 i x hx
            obtain ⟨h4, h5⟩ := take_drop_get he
            obtain ⟨_, hc⟩ := hcont.2.2 (off + i) _ h4
            refine dec_srel T fs x hd _ fun j c hj => ?_
            obtain ⟨v, hv, _, hr⟩ := hc j (.f c) (by simp [hj])
            cases hr with
            | f hr =>
              refine ⟨v, ?_, hr⟩
              rw [addr_add]
              simp only [World.cell?, hb]
              rw [Nat.add_mul, Nat.add_assoc] at hv
              rw [← hz2]
              simpa using hv)
          rw [hlen] at this
          rw [hlen]
          exact this
    · cases h
  · cases h

theorem appSrcA_ok (hm : MRel N B w φ m) {sz : Nat} {y : AV} {yv : Value} (hr : VRel (Nof N φ) w φ y yv) {es : List (List AV)} (h : appSrcA m sz y = some es) :
    ∃ vs, Src P w sz es.length yv vs ∧ AERel (Nof N φ) w φ sz es vs := by
  unfold appSrcA at h
  split at h
  · rename_i k z off len
    split at h
    · rename_i U es' hk
      cases hz : U.size == z && U.size == sz with
      | false => rw [hz] at h; cases h
      | true =>
        rw [hz] at h; cases h
        simp only [Bool.and_eq_true, beq_iff_eq] at hz
        obtain ⟨hz1, hz2⟩ := hz
        subst hz1; subst hz2
        rcases sl_at hm hr hk rfl with ⟨rfl, A, c, rfl⟩ | ⟨b, c, cells, e, rfl, hb, ⟨_, hcont⟩, hcnt, hcap, hlc⟩
        · simp only [List.take_zero, List.length_nil]
          exact ⟨[], src_nil, fun i cs hi => by simp at hi⟩
        · have hlen : ((es'.drop off).take len).length = len := by
            simp only [List.length_take, List.length_drop]
            simp only [cntO] at hcnt
            omega
          rw [hlen]
          have hcell : ∀ p, p < len * U.size → w.cell? ((⟨b, off * U.size, none⟩ : Addr).add p) = cells[off * U.size + p]? := fun p hp => by
            rw [addr_add]; simp [World.cell?, hb]
          have hget : ∀ (i : Nat), i < len → ∃ cs, es'[off + i]? = some cs ∧ ((es'.drop off).take len)[i]? = some cs := fun i hi => by
            simp only [cntO] at hcnt
            have h1 : off + i < es'.length := by omega
            exact ⟨_, List.getElem?_eq_getElem h1, by rw [List.getElem?_take, if_pos hi, List.getElem?_drop]; exact List.getElem?_eq_getElem h1⟩
          obtain ⟨vs, h1, h2⟩ := src_of (P := P) (w := w) (sz := U.size) (n := len) (c := c) (A := ⟨b, off * U.size, none⟩) (fun p hp => by
            obtain ⟨a1, a2, a3⟩ := div_cell hp
            obtain ⟨cs, hcs, _⟩ := hget _ a1
            obtain ⟨hl, hc⟩ := hcont.2.2 _ cs hcs
            obtain ⟨v, hv, ho, _⟩ := hc (p % U.size) _ (List.getElem?_eq_getElem (by omega))
            refine ⟨v, ?_, ho⟩
            rw [hcell p hp, ← hv, Nat.add_mul]
            congr 1; omega)
          refine ⟨vs, h1, fun i cs hi => ?_⟩
          obtain ⟨h4, h5⟩ := take_drop_get hi
          obtain ⟨hl, hc⟩ := hcont.2.2 (off + i) cs h4
          refine ⟨hl, fun j c' hj => ?_⟩
          have hjl := (List.getElem?_eq_some_iff.1 hj).1
          obtain ⟨v, hv, ho, hrr⟩ := hc j c' hj
          have hml := mul_lt_len (sz := U.size) h5
          refine ⟨v, ?_, ho, hrr⟩
          rw [List.getElem?_toArray, h2 _ (by omega), hcell _ (by omega), ← hv, Nat.add_mul]
          congr 1; omega
    · cases h
  · cases h
end
end Go.AM
