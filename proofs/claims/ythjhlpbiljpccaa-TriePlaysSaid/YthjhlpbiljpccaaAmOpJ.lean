/-
  append, both ways.
-/
import Derived.Test.YthjhlpbiljpccaaAmOpI
namespace Go.AM
open Go.RowKit

section
variable {P : Program} {N : Nat → Prop} {B : Nat → Prop} {w : World} {φ : Phi} {m : Mem} {o : Oper} {a : Act} {Γ : Env} {s : Slots} {G : List (Nat × Bool)} {x : AV} {m' : Mem} {vc : Bool}

/-- An object more, in a block whose object has been given up. -/
theorem mrel_reuse {w' : World} (hm : MRel N B w φ m) {k b tot off : Nat} {cnt : Cnt} {ob : MObj} {cells cells' : Array Value} {e : TypeId} {vs : List Value}
    (hφ : φ[k]? = some (some (b, tot, cnt))) (hno : ∀ (j : Nat) p x, m[j]? = some p → live p = true → φ[j]? = some (some x) → foot x b → False) (hw : Wrote w w' b off vs cells cells' e) (hc0 : w.heap[b]? = some (.cells cells e (0, 0))) (hsize : cells.size = tot)
    (hnt : isTab ob = false) (hc : OCont (Nof N φ) w φ b [] ob cells') : Tr N B φ w (φ ++ [some (b, tot, cN (cntO ob))]) w' ∧ MRel N B w' (φ ++ [some (b, tot, cN (cntO ob))]) (m ++ [ob]) := by
  have hbd := hm.bd k _ b hφ (foot_self ..)
  have hown : ∀ c, own (φ ++ [some (b, tot, cN (cntO ob))]) c → own φ c := fun c h => by
    rcases own_snoc h with h | ⟨t, ht, hf⟩
    · exact h
    · injection ht with ht; subst ht; rw [foot_cN] at hf; subst hf; exact ⟨k, _, hφ, foot_self ..⟩
  have hkeep : Keeps (Nof N φ) w (Nof N (φ ++ [some (b, tot, cN (cntO ob))])) w' := fun p v hp hv => ⟨⟨hp.1, fun h => hp.2 (hown _ h)⟩, by
    rw [peek_same (hw.other _ fun e => hp.2 (e ▸ ⟨k, _, hφ, foot_self ..⟩))]; exact hv⟩
  have hext : Ext φ (φ ++ [some (b, tot, cN (cntO ob))]) := Ext.snoc _ _
  refine ⟨⟨⟨hw.os, hw.tape, hw.output, by rw [hw.size]; exact Nat.le_refl _, fun i hi _ => hw.other i fun e => hbd.1 (e ▸ hi)⟩, hext, hkeep⟩, ⟨by simp [hm.len], fun j c t2 c2 p h hp lp => ?_, fun j x c h hf => ?_, fun i j p q x y c hi hj lp lq h g hf hg => ?_, hm.gl.mono hkeep⟩⟩
  · rcases snoc_split h with ⟨hj, h'⟩ | ⟨rfl, h'⟩
    · rw [List.getElem?_append_left (by rw [← hm.len]; exact hj)] at hp
      obtain ⟨cs2, e2, hb2, hs2, hcont, hn⟩ := hm.objs j c t2 c2 p h' hp lp
      have hcb : c ≠ b := fun e => hno j p _ hp lp h' (.inl e.symm)
      exact ⟨cs2, e2, hb2.mono (hw.other c hcb), hs2, hcont.mono hkeep hext (fun _ d hd => hw.other d fun e => hno j p _ hp lp h' (.inr (e ▸ hd))), hn⟩
    · injection h' with h'
      injection h' with h0 h'
      injection h' with h1 h2
      subst h0; subst h1; subst h2
      rw [hm.len, List.getElem?_append_right (Nat.le_refl _)] at hp
      simp at hp
      subst hp
      exact ⟨cells', e, HB.of (isMap_tab hnt) hw.at_, by rw [hw.csize]; exact hsize, hc.mono hkeep hext (fun _ c hcx => by simp at hcx), Nat.le_refl _⟩
  · rcases snoc_split h with ⟨hj, h'⟩ | ⟨rfl, h'⟩
    · have := hm.bd j x c h' hf; exact ⟨this.1, by rw [hw.size]; exact this.2⟩
    · injection h' with h'; subst h'; rw [foot_cN] at hf; subst hf
      exact ⟨hbd.1, by rw [hw.size]; exact hbd.2⟩
  · rcases snoc_split h with ⟨hi', h'⟩ | ⟨rfl, h'⟩ <;> rcases snoc_split g with ⟨hj', g'⟩ | ⟨rfl, g'⟩
    · exact hm.apart i j p q x y c (by rwa [List.getElem?_append_left (by rw [← hm.len]; exact hi')] at hi) (by rwa [List.getElem?_append_left (by rw [← hm.len]; exact hj')] at hj) lp lq h' g' hf hg
    · injection g' with g'; subst g'; rw [foot_cN] at hg; subst hg
      exact (hno i p x (by rwa [List.getElem?_append_left (by rw [← hm.len]; exact hi')] at hi) lp h' hf).elim
    · injection h' with h'; subst h'; rw [foot_cN] at hf; subst hf
      exact (hno j q y (by rwa [List.getElem?_append_left (by rw [← hm.len]; exact hj')] at hj) lq g' hg).elim
    · rfl

theorem growBy_le (n : Nat) : ∀ (r c : Nat), Builtin.growBy n r c ≤ max c (2 * n + 768)
  | 0, c => by simp [Builtin.growBy]; omega
  | r + 1, c => by
    simp only [Builtin.growBy]
    split
    · omega
    · have := growBy_le n r (c + (c + 768) / 4)
      omega
theorem nextcap_le {need cap : Nat} (h : cap < need) : Builtin.nextslicecap need cap ≤ 2 * need + 768 := by
  unfold Builtin.nextslicecap
  split
  · omega
  · split
    · omega
    · have := growBy_le need 4 cap
      omega

theorem zeroCells_get {z : Array Value} {n p : Nat} (hz : 0 < z.size) (hp : p < n * z.size) : (Builtin.zeroCells z n)[p]? = some (z[p % z.size]'(Nat.mod_lt _ hz)) := by
  have := getElem!_pos z (p % z.size) (Nat.mod_lt _ hz)
  simp [Builtin.zeroCells, hp, this]

/-- What append comes to, either way. -/
theorem append_run {t u e e2 : TypeId} {i : TypeInfo} {zv : Value} (ht : P.underlying t = some (.slice e)) (hu : P.underlying u = some (.slice e2)) (hi : P.info? e = some i) (hz : ∀ w : World, (zeroValue e).run P w = .ok zv w) (_hzs : zv.cells.size = i.size)
    (hbp : 0 < i.bytes) (hbm : i.bytes ≤ 4096) {base : Option Addr} {len cap n : Nat} {yv : Value} {vs old : List Value} (hn : len + n ≤ roomy) (hy : Src P w i.size n yv vs) (hold : Src P w i.size len (.slice base len cap) old) (ty : TypeId) :
    (len + n ≤ cap ∧ (Builtin.append_ #[t, u] ty #[.slice base len cap, yv]).run P w =
      ((match base with | some a => storeCells (a.add (len * i.size)) vs | none => pure ()).run P w).andThen fun _ w' => .ok (.slice base (len + n) cap) w') ∨
    (cap < len + n ∧ ∃ newCap, len + n ≤ newCap ∧ (Builtin.append_ #[t, u] ty #[.slice base len cap, yv]).run P w =
      .ok (.slice (some ⟨w.heap.size, 0, none⟩) (len + n) newCap) (w.drew.alloc (.cells (old.toArray ++ vs.toArray ++ Builtin.zeroCells zv.cells (newCap - (len + n))) e))) := by
  have hsz : ∀ w : World, (sizeOf e).run P w = .ok i.size w := fun w => by simp [sizeOf, typeInfo, hi]
  have hti : ∀ w : World, (typeInfo e).run P w = .ok i w := fun w => by simp [typeInfo, hi]
  rcases Nat.lt_or_ge cap (len + n) with h | h
  · refine .inr ⟨h, ?_⟩
    have hnc : ¬ Builtin.nextslicecap (len + n) cap * i.bytes > 2 ^ 48 := by
      have h1 := nextcap_le h
      have h2 := Nat.mul_le_mul h1 hbm
      unfold roomy at hn
      omega
    have hb0 : ¬ i.bytes = 0 := by omega
    have hf : (Question.appendCap (len + n) cap e).forced = false := rfl
    have hle : ¬ len + n ≤ cap := by omega
    have hnc' : ¬ 281474976710656 < Builtin.nextslicecap (len + n) cap * i.bytes := by omega
    refine ⟨(Question.appendCap (len + n) cap e).cut (w.tape w.drawn (Question.appendCap (len + n) cap e)), Nat.le_add_right _ _, ?_⟩
    simp [Builtin.append_, run_underlying ht, run_underlying hu, hsz, hti, hz, hy.len, hb0, if_neg hle, if_neg hnc', hf, hold.rund, hy.rund, newRow]
    congr 2
    apply Array.ext'
    simp
  · refine .inl ⟨h, ?_⟩
    simp [Builtin.append_, run_underlying ht, run_underlying hu, hsz, hy.len, h, hy.run]
    cases base <;> simp

/-- The cells of the longer row. -/
structure Joined (sz len n : Nat) (old vs : List Value) (cells : Array Value) : Prop where
  room : (len + n) * sz ≤ cells.size
  fst : ∀ (p : Nat), p < len * sz → cells[p]? = old[p]?
  snd : ∀ (p : Nat), p < n * sz → cells[len * sz + p]? = vs[p]?

theorem app_core {t u e e2 : TypeId} {i : TypeInfo} {zv : Value} (ht : P.underlying t = some (.slice e)) (hu : P.underlying u = some (.slice e2)) (hi : P.info? e = some i) (hz : ∀ w : World, (zeroValue e).run P w = .ok zv w) (hzs : zv.cells.size = i.size)
    (hbp : 0 < i.bytes) (hbm : i.bytes ≤ 4096) {base : Option Addr} {len cap n : Nat} {xv yv : Value} (hxv : xv = .slice base len cap) {vs old : List Value} (hn : len + n ≤ roomy) (hlc : len ≤ cap) (hy : Src P w i.size n yv vs) (hold : Src P w i.size len (.slice base len cap) old)
    {c : Call} {y z : Operand} (hoc : o.op = .call c) (hcc : c.callee = .builtin .append) (hca : c.args.toList = [y, z]) (hct : c.argTypes.toList = [t, u]) (hey : a.eval y = xv) (hez : a.eval z = yv)
    (hm : MRel N B w φ m) (hB : ∀ b, B b → b < w.heap.size) {ob : MObj} (hnt : isTab ob = false) (hcnt : cntO ob = len + n)
    (hcont : ∀ (cells : Array Value), Joined i.size len n old vs cells → ∀ b, OCont (Nof N φ) w φ b [] ob cells)
    (hbase : cap = 0 ∨ ∃ (k b tot : Nat) (cnt : Cnt) (cells : Array Value) (eb : TypeId), φ[k]? = some (some (b, tot, cnt)) ∧ base = some ⟨b, 0, none⟩ ∧ cap * i.size ≤ tot ∧ w.heap[b]? = some (.cells cells eb (0, 0)) ∧ cells.size = tot ∧
      (∀ p, p < len * i.size → cells[p]? = old[p]?) ∧ ∀ (j : Nat) p x, m[j]? = some p → live p = true → φ[j]? = some (some x) → foot x b → False) :
    OpOk P o a w (Post N B φ w (m ++ [ob]) (.sl m.length i.size 0 (len + n))) := by
  subst hxv
  have hmax : len + n ≤ maxLen := by unfold roomy at hn; unfold maxLen; omega
  obtain ⟨callee, args, argTypes⟩ := c
  simp only at hcc hca hct
  subst hcc
  obtain rfl : args = #[y, z] := by cases args; simp_all
  obtain rfl : argTypes = #[t, u] := by cases argTypes; simp_all
  have hexec : ∀ {v : Value} {w' : World}, (Builtin.append_ #[t, u] o.type #[.slice base len cap, yv]).run P w = .ok v w' → (execOp a.eval o).run P w = .ok (.value v) w' := fun {v w'} h => by
    simp [execOp, hoc, resolve, invoke, builtin, hey, hez, h]
  rcases append_run ht hu hi hz hzs hbp hbm hn hy hold o.type with ⟨hle, hrun⟩ | ⟨hlt, newCap, hnc, hrun⟩
  · rcases hbase with hc0 | ⟨k, b, tot, cnt, cells, eb, hφ, rfl, hct, hb, hcs, hsame, hno⟩
    · have h0 : len = 0 ∧ n = 0 := by omega
      obtain ⟨rfl, rfl⟩ := h0
      have hv0 : vs = [] := by have := hy.size; simpa using this
      subst hv0
      have hst : (match base with | some a => storeCells (a.add (0 * i.size)) [] | none => pure ()).run P w = .ok () w := by cases base <;> rfl
      rw [hst] at hrun
      have hph := mrel_phantom hm ob
      unfold OpOk
      rw [hexec hrun]
      exact ⟨_, hph.1, hph.2, .sl (by omega) (by omega) (fun h => by omega)⟩
    · have hroom : (len + n) * i.size ≤ tot := Nat.le_trans (Nat.mul_le_mul_right _ hle) hct
      have hroom' : len * i.size + n * i.size ≤ cells.size := by rw [hcs, ← Nat.add_mul]; exact hroom
      obtain ⟨w', cells', hst, hw⟩ := store_cells (P := P) (off := len * i.size) vs 0 w cells hy.ones hb (by rw [hy.size]; omega)
      simp only [addr_add, Nat.zero_add] at hrun
      rw [hst] at hrun
      have hj : Joined i.size len n old vs cells' := ⟨by rw [hw.csize, hcs]; exact hroom, fun p hp => by
          rw [hw.cell, if_neg (by omega)]; exact hsame p hp, fun p hp => by
          rw [hw.cell, if_pos (by rw [hy.size]; omega)]; congr 1; omega⟩
      have hre := mrel_reuse hm hφ hno hw hb hcs hnt (hcont cells' hj b)
      unfold OpOk
      rw [hexec hrun]
      refine ⟨_, hre.1, hre.2, .sl hle hmax fun _ => ⟨b, tot, cN (cntO ob), phi_new hm _, by simp, by simpa using hct, by show _ ≤ cntO ob; omega⟩⟩
  · have hzl : (Builtin.zeroCells zv.cells (newCap - (len + n))).size = (newCap - (len + n)) * i.size := by simp [Builtin.zeroCells, hzs]
    have hsz : (old.toArray ++ vs.toArray ++ Builtin.zeroCells zv.cells (newCap - (len + n))).size = newCap * i.size := by
      simp only [Array.size_append, List.size_toArray, hold.size, hy.size, hzl]
      rw [← Nat.add_mul, ← Nat.add_mul]; congr 1; omega
    have hj : Joined i.size len n old vs (old.toArray ++ vs.toArray ++ Builtin.zeroCells zv.cells (newCap - (len + n))) := by
      have h1 := hold.size
      have h2 := hy.size
      refine ⟨by rw [hsz]; exact Nat.mul_le_mul_right _ hnc, fun p hp => ?_, fun p hp => ?_⟩
      · rw [Array.append_assoc, Array.getElem?_append_left (by simp; omega), List.getElem?_toArray]
      · rw [Array.getElem?_append_left (by simp; omega), Array.getElem?_append_right (by simp; omega), List.getElem?_toArray]
        congr 1; simp; omega
    have hbel : Below w.heap.size w w.drew := (Below.refl _ _).drew
    have hk := mrel_keep hm hbel
    have hal := mrel_alloc (e := e) hk.2 (w := w.drew) hB ((hcont _ hj w.heap.size).mono hk.1.keeps hk.1.ext (fun h => by rw [hnt] at h; cases h)) (isMap_tab hnt)
    unfold OpOk
    rw [hexec hrun]
    refine ⟨_, hk.1.trans hal.1, hal.2, .sl hnc hmax fun _ => ⟨_, _, _, phi_new hm _, by simp, by rw [hsz]; simp, by show _ ≤ cntO ob; omega⟩⟩

theorem join_typed {T : Sch} {l ys : List T.den} {old vs : List Value} {cells : Array Value} (hn : l.length + ys.length ≤ roomy) (h1 : TRel (Nof N φ) w T l old) (h2 : TRel (Nof N φ) w T ys vs) (hj : Joined T.size l.length ys.length old vs cells) :
    ∀ b, OCont (Nof N φ) w φ b [] (.row T (l ++ ys)) cells := by
  intro _
  refine ⟨by simpa using hj.room, by unfold roomy at hn; unfold maxLen; simp; omega, fun i x hi => ?_⟩
  rcases Nat.lt_or_ge i l.length with hlt | hge
  · rw [List.getElem?_append_left hlt] at hi
    refine SRel.mono (Keeps.refl _ w) T x _ _ (fun j u hj' hu => ?_) (h1 i x hi)
    have := mul_lt_len (sz := T.size) hlt
    rw [hj.fst _ (by omega)]; exact hu
  · rw [List.getElem?_append_right hge] at hi
    have hlt := (List.getElem?_eq_some_iff.1 hi).1
    refine SRel.mono (Keeps.refl _ w) T x _ _ (fun j u hj' hu => ?_) (h2 (i - l.length) x hi)
    have h3 := mul_lt_len (sz := T.size) hlt
    have h4 := hj.snd ((i - l.length) * T.size + j) (by omega)
    have h5 : l.length * T.size + ((i - l.length) * T.size + j) = i * T.size + j := by
      rw [← Nat.add_assoc, ← Nat.add_mul]; congr 2; omega
    rw [h5] at h4
    rw [h4]; exact hu
theorem join_arow {T : Sch} {es fs : List (List AV)} {old vs : List Value} {cells : Array Value} (hn : es.length + fs.length ≤ roomy) (h1 : AERel (Nof N φ) w φ T.size es old) (h2 : AERel (Nof N φ) w φ T.size fs vs) (hj : Joined T.size es.length fs.length old vs cells) :
    ∀ b, OCont (Nof N φ) w φ b [] (.arow T (es ++ fs)) cells := by
  intro _
  refine ⟨by simpa using hj.room, by unfold roomy at hn; unfold maxLen; simp; omega, fun i cs hi => ?_⟩
  rcases Nat.lt_or_ge i es.length with hlt | hge
  · rw [List.getElem?_append_left hlt] at hi
    obtain ⟨hl, hc⟩ := h1 i cs hi
    refine ⟨hl, fun j c hj' => ?_⟩
    have hjl := (List.getElem?_eq_some_iff.1 hj').1
    obtain ⟨v, hv, ho, hr⟩ := hc j c hj'
    have := mul_lt_len (sz := T.size) hlt
    refine ⟨v, ?_, ho, hr⟩
    rw [hj.fst _ (by omega)]; simpa using hv
  · rw [List.getElem?_append_right hge] at hi
    have hlt := (List.getElem?_eq_some_iff.1 hi).1
    obtain ⟨hl, hc⟩ := h2 (i - es.length) cs hi
    refine ⟨hl, fun j c hj' => ?_⟩
    have hjl := (List.getElem?_eq_some_iff.1 hj').1
    obtain ⟨v, hv, ho, hr⟩ := hc j c hj'
    have h3 := mul_lt_len (sz := T.size) hlt
    have h4 := hj.snd ((i - es.length) * T.size + j) (by omega)
    have h5 : es.length * T.size + ((i - es.length) * T.size + j) = i * T.size + j := by
      rw [← Nat.add_assoc, ← Nat.add_mul]; congr 2; omega
    rw [h5] at h4
    refine ⟨v, ?_, ho, hr⟩
    rw [h4]; simpa using hv

/-- The slice that append lengthens: its cells, its block. -/
theorem old_src (hm : MRel N B w φ m) {k z len : Nat} {xv : Value} (hr : VRel (Nof N φ) w φ (.sl k z 0 len) xv) {ob : MObj} (hk : m[k]? = some ob) (hl : celly ob = true)
    (hc : ∀ cells b ex, OCont (Nof N φ) w φ b ex ob cells → ∀ p, p < len * z → ∃ v, cells[p]? = some v ∧ oneV v = true) :
    ∃ base cap old, xv = .slice base len cap ∧ len ≤ cap ∧ Src P w z len (.slice base len cap) old ∧
      (cap = 0 ∨ ∃ (k2 b tot : Nat) (cnt : Cnt) (cells : Array Value) (eb : TypeId), φ[k2]? = some (some (b, tot, cnt)) ∧ base = some ⟨b, 0, none⟩ ∧ cap * z ≤ tot ∧ w.heap[b]? = some (.cells cells eb (0, 0)) ∧ cells.size = tot ∧
        (∀ p, p < len * z → cells[p]? = old[p]?) ∧ ∀ (j : Nat) p x, (m.set k .dead)[j]? = some p → live p = true → φ[j]? = some (some x) → foot x b → False) ∧
      (len = 0 ∨ ∃ cells b ex, OCont (Nof N φ) w φ b ex ob cells ∧ ∀ p, p < len * z → old[p]? = cells[p]?) := by
  cases hr with
  | @sl _ _ _ _ c A hlen hmx h =>
    rcases Nat.eq_zero_or_pos c with rfl | hpos
    · obtain rfl : len = 0 := by omega
      exact ⟨A, 0, [], rfl, Nat.le_refl _, src_nil, .inl rfl, .inl rfl⟩
    · obtain ⟨b, tot, cnt, hφ, rfl, ht, hcn⟩ := h hpos
      obtain ⟨cells, e, hb, hs, hcont, _⟩ := hm.cells k b tot cnt ob hφ hk hl
      have hcell : ∀ p, w.cell? ((⟨b, 0, none⟩ : Addr).add p) = cells[p]? := fun p => by
        rw [addr_add]; simp [World.cell?, hb]
      obtain ⟨vs, h1, h2⟩ := src_of (P := P) (w := w) (sz := z) (n := len) (c := c) (A := ⟨b, 0, none⟩) (fun p hp => by
        rw [hcell]; exact hc cells _ _ hcont p hp)
      refine ⟨_, c, vs, rfl, hlen, by simpa using h1, .inr ⟨k, b, tot, cnt, cells, e, hφ, by simp, by simpa using ht, hb, hs, fun p hp => by rw [h2 p hp, hcell], fun j p x hj lp hjφ hf => ?_⟩, .inr ⟨cells, _, _, hcont, fun p hp => by rw [h2 p hp, hcell]⟩⟩
      rw [List.getElem?_set] at hj
      split at hj
      · split at hj
        · cases hj; cases lp
        · cases hj
      · rename_i hne
        exact hne (hm.apart k j ob p _ _ b hk hj (celly_live hl) lp hφ hjφ (foot_self ..) hf)

theorem op_app {t u e e2 : TypeId} {T : Sch} {by_ : Nat} {c : Call} {y z : Operand} (hoc : o.op = .call c) (hcc : c.callee = .builtin .append) (hca : c.args.toList = [y, z]) (hct : c.argTypes.toList = [t, u])
    (ht : P.underlying t = some (.slice e)) (hu : P.underlying u = some (.slice e2)) (hk : tyOk P e = true) (hzo : zeroOk P e = true) (hT : T.size = P.cellsOf e) (hpos : 0 < P.cellsOf e) (hbp : 0 < P.bytesOf e) (hbm : P.bytesOf e ≤ 4096)
    {ay az : AOpd} (hy : cOpd y = some ay) (hz : cOpd z = some az) (hx : exOp Γ s G m (.app T by_ ay az) = some (x, m', vc)) (hvc : vc = true)
    (hs : SlotsOk (Nof N φ) w φ s a) (hG : Holds a G) (hm : MRel N B w φ m) (hB : ∀ b, B b → b < w.heap.size) : OpOk P o a w (Post N B φ w m' x) := by
  obtain ⟨p, hp, h1⟩ := obind hx
  obtain ⟨q, hq, h2⟩ := obind h1
  clear hx h1
  have hpr := opd_ok hs hG hy hp
  have hqr := opd_ok hs hG hz hq
  obtain ⟨i, d, hi, hd⟩ := tyOk_spec hk
  have hisz : i.size = P.cellsOf e := by simp [Program.cellsOf, hi]
  have hib : i.bytes = P.bytesOf e := by simp [Program.bytesOf, hi]
  have hzv : ∃ v : Value, (∀ w : World, (zeroValue e).run P w = .ok v w) ∧ v.cells.size = i.size := by
    unfold zeroOk at hzo
    split at hzo
    · rename_i zz hzz
      obtain ⟨v, h1, h2⟩ := zeroA_run hzz
      have := (h2 (fun _ => True) w []).1.1
      exact ⟨v, h1, by rw [hisz, ← (by simpa using hzo : zz.length = P.cellsOf e), this]; simp⟩
    · cases hzo
  obtain ⟨zv, hzr, hzs⟩ := hzv
  have hTi : T.size = i.size := by omega
  have hTp : 0 < T.size := by omega
  have core := fun {base : Option Addr} {len cap n : Nat} {xv yv : Value} (hxv : xv = .slice base len cap) {vs old : List Value} (hn : len + n ≤ roomy) (hlc : len ≤ cap) (hy' : Src P w i.size n yv vs) (hold : Src P w i.size len (.slice base len cap) old)
    (hey : a.eval y = xv) (hez : a.eval z = yv) {m1 : Mem} (hm1 : MRel N B w φ m1) {ob : MObj} => app_core (o := o) (a := a) (m := m1) (ob := ob) ht hu hi hzr hzs (by omega) (by omega) hxv hn hlc hy' hold hoc hcc hca hct hey hez hm1 hB
  generalize he : a.eval y = ey at hpr
  generalize hf : a.eval z = ez at hqr
  unfold appA at h2
  split at h2
  · -- a nil slice
    cases hpr with
    | f hpr =>
    cases hpr with
    | @nils A =>
    split at h2
    · rename_i ys hys
      simp only [Option.some.injEq, Prod.mk.injEq] at h2
      obtain ⟨rfl, rfl, rfl⟩ := h2
      have hn : ys.length ≤ roomy := by simpa using hvc
      obtain ⟨vs, hsrc, hrel⟩ := appSrc_ok hm hTp hqr hys
      rw [hTi] at hsrc
      have := core rfl (by omega) (Nat.le_refl 0) hsrc (src_nil (A := A)) he hf hm (ob := .row T ys) rfl (by simp [cntO]) (fun cells hj => by
        have := join_typed (l := []) (ys := ys) (old := []) (vs := vs) (by simpa using hn) (fun i x hi => by simp at hi) hrel (by rw [hTi]; exact hj)
        simpa using this) (.inl rfl)
      rw [Nat.zero_add, ← hTi] at this
      exact this
    · obtain ⟨es, hes, h3⟩ := omap h2
      simp only [Prod.mk.injEq] at h3
      obtain ⟨rfl, rfl, rfl⟩ := h3
      have hn : es.length ≤ roomy := by simpa using hvc
      obtain ⟨vs, hsrc, hrel⟩ := appSrcA_ok hm hqr hes
      rw [hTi] at hsrc
      have := core rfl (by omega) (Nat.le_refl 0) hsrc (src_nil (A := A)) he hf hm (ob := .arow T es) rfl (by simp [cntO]) (fun cells hj => by
        have := join_arow (T := T) (es := []) (fs := es) (old := []) (vs := vs) (by simpa using hn) (fun i cs hi => by simp at hi) hrel (by rw [hTi]; exact hj)
        simpa using this) (.inl rfl)
      rw [Nat.zero_add, ← hTi] at this
      exact this
  · rename_i k z' off len
    cases hoz : (off == 0) && (z' == T.size) with
    | false => rw [hoz] at h2; cases h2
    | true =>
    rw [hoz] at h2
    simp only [Bool.and_eq_true, beq_iff_eq] at hoz
    obtain ⟨rfl, rfl⟩ := hoz
    simp only [cond_true] at h2
    split at h2
    · rename_i U l hkk
      obtain ⟨hh, _, h3⟩ := obind h2
      obtain ⟨ys, hys, h4⟩ := omap h3
      simp only [Prod.mk.injEq] at h4
      obtain ⟨rfl, rfl, rfl⟩ := h4
      obtain ⟨rfl⟩ := hh
      simp only [Bool.and_eq_true, decide_eq_true_eq] at hvc
      obtain ⟨rfl, hn⟩ := hvc
      obtain ⟨vs, hsrc, hrel⟩ := appSrc_ok hm hTp hqr hys
      obtain ⟨base, cap, old, rfl, hlc, hos, hb, hoc'⟩ := old_src (P := P) hm hpr hkk rfl (fun cells _ _ hcont p hp => by
        obtain ⟨a1, a2, a3⟩ := div_cell hp
        obtain ⟨v, hv, ho⟩ := srel_cells U _ _ (hcont.2.2 (p / U.size) _ (List.getElem?_eq_getElem a1)) (p % U.size) a2
        exact ⟨v, by rw [a3] at hv; exact hv, ho⟩)
      have hto : TRel (Nof N φ) w U l old := fun i x hi => by
        have hil := (List.getElem?_eq_some_iff.1 hi).1
        rcases hoc' with h0 | ⟨cells, _, _, hcont, hsame⟩
        · omega
        · refine SRel.mono (Keeps.refl _ w) U x _ _ (fun j u hj hu => ?_) (hcont.2.2 i x hi)
          have := mul_lt_len (sz := U.size) hil
          rw [hsame _ (by omega)]; exact hu
      rw [hTi] at hsrc hos hb
      have := core rfl hn hlc hsrc hos he hf (mrel_dead hm k) (ob := .row U (castL ⟨rfl⟩ l ++ ys)) rfl (by simp [cntO, castL]) (fun cells hj => join_typed hn hto hrel (by rw [hTi]; exact hj)) hb
      simp only [List.length_set] at this
      rw [← hTi] at this
      exact this
    · rename_i U es hkk
      cases hU : U.size == T.size with
      | false => rw [hU] at h2; cases h2
      | true =>
      rw [hU] at h2
      simp only [cond_true] at h2
      have hU' : U.size = T.size := by simpa using hU
      have hcells : ∀ cells b ex, OCont (Nof N φ) w φ b ex (.arow U es) cells → ∀ p, p < es.length * T.size → ∃ v, cells[p]? = some v ∧ oneV v = true := fun cells _ _ hcont p hp => by
        obtain ⟨a1, a2, a3⟩ := div_cell hp
        obtain ⟨hl, hc⟩ := hcont.2.2 (p / T.size) _ (List.getElem?_eq_getElem a1)
        obtain ⟨v, hv, ho, _⟩ := hc (p % T.size) _ (List.getElem?_eq_getElem (by omega))
        exact ⟨v, by rw [hU', a3] at hv; exact hv, ho⟩
      split at h2
      · rename_i l ys hly
        obtain ⟨l', hl', hly2⟩ := obind hly
        obtain ⟨ys', hys, hly3⟩ := omap hly2
        simp only [Prod.mk.injEq] at hly3
        obtain ⟨rfl, rfl⟩ := hly3
        simp only [Option.some.injEq, Prod.mk.injEq] at h2
        obtain ⟨rfl, rfl, rfl⟩ := h2
        simp only [Bool.and_eq_true, decide_eq_true_eq] at hvc
        obtain ⟨rfl, hn⟩ := hvc
        have hll := (frzE_asF _ _ hl').1
        obtain ⟨vs, hsrc, hrel⟩ := appSrc_ok hm hTp hqr hys
        obtain ⟨base, cap, old, rfl, hlc, hos, hb, hoc'⟩ := old_src (P := P) hm hpr hkk rfl hcells
        have hto : TRel (Nof N φ) w T l' old := fun i x hi => by
          have hil := (List.getElem?_eq_some_iff.1 hi).1
          rcases hoc' with h0 | ⟨cells, _, _, hcont, hsame⟩
          · omega
          · have hE : ERel (Nof N φ) w φ T.size es cells := by rw [← hU']; exact hcont.2.2
            refine SRel.mono (Keeps.refl _ w) T x _ _ (fun j u hj hu => ?_) (erel_typed hE hl' i x hi)
            have := mul_lt_len (sz := T.size) hil
            rw [hsame _ (by rw [← hll]; omega)]; exact hu
        rw [hTi] at hsrc hos hb
        have := core rfl hn hlc hsrc hos he hf (mrel_dead hm k) (ob := .row T (l' ++ ys')) rfl (by simp [cntO, hll]) (fun cells hj => join_typed (by omega) hto hrel (by rw [hTi, hll]; exact hj)) hb
        simp only [List.length_set] at this
        rw [← hTi] at this
        exact this
      · obtain ⟨fs, hfs, h3⟩ := omap h2
        simp only [Prod.mk.injEq] at h3
        obtain ⟨rfl, rfl, rfl⟩ := h3
        simp only [Bool.and_eq_true, decide_eq_true_eq] at hvc
        obtain ⟨rfl, hn⟩ := hvc
        obtain ⟨vs, hsrc, hrel⟩ := appSrcA_ok hm hqr hfs
        obtain ⟨base, cap, old, rfl, hlc, hos, hb, hoc'⟩ := old_src (P := P) hm hpr hkk rfl hcells
        have hto : AERel (Nof N φ) w φ T.size es old := fun i cs hi => by
          have hil := (List.getElem?_eq_some_iff.1 hi).1
          rcases hoc' with h0 | ⟨cells, _, _, hcont, hsame⟩
          · omega
          · obtain ⟨hl, hc⟩ := hcont.2.2 i cs hi
            refine ⟨by omega, fun j c' hj => ?_⟩
            have hjl := (List.getElem?_eq_some_iff.1 hj).1
            obtain ⟨v, hv, ho, hr⟩ := hc j c' hj
            have := mul_lt_len (sz := T.size) hil
            refine ⟨v, ?_, ho, hr⟩
            rw [List.getElem?_toArray, hsame _ (by omega), ← hU']; exact hv
        rw [hTi] at hsrc hos hb
        have := core rfl hn hlc hsrc hos he hf (mrel_dead hm k) (ob := .arow T (es ++ fs)) rfl (by simp [cntO]) (fun cells hj => join_arow hn hto hrel (by rw [hTi]; exact hj)) hb
        simp only [List.length_set] at this
        rw [← hTi] at this
        exact this
    · cases h2
  · cases h2
end
end Go.AM
