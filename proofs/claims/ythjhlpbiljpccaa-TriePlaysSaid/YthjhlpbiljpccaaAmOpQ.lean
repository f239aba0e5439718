/-
  Sets: maps from numbers, all of whose values are true.
-/
import Derived.Test.YthjhlpbiljpccaaAmOpM
import Derived.MapKept
namespace Go.AM
open Go.RowKit

section
variable {P : Program} {N : Nat → Prop} {B : Nat → Prop} {w : World} {φ : Phi} {m : Mem} {o : Oper} {a : Act} {Γ : Env} {s : Slots} {G : List (Nat × Bool)} {x : AV} {m' : Mem} {vc : Bool}

theorem op_mkm {t kt et : TypeId} {y : Operand} (ho : o.op = .makeMap t (some y)) (ht : P.underlying t = some (.map kt et)) {ay : AOpd} (hy : cOpd y = some ay) (hx : exOp Γ s G m (.mkm ay) = some (x, m', vc))
    (hs : SlotsOk (Nof N φ) w φ s a) (hG : Holds a G) (hm : MRel N B w φ m) (hB : ∀ b, B b → b < w.heap.size) : OpOk P o a w (Post N B φ w m' x) := by
  obtain ⟨p, hp, h2⟩ := obind hx
  have hpr := opd_ok hs hG hy hp
  generalize he : a.eval y = ey at hpr
  split at h2
  · rename_i k n
    obtain ⟨rfl, rfl, _⟩ := ok1_spec h2
    cases hpr with
    | f hpr => cases hpr with
      | int hin =>
      have hal := mrel_allocG (cells := #[]) (e := 0) (o := .mset []) (ob := .map #[] 0) hm hB trivial fun w' hw => ⟨#[], 0, hw, ⟨fun e h => by simp at h, fun n h => by simp at h⟩⟩
      have run : (execOp a.eval o).run P w = .ok (.value (.map (some w.heap.size))) (w.alloc (.map #[] 0)) := by
        simp [execOp, ho, Instr.makeMap, run_underlying ht, asInt, asIntOf, he, Result.andThen]
      unfold OpOk
      rw [run]
      exact ⟨_, hal.1, hal.2, .mp (phi_new hm _)⟩
  · cases h2

theorem isKeys {es : Array MapEntry} {l : List Int} (h : MapIs es l) : ∀ e ∈ es.toList, MapKept.IsKey (.int .i64) e.key := fun e he => by
  obtain ⟨n, hk, _⟩ := h.1 e he
  rw [hk]; exact rfl

/-- An object turned, in its own block. -/
theorem mrel_setG {w' : World} (hm : MRel N B w φ m) {k b tot : Nat} {cnt : Cnt} {ob ob' : MObj} (hk : m[k]? = some ob) (hl : live ob = true)
    (hφ : φ[k]? = some (some (b, tot, cnt))) (h1 : w'.os = w.os) (h2 : w'.tape = w.tape) (h3 : w'.output = w.output) (hsz : w'.heap.size = w.heap.size) (ho : ∀ c, c ≠ b → w'.heap[c]? = w.heap[c]?)
    (hc : ∃ cs e, HB w' b cs e ob' ∧ cs.size = tot ∧ OCont (Nof N φ) w' φ b cnt.ex ob' cs ∧ cnt.n ≤ cntO ob') :
    Tr N B φ w φ w' ∧ MRel N B w' φ (m.set k ob') := by
  have hfc : foot (b, tot, cnt) b := foot_self ..
  have hbd := hm.bd k _ b hφ hfc
  have hkeep : Keeps (Nof N φ) w (Nof N φ) w' := fun p v hp hv => ⟨hp, by
    rw [peek_same (ho _ fun e => hp.2 (e ▸ ⟨k, _, hφ, hfc⟩))]; exact hv⟩
  have hmk : k < m.length := (List.getElem?_eq_some_iff.1 hk).1
  refine ⟨⟨⟨h1, h2, h3, by rw [hsz]; exact Nat.le_refl _, fun i hi _ => ho i fun e => hbd.1 (e ▸ hi)⟩, Ext.refl _, hkeep⟩, ⟨by simp [hm.len], fun j b2 t2 c2 p h hp lp => ?_, fun j x b2 h hf => ?_, fun i j p q x y b2 hi hj lp lq h g hf hg => ?_, hm.gl.mono hkeep⟩⟩
  · rw [List.getElem?_set] at hp
    by_cases hkj : k = j
    · subst hkj
      rw [if_pos rfl, if_pos hmk] at hp
      cases hp
      rw [hφ] at h
      cases h
      exact hc
    · rw [if_neg hkj] at hp
      obtain ⟨cs2, e2, hb2, hs2, hcont, hn⟩ := hm.objs j b2 t2 c2 p h hp lp
      have hbb : b2 ≠ b := fun e => hkj (hm.apart k j ob p _ _ b hk hp hl lp hφ h hfc (.inl e.symm))
      exact ⟨cs2, e2, hb2.mono (ho b2 hbb), hs2, hcont.mono hkeep (Ext.refl _) (fun _ d hcx => ho d fun e => hkj (hm.apart k j ob p _ _ d hk hp hl lp hφ h (e ▸ hfc) (.inr hcx))), hn⟩
  · have := hm.bd j x b2 h hf
    exact ⟨this.1, by rw [hsz]; exact this.2⟩
  · have back : ∀ {i : Nat} {p : MObj}, (m.set k ob')[i]? = some p → live p = true → ∃ q, m[i]? = some q ∧ live q = true := fun {i p} h l => by
      rw [List.getElem?_set] at h
      split at h
      · rename_i hki; subst hki; exact ⟨ob, hk, hl⟩
      · exact ⟨p, h, l⟩
    obtain ⟨p', hp', lp'⟩ := back hi lp
    obtain ⟨q', hq', lq'⟩ := back hj lq
    exact hm.apart i j p' q' x y b2 hp' hq' lp' lq' h g hf hg

theorem map_modify {es : Array MapEntry} {l : List Int} {n : Int} (h : MapIs es l) {j : Nat} {e : MapEntry} (hj : es[j]? = some e) (hk : e.key = .int .i64 n) :
    MapIs (es.modify j fun e => { e with key := .int .i64 n, val := .bool true }) (l ++ [n]) := by
  obtain ⟨ha, hb⟩ := h
  refine ⟨fun e' he' => ?_, fun q hq => ?_⟩
  · obtain ⟨i, hi⟩ := List.mem_iff_getElem?.1 he'
    rw [Array.getElem?_toList, Array.getElem?_modify] at hi
    split at hi
    · obtain ⟨y, hy, rfl⟩ := omap hi
      exact ⟨n, rfl, rfl, by simp⟩
    · obtain ⟨q, h1, h2, h3⟩ := ha e' (List.mem_of_getElem? (by rw [Array.getElem?_toList]; exact hi))
      exact ⟨q, h1, h2, by simp [h3]⟩
  · have : ∃ e ∈ es.toList, e.key = .int .i64 q := by
      rcases List.mem_append.1 hq with hq | hq
      · exact hb q hq
      · obtain rfl : q = n := by simpa using hq
        exact ⟨e, List.mem_of_getElem? (by rw [Array.getElem?_toList]; exact hj), hk⟩
    obtain ⟨y, hy, hyk⟩ := this
    obtain ⟨i, hi⟩ := List.mem_iff_getElem?.1 hy
    rw [Array.getElem?_toList] at hi
    by_cases hij : j = i
    · subst hij
      rw [hj] at hi; cases hi
      refine ⟨{ e with key := .int .i64 n, val := .bool true }, List.mem_of_getElem? (i := j) (by rw [Array.getElem?_toList, Array.getElem?_modify]; simp [hj]), ?_⟩
      rw [hk] at hyk; exact hyk
    · exact ⟨y, List.mem_of_getElem? (i := i) (by rw [Array.getElem?_toList, Array.getElem?_modify, if_neg hij]; exact hi), hyk⟩
theorem map_push {es : Array MapEntry} {l : List Int} {n : Int} (h : MapIs es l) (c : Nat) : MapIs (es.push { key := .int .i64 n, val := .bool true, born := c }) (l ++ [n]) := by
  obtain ⟨ha, hb⟩ := h
  refine ⟨fun e' he' => ?_, fun q hq => ?_⟩
  · simp only [Array.toList_push, List.mem_append, List.mem_singleton] at he'
    rcases he' with he' | rfl
    · obtain ⟨q, h1, h2, h3⟩ := ha e' he'
      exact ⟨q, h1, h2, by simp [h3]⟩
    · exact ⟨n, rfl, rfl, by simp⟩
  · rcases List.mem_append.1 hq with hq | hq
    · obtain ⟨y, hy, hyk⟩ := hb q hq
      exact ⟨y, by simp [Array.toList_push, hy], hyk⟩
    · obtain rfl : q = n := by simpa using hq
      exact ⟨_, by rw [Array.toList_push]; exact List.mem_append_right _ (List.mem_singleton.2 rfl), rfl⟩

theorem op_mput {t kt et : TypeId} {y z : Operand} (ho : o.op = .mapUpdate t y z (.const (.bool true))) (ht : P.underlying t = some (.map kt et)) (hk : P.underlying kt = some (.int .i64)) {ay az : AOpd} (hy : cOpd y = some ay) (hz : cOpd z = some az) (hx : exOp Γ s G m (.mput ay az) = some (x, m', vc))
    (hs : SlotsOk (Nof N φ) w φ s a) (hG : Holds a G) (hm : MRel N B w φ m) : OpOk P o a w (Post N B φ w m' x) := by
  obtain ⟨p, hp, h1⟩ := obind hx
  obtain ⟨q, hq, h2⟩ := obind h1
  have hpr := opd_ok hs hG hy hp
  have hqr := opd_ok hs hG hz hq
  generalize he : a.eval y = ey at hpr
  generalize hf : a.eval z = ez at hqr
  split at h2
  · rename_i q n
    split at h2
    · rename_i l hmq
      obtain ⟨rfl, rfl, _⟩ := ok1_spec h2
      cases hqr with
      | f hqr => cases hqr with
        | int hin =>
        cases hpr with
        | @mp _ b tot cnt hφ =>
        obtain ⟨cs, e0, ⟨es, clock, hb, hi⟩, hcs, _, hn⟩ := hm.objs q b tot cnt _ hφ hmq rfl
        have hkey : MapKept.IsKey (.int .i64) (.int .i64 n) := rfl
        have htrue : a.eval (.const (.bool true)) = .bool true := rfl
        have fin : ∀ (es' : Array MapEntry) (c' : Nat), MapIs es' (l ++ [n]) → (execOp a.eval o).run P w = .ok .skip { w with heap := w.heap.setIfInBounds b (.map es' c') } → OpOk P o a w (Post N B φ w (m.set q (.mset (l ++ [n]))) .junk) := fun es' c' hi' run => by
          have hset := MapKept.heap_set (o' := .map es' c') hb
          have h := mrel_setG (w' := { w with heap := w.heap.setIfInBounds b (.map es' c') }) (ob' := .mset (l ++ [n])) hm hmq rfl hφ rfl rfl rfl (by simp) (fun c hc => hset.2 c hc) ⟨cs, e0, ⟨es', c', hset.1, hi'⟩, hcs, trivial, hn⟩
          unfold OpOk
          rw [run]
          exact ⟨_, h.1, h.2, .junk⟩
        rcases MapKept.findNow_spec hkey es.toList 0 (isKeys hi) with ⟨g1, g2⟩ | ⟨j, e, g1, g2, g3⟩
        · refine fin _ (clock + 1) (map_push (n := n) hi clock) ?_
          simp [execOp, ho, he, hf, htrue, Instr.mapUpdate, run_underlying ht, MapKept.run_getObj_map hb, MapKept.run_checkKey hk hkey, MapKept.run_findKey hk g1, MapKept.run_setObj_map _ hb, Result.andThen]
        · have hj : es[j]? = some e := by simpa using g2
          refine fin _ clock (map_modify hi hj g3) ?_
          simp [execOp, ho, he, hf, htrue, Instr.mapUpdate, run_underlying ht, MapKept.run_getObj_map hb, MapKept.run_checkKey hk hkey, MapKept.run_findKey hk g1, hj, g3, MapKept.run_keyThatStays hkey, MapKept.run_setObj_map _ hb, Result.andThen]
    · cases h2
  · cases h2

theorem zFalse_run {e : TypeId} (h : zFalse P e = true) (w : World) : (zeroValue e).run P w = .ok (.bool false) w := by
  unfold zFalse at h
  split at h
  · rename_i i hi
    split at h
    · rename_i b hz
      obtain rfl : b = false := by simpa using h
      simp [zeroValue, typeInfo, hi, hz]
    · cases h
  · cases h
theorem map_any {es : Array MapEntry} {l : List Int} {n : Int} (h : MapIs es l) : (l.any fun y => y == n) = true ↔ ∃ e ∈ es.toList, e.key = .int .i64 n := by
  simp only [List.any_eq_true, beq_iff_eq]
  constructor
  · rintro ⟨y, hy, rfl⟩; exact h.2 y hy
  · rintro ⟨e, he, hk⟩
    obtain ⟨q, h1, _, h3⟩ := h.1 e he
    rw [hk] at h1; cases h1
    exact ⟨n, h3, rfl⟩
theorem op_mget {t kt et : TypeId} {y z : Operand} (ho : o.op = .lookup t y z false) (ht : P.underlying t = some (.map kt et)) (hk : P.underlying kt = some (.int .i64)) (hzf : zFalse P et = true) {ay az : AOpd} (hy : cOpd y = some ay) (hz : cOpd z = some az) (hx : exOp Γ s G m (.mget ay az) = some (x, m', vc))
    (hs : SlotsOk (Nof N φ) w φ s a) (hG : Holds a G) (hm : MRel N B w φ m) : OpOk P o a w (Post N B φ w m' x) := by
  obtain ⟨p, hp, h1⟩ := obind hx
  obtain ⟨q, hq, h2⟩ := obind h1
  have hpr := opd_ok hs hG hy hp
  have hqr := opd_ok hs hG hz hq
  generalize he : a.eval y = ey at hpr
  generalize hf : a.eval z = ez at hqr
  split at h2
  · rename_i l n
    obtain ⟨rfl, rfl, _⟩ := ok1_spec h2
    have hkey : MapKept.IsKey (.int .i64) (.int .i64 n) := rfl
    cases hqr with
    | f hqr => cases hqr with
      | int hin =>
      cases hpr with
      | f hpr => cases hpr with
        | fmap hfm =>
        rcases hfm with ⟨rfl, rfl⟩ | ⟨r, es, c, rfl, _, hb, hi⟩
        · refine quiet_ok hm (v := .bool false) ?_ (.f .bool)
          have g1 : Instr.findNow (.int .i64) (.int .i64 n) ([] : List MapEntry) 0 = some none := rfl
          simp [execOp, ho, he, hf, Instr.lookup, run_underlying ht, MapKept.run_checkKey hk hkey, MapKept.run_findKey hk g1, zFalse_run hzf, Result.andThen]
        · rcases MapKept.findNow_spec hkey es.toList 0 (isKeys hi) with ⟨g1, g2⟩ | ⟨j, e, g1, g2, g3⟩
          · have hany : (l.any fun y => y == n) = false := by
              cases hh : l.any fun y => y == n with
              | false => rfl
              | true => obtain ⟨e, he1, he2⟩ := (map_any hi).1 hh; exact absurd he2 (g2 e he1)
            rw [hany]
            refine quiet_ok hm (v := .bool false) ?_ (.f .bool)
            simp [execOp, ho, he, hf, Instr.lookup, run_underlying ht, MapKept.run_getObj_map hb, MapKept.run_checkKey hk hkey, MapKept.run_findKey hk g1, zFalse_run hzf, Result.andThen]
          · have hmem : e ∈ es.toList := List.mem_of_getElem? g2
            have hany : (l.any fun y => y == n) = true := (map_any hi).2 ⟨e, hmem, g3⟩
            rw [hany]
            obtain ⟨_, _, hv, _⟩ := hi.1 e hmem
            refine quiet_ok hm (v := .bool true) ?_ (.f .bool)
            simp [execOp, ho, he, hf, Instr.lookup, run_underlying ht, MapKept.run_getObj_map hb, MapKept.run_checkKey hk hkey, MapKept.run_findKey hk g1, hv, Result.andThen]
  · cases h2
end
end Go.AM
