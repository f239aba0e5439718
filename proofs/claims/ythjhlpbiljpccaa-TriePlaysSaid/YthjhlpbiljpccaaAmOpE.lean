/-
  Places, slices, lengths.
-/
import Derived.Test.YthjhlpbiljpccaaAmOpD
namespace Go.AM
open Go.RowKit

section
variable {P : Program} {N : Nat → Prop} {B : Nat → Prop} {w : World} {φ : Phi} {m : Mem} {o : Oper} {a : Act} {Γ : Env} {s : Slots} {G : List (Nat × Bool)} {x : AV} {m' : Mem} {vc : Bool}

theorem fieldAt_run {t : TypeId} {fs : Array Field} {i : Nat} {f : Field} (ht : P.underlying t = some (.struct fs)) (hf : fs[i]? = some f) (hk : tyOk P f.type = true) (hz : 0 < P.cellsOf f.type) (A : Addr) :
    (Instr.fieldAt t (.pointer (some A)) i).run P w = .ok (.pointer (some (A.add f.offset))) w := by
  have hne : ¬ P.cellsOf f.type = 0 := by omega
  simp [Instr.fieldAt, run_underlying ht, hf, Instr.sureAddr, fieldPlace, run_sizeOf hk, hne]

theorem op_fld {t : TypeId} {fs : Array Field} {i : Nat} {f : Field} {y : Operand} (ho : o.op = .fieldAddr t y i) (ht : P.underlying t = some (.struct fs)) (hf : fs[i]? = some f) (hk : tyOk P f.type = true) (hz : 0 < P.cellsOf f.type)
    {ay : AOpd} (hy : cOpd y = some ay) (hx : exOp Γ s G m (.fld f.offset ay) = some (x, m', vc))
    (hs : SlotsOk (Nof N φ) w φ s a) (hG : Holds a G) (hm : MRel N B w φ m) : OpOk P o a w (Post N B φ w m' x) := by
  obtain ⟨p, hp, h2⟩ := obind hx
  clear hx
  have hpr := opd_ok hs hG hy hp
  generalize he : a.eval y = ey at hpr
  split at h2
  · rename_i cs off
    obtain ⟨rfl, rfl, _⟩ := ok1_spec h2
    cases hpr with
    | f hpr =>
    cases hpr with
    | @fpt _ _ A g hN hc ho' h =>
      refine quiet_ok hm (v := .pointer (some (A.add (off + f.offset)))) ?_ (.f (.fpt g hN hc ho' h))
      simp [execOp, ho, he, fieldAt_run ht hf hk hz, add_add]
  · obtain ⟨rfl, rfl, _⟩ := ok1_spec h2
    cases hpr with
    | ptr h =>
      refine quiet_ok hm ?_ (.ptr h)
      simp [execOp, ho, he, fieldAt_run ht hf hk hz, addr_add]
  · obtain ⟨rfl, rfl, _⟩ := ok1_spec h2
    cases hpr with
    | eptr h hi =>
      refine quiet_ok hm ?_ (.eptr h hi)
      simp [execOp, ho, he, fieldAt_run ht hf hk hz, addr_add, Nat.add_assoc]
  · obtain ⟨rfl, rfl, _⟩ := ok1_spec h2
    cases hpr with
    | nd h hi =>
      refine quiet_ok hm ?_ (.nd h hi)
      simp [execOp, ho, he, fieldAt_run ht hf hk hz, addr_add]
  · cases h2

theorem part_agg {N : Nat → Prop} {t : TypeId} (hk : tyOk P t = true) {cs : List AV} {vs : Array Value} {off : Nat} {x : AV} (hn : vs.size = cs.length)
    (ho : ∀ (j : Nat) c v, cs[j]? = some c → vs[j]? = some v → oneV v = true) (h : ∀ (j : Nat) c v, cs[j]? = some c → vs[j]? = some v → VRel N w φ c v)
    (hr : rdA (isAggT P t) (P.cellsOf t) cs off = some x) : ∃ v, (part t vs off).run P w = .ok v w ∧ VRel N w φ x v := by
  unfold rdA at hr
  cases hag : isAggT P t with
  | true =>
    rw [hag] at hr
    simp only [cond_true] at hr
    cases hl : ((cs.drop off).take (P.cellsOf t)).length == P.cellsOf t with
    | false => rw [hl] at hr; cases hr
    | true =>
      rw [hl] at hr; cases hr
      have hl' : P.cellsOf t ≤ cs.length - off := by simp at hl; omega
      refine ⟨.agg (vs.extract off (off + P.cellsOf t)), by simp [part, run_isAgg hk, hag, run_sizeOf hk], ?_⟩
      have hlen : (vs.extract off (off + P.cellsOf t)).toList = (vs.toList.drop off).take (P.cellsOf t) := by
        simp [Array.toList_extract, List.extract_eq_take_drop]
      have := mkAgg_ok (N := N) (w := w) (φ := φ) (cs := (cs.drop off).take (P.cellsOf t)) (vs := (vs.toList.drop off).take (P.cellsOf t)) ⟨by simp [hn], fun j c v hj hv => by
        rw [List.getElem?_take] at hj hv
        split at hj
        · rename_i hlt
          rw [if_pos hlt] at hv
          rw [List.getElem?_drop] at hj hv
          exact h _ c v hj (by simpa using hv)
        · cases hj⟩ (fun v hv => by
          obtain ⟨j, hj⟩ := List.mem_iff_getElem?.1 hv
          rw [List.getElem?_take] at hj
          split at hj
          · rw [List.getElem?_drop] at hj
            have hlt := (List.getElem?_eq_some_iff.1 hj).1
            exact ho _ _ v (List.getElem?_eq_getElem (by simpa [hn] using hlt)) (by simpa using hj)
          · cases hj)
      rw [← hlen, Array.toArray_toList] at this
      exact this
  | false =>
    rw [hag] at hr
    simp only [cond_false] at hr
    have hlt := (List.getElem?_eq_some_iff.1 hr).1
    have hv : vs[off]? = some (vs[off]'(by omega)) := Array.getElem?_eq_getElem (by omega)
    exact ⟨_, by simp [part, run_isAgg hk, hag, hv], h off x _ hr hv⟩

theorem op_fldv {t : TypeId} {fs : Array Field} {i : Nat} {f : Field} {y : Operand} (ho : o.op = .field t y i) (ht : P.underlying t = some (.struct fs)) (hf : fs[i]? = some f) (hk : tyOk P f.type = true)
    {ay : AOpd} (hy : cOpd y = some ay) (hx : exOp Γ s G m (.fldv (isAggT P f.type) f.offset (P.cellsOf f.type) ay) = some (x, m', vc))
    (hs : SlotsOk (Nof N φ) w φ s a) (hG : Holds a G) (hm : MRel N B w φ m) : OpOk P o a w (Post N B φ w m' x) := by
  obtain ⟨p, hp, h2⟩ := obind hx
  clear hx
  have hpr := opd_ok hs hG hy hp
  generalize he : a.eval y = ey at hpr
  have run : ∀ {vs : Array Value} {v : Value}, ey = .agg vs → (part f.type vs f.offset).run P w = .ok v w → (execOp a.eval o).run P w = .ok (.value v) w := fun {vs v} e hr => by
    subst e
    simp [execOp, ho, he, Instr.field, run_underlying ht, hf, asAgg, hr]
  split at h2
  · rename_i cs
    obtain ⟨v, hv, h3⟩ := obind h2
    obtain ⟨rfl, rfl, _⟩ := ok1_spec h3
    cases hpr with
    | f hpr =>
    cases hpr with
    | @agg _ vs hn ho' h =>
      obtain ⟨u, hu, hrel⟩ := part_agg (N := Nof N φ) (w := w) (φ := φ) hk (cs := cs.map .f) (by simpa using hn)
        (fun j c v hj hv => by
          simp only [List.getElem?_map, Option.map_eq_some_iff] at hj
          obtain ⟨d, hd, rfl⟩ := hj
          exact ho' j d v hd hv)
        (fun j c v hj hv => by
          simp only [List.getElem?_map, Option.map_eq_some_iff] at hj
          obtain ⟨d, hd, rfl⟩ := hj
          exact .f (h j d v hd hv)) (rdF_rdA hv)
      exact quiet_ok hm (run rfl hu) hrel
  · obtain ⟨v, hv, h3⟩ := obind h2
    obtain ⟨rfl, rfl, _⟩ := ok1_spec h3
    cases hpr with
    | agg hn ho' h =>
      obtain ⟨u, hu, hrel⟩ := part_agg (N := Nof N φ) (w := w) (φ := φ) hk hn ho' h hv
      exact quiet_ok hm (run rfl hu) hrel
  · cases h2

theorem getD_some {α : Type} {l : List α} {n : Nat} {d : α} (h : n < l.length) : l[n]? = some (l.getD n d) := by
  simp [List.getD, h]

theorem elem_frel {N : Nat → Prop} {T : Sch} {l : List T.den} {v : Value} (hz : 0 < T.size) (h : CRel N w (.sl T) l v) {n : Nat} (hn : n < l.length) :
    ∃ (A : Addr) (cap : Nat), v = .slice (some A) l.length cap ∧ FRel N w (.fpt (T.enc (l.getD n T.dflt)) 0) (.pointer (some ((A.add (n * T.size)).add 0))) := by
  obtain ⟨A, cap, rfl, hm, hc, hcell⟩ := h
  obtain ⟨A, rfl, hN, hr⟩ := hcell (Nat.lt_of_le_of_lt (Nat.zero_le _) hn) hz
  have hs := hr n _ (getD_some (d := T.dflt) hn)
  have hall : ∀ j, ∃ u, ∀ c, (T.enc (l.getD n T.dflt))[j]? = some c → w.cell? (A.add (n * T.size + j)) = some u ∧ oneV u = true ∧ FRel N w c u := fun j => by
    cases hj : (T.enc (l.getD n T.dflt))[j]? with
    | none => exact ⟨undef, fun c h => by cases h⟩
    | some c =>
      obtain ⟨u, h1, h2, h3⟩ := srel_enc T _ _ hs j c hj
      exact ⟨u, fun d hd => by cases hd; exact ⟨h1, h2, h3⟩⟩
  obtain ⟨g, hg⟩ := Classical.axiomOfChoice hall
  refine ⟨A, cap, rfl, .fpt g (fun _ => by rw [add_block]; exact hN) (fun j c hj => ?_) (fun j c hj => (hg j c hj).2.1) (fun j c hj => (hg j c hj).2.2)⟩
  rw [add_add]
  exact (hg j c hj).1

theorem op_ixa {t e : TypeId} {y z : Operand} (ho : o.op = .indexAddr t y z) (ht : P.underlying t = some (.slice e)) (hk : tyOk P e = true) (hpos : 0 < P.cellsOf e)
    {ay az : AOpd} (hy : cOpd y = some ay) (hz : cOpd z = some az) (hx : exOp Γ s G m (.ixa (P.cellsOf e) ay az) = some (x, m', vc)) (hvc : vc = true)
    (hs : SlotsOk (Nof N φ) w φ s a) (hG : Holds a G) (hm : MRel N B w φ m) : OpOk P o a w (Post N B φ w m' x) := by
  obtain ⟨p, hp, h2⟩ := obind hx
  obtain ⟨j, hj, h3⟩ := obind h2
  clear hx h2
  have hpr := opd_ok hs hG hy hp
  have hjr := opd_ok hs hG hz hj
  generalize he : a.eval y = ey at hpr
  generalize hf : a.eval z = ez at hjr
  split at h3
  · rename_i k n
    cases hjr with
    | f hjr =>
    cases hjr with
    | int hin =>
    obtain ⟨r, hr, h4⟩ := omap h3
    simp only [Prod.mk.injEq] at h4
    obtain ⟨rfl, rfl, rfl⟩ := h4
    have run : ∀ {A : Addr} {len cap : Nat}, ey = .slice (some A) len cap → 0 ≤ n → n < (len : Int) → (execOp a.eval o).run P w = .ok (.value (.pointer (some (A.add (n.toNat * P.cellsOf e))))) w := fun {A len cap} e0 h0 h1 => by
      subst e0
      simp [execOp, ho, he, hf, Instr.indexAt, asIntOf, run_underlying ht, h0, h1, run_sizeOf hk]
    unfold ixA at hr
    split at hr
    · rename_i T l
      cases hT : T.size == P.cellsOf e with
      | false => rw [hT] at hr; cases hr
      | true =>
        rw [hT] at hr; cases hr
        have hT' : T.size = P.cellsOf e := by simpa using hT
        simp only [Bool.and_eq_true, decide_eq_true_eq] at hvc
        cases hpr with
        | f hpr =>
        cases hpr with
        | fs hpr =>
        obtain ⟨A, cap, rfl, hrel⟩ := elem_frel (n := n.toNat) (by omega) hpr (by omega)
        refine quiet_ok hm (run rfl hvc.1 hvc.2) (.f ?_)
        rw [add_add, Nat.add_zero, hT'] at hrel
        exact hrel
    · rename_i k z off len
      cases hT : z == P.cellsOf e with
      | false => rw [hT] at hr; cases hr
      | true =>
        rw [hT] at hr; cases hr
        have hT' : z = P.cellsOf e := by simpa using hT
        simp only [Bool.and_eq_true, decide_eq_true_eq] at hvc
        cases hpr with
        | @sl _ _ _ _ c A hlen hmx h =>
        obtain ⟨b, tot, cnt, hφ, rfl, htot, hcnt⟩ := h (by omega)
        refine quiet_ok hm (run rfl hvc.1 hvc.2) ?_
        rw [addr_add, ← hT', ← Nat.add_mul]
        exact .eptr (off := 0) hφ (by omega)
    · rename_i k len
      cases hT : 1 == P.cellsOf e with
      | false => rw [hT] at hr; cases hr
      | true =>
      rw [hT] at hr; cases hr
      have hT' : 1 = P.cellsOf e := by simpa using hT
      simp only [Bool.and_eq_true, decide_eq_true_eq] at hvc
      cases hpr with
      | slx hpr _ =>
      cases hpr with
      | @sl _ _ _ _ c A hlen hmx h =>
        obtain ⟨b, tot, cnt, hφ, rfl, htot, hcnt⟩ := h (by omega)
        refine quiet_ok hm (run rfl hvc.1 hvc.2) ?_
        rw [addr_add, ← hT', ← Nat.add_mul, Nat.zero_add]
        exact .eptr (off := 0) hφ (by omega)
    · cases hr
  · cases h3

theorem op_ixs {t : TypeId} {y z : Operand} (ho : o.op = .index t y z) (ht : P.underlying t = some .string)
    {ay az : AOpd} (hy : cOpd y = some ay) (hz : cOpd z = some az) (hx : exOp Γ s G m (.ixs ay az) = some (x, m', vc)) (hvc : vc = true)
    (hs : SlotsOk (Nof N φ) w φ s a) (hG : Holds a G) (hm : MRel N B w φ m) : OpOk P o a w (Post N B φ w m' x) := by
  obtain ⟨p, hp, h2⟩ := obind hx
  obtain ⟨j, hj, h3⟩ := obind h2
  clear hx h2
  have hpr := opd_ok hs hG hy hp
  have hjr := opd_ok hs hG hz hj
  generalize he : a.eval y = ey at hpr
  generalize hf : a.eval z = ez at hjr
  split at h3
  · rename_i l k n
    simp only [Option.some.injEq, Prod.mk.injEq] at h3
    obtain ⟨rfl, rfl, rfl⟩ := h3
    simp only [Bool.and_eq_true, decide_eq_true_eq] at hvc
    cases hjr with
    | f hjr =>
    cases hjr with
    | int hin =>
    cases hpr with
    | f hpr =>
    cases hpr with
    | str hl =>
    have hlt : n.toNat < l.length := by omega
    have hb : (⟨l.toArray⟩ : ByteArray)[n.toNat]? = some (l.getD n.toNat 0) := by
      have hsz : n.toNat < (⟨l.toArray⟩ : ByteArray).size := by simpa [ByteArray.size] using hlt
      rw [getElem?_pos (⟨l.toArray⟩ : ByteArray) n.toNat hsz]
      simp only [List.getD, List.getElem?_eq_getElem hlt, Option.getD_some]
      rfl
    refine quiet_ok hm (v := .int .u8 ((l.getD n.toNat 0).toNat : Int)) ?_ (.f (.int (u8_in _)))
    simp only [execOp, ho, he, hf, Instr.index, asIntOf, Sem.run_bind, Sem.run_pure, Result.andThen_ok, run_underlying ht, hvc.1, if_true, hb]
  · cases h3

theorem slice_bounds {isS : Bool} {len cap : Nat} (lo hi : Option Value) (l h : Int) (hl : lo = none ∧ l = 0 ∨ ∃ k, lo = some (.int k l)) (hh : hi = none ∧ h = len ∨ ∃ k, hi = some (.int k h))
    (h0 : 0 ≤ l) (h1 : l ≤ h) (h2 : h ≤ len) (hc : len ≤ cap) : (Instr.sliceBounds isS len cap lo hi none).run P w = .ok (l.toNat, h.toNat, cap) w := by
  have hb : ∀ (k : IntKind) (y : Int) (n : Nat) (code : BoundsCode), 0 ≤ y → y ≤ n → (Instr.sliceBound (.int k y) n code).run P w = .ok y.toNat w := fun k y n code h0 h1 => by
    have h2 : 0 ≤ y ∧ y ≤ n := ⟨h0, h1⟩
    simp only [Instr.sliceBound, asIntOf, Sem.run_bind, Sem.run_pure, Result.andThen_ok, if_pos h2]
  have hh0 : 0 ≤ h := by omega
  rcases hl with ⟨rfl, rfl⟩ | ⟨k, rfl⟩ <;> rcases hh with ⟨rfl, rfl⟩ | ⟨k', rfl⟩
  · unfold Instr.sliceBounds
    simp only [Sem.run_bind, Sem.run_pure, Result.andThen_ok]
    rfl
  · unfold Instr.sliceBounds
    simp only [Sem.run_bind, Sem.run_pure, Result.andThen_ok]
    rw [hb k' h cap _ hh0 (by omega)]
    rfl
  · unfold Instr.sliceBounds
    simp only [Sem.run_bind, Sem.run_pure, Result.andThen_ok]
    rw [hb k l len _ h0 (by omega)]
    rfl
  · unfold Instr.sliceBounds
    simp only [Sem.run_bind, Sem.run_pure, Result.andThen_ok]
    rw [hb k' h cap _ hh0 (by omega)]
    simp only [Result.andThen_ok]
    rw [hb k l h.toNat _ h0 (by omega)]
    rfl

theorem loOf_ok {lo : Option AV} {vo : Option Value} {l : Int} (h : loOf lo = some l) (hr : ∀ x v, lo = some x → vo = some v → VRel (Nof N φ) w φ x v) (hn : lo.isSome = vo.isSome) :
    vo = none ∧ l = 0 ∨ ∃ k, vo = some (.int k l) := by
  unfold loOf at h
  split at h
  · cases h; cases vo with
    | none => exact .inl ⟨rfl, rfl⟩
    | some v => cases hn
  · cases h; cases vo with
    | none => cases hn
    | some v =>
      have := hr _ v rfl rfl
      cases this with
      | f h => cases h with
        | int h => exact .inr ⟨_, rfl⟩
  · cases h
theorem hiOf_ok {hi : Option AV} {vo : Option Value} {d l : Int} (h : hiOf d hi = some l) (hr : ∀ x v, hi = some x → vo = some v → VRel (Nof N φ) w φ x v) (hn : hi.isSome = vo.isSome) :
    vo = none ∧ l = d ∨ ∃ k, vo = some (.int k l) := by
  unfold hiOf at h
  split at h
  · cases h; cases vo with
    | none => exact .inl ⟨rfl, rfl⟩
    | some v => cases hn
  · cases h; cases vo with
    | none => cases hn
    | some v =>
      have := hr _ v rfl rfl
      cases this with
      | f h => cases h with
        | int h => exact .inr ⟨_, rfl⟩
  · cases h
theorem opvo_ok {s : Slots} {y : Option Operand} {ay : Option AOpd} {v : Option AV} (hy : cOpdo y = some ay) (hv : opvo s G ay = some v) (hs : SlotsOk (Nof N φ) w φ s a) (hG : Holds a G) :
    (∀ x u, v = some x → y.map a.eval = some u → VRel (Nof N φ) w φ x u) ∧ v.isSome = (y.map a.eval).isSome := by
  cases y with
  | none => cases hy; cases hv; exact ⟨fun x u h => by (cases h), rfl⟩
  | some y =>
    obtain ⟨z, hz, rfl⟩ := omap hy
    obtain ⟨u, hu, rfl⟩ := omap hv
    exact ⟨fun x u' h h' => by cases h; cases h'; exact opd_ok hs hG hz hu, rfl⟩

theorem cut_crel {N : Nat → Prop} {T : Sch} {l : List T.den} {A : Option Addr} {len cap : Nat} (h : CRel N w (.sl T) l (.slice A len cap)) {i j : Nat} (hij : i ≤ j) (hj : j ≤ l.length) :
    CRel N w (.sl T) ((l.drop i).take (j - i)) (.slice (if cap = i then A else A.map (·.add (i * T.size))) (j - i) (cap - i)) := by
  obtain ⟨A', cap', hv, hm, hc, hcell⟩ := h
  injection hv with e1 e2 e3
  subst e1; subst e3
  have hlen : lenD (T := T) ((l.drop i).take (j - i)) = j - i := by simp; omega
  have hm' : l.length ≤ maxLen := hm
  have hc' : l.length ≤ cap := hc
  refine ⟨_, _, by rw [hlen], by rw [hlen]; omega, by rw [hlen]; omega, fun h0 hz => ?_⟩
  rw [hlen] at h0
  obtain ⟨a, rfl, hN, hr⟩ := hcell (show 0 < l.length by omega) hz
  rw [if_neg (by omega)]
  refine ⟨_, rfl, by rw [add_block]; exact hN, fun n x hx => ?_⟩
  have hx' : l[i + n]? = some x := by
    have hx2 : ((l.drop i).take (j - i))[n]? = some x := hx
    rw [List.getElem?_take] at hx2
    split at hx2
    · rwa [List.getElem?_drop] at hx2
    · cases hx2
  have := hr (i + n) x hx'
  refine SRel.mono (Keeps.refl N w) T x _ _ (fun q u _ hu => ?_) this
  rw [add_add, ← Nat.add_assoc, ← Nat.add_mul]
  exact hu

theorem op_slc {t e : TypeId} {y : Operand} {lo hi : Option Operand} (ho : o.op = .slice t y lo hi none) (ht : P.underlying t = some (.slice e)) (hk : tyOk P e = true)
    {ay : AOpd} {al ah : Option AOpd} (hy : cOpd y = some ay) (hl : cOpdo lo = some al) (hh : cOpdo hi = some ah) (hx : exOp Γ s G m (.slc (P.cellsOf e) ay al ah) = some (x, m', vc)) (hvc : vc = true)
    (hs : SlotsOk (Nof N φ) w φ s a) (hG : Holds a G) (hm : MRel N B w φ m) : OpOk P o a w (Post N B φ w m' x) := by
  obtain ⟨p, hp, h2⟩ := obind hx
  obtain ⟨vl, hvl, h3⟩ := obind h2
  obtain ⟨vh, hvh, h4⟩ := obind h3
  obtain ⟨r, hr, h5⟩ := omap h4
  clear hx h2 h3 h4
  simp only [Prod.mk.injEq] at h5
  obtain ⟨rfl, rfl, rfl⟩ := h5
  have hpr := opd_ok hs hG hy hp
  have hlr := opvo_ok hl hvl hs hG
  have hhr := opvo_ok hh hvh hs hG
  generalize he : a.eval y = ey at hpr
  obtain ⟨l, hl0, hr2⟩ := obind hr
  replace hr := hr2
  clear hr2
  have run : ∀ {A : Option Addr} {len cap : Nat} {h : Int}, ey = .slice A len cap → hiOf len vh = some h → 0 ≤ l → l ≤ h → h ≤ (len : Int) → len ≤ cap →
      (execOp a.eval o).run P w = .ok (.value (.slice (if cap = l.toNat then A else A.map (·.add (l.toNat * P.cellsOf e))) (h.toNat - l.toNat) (cap - l.toNat))) w := fun {A len cap h} e0 hh0 h0 h1 h2 hc => by
    subst e0
    have hb := slice_bounds (P := P) (w := w) (isS := true) (lo.map a.eval) (hi.map a.eval) l h (loOf_ok hl0 hlr.1 hlr.2) (hiOf_ok hh0 hhr.1 hhr.2) h0 h1 h2 hc
    simp only [execOp, ho, he, Instr.sliceAt, Instr.slice, Sem.run_bind, run_underlying ht, Result.andThen_ok, Option.map_none, hb, run_sizeOf hk, Sem.run_pure]
  split at hr
  · rename_i T xs
    cases hT : T.size == P.cellsOf e with
    | false => rw [hT] at hr; cases hr
    | true =>
      rw [hT] at hr
      have hT' : T.size = P.cellsOf e := by simpa using hT
      obtain ⟨h, hh0, rfl⟩ := omap hr
      simp only [Bool.and_eq_true, decide_eq_true_eq] at hvc
      cases hpr with
      | f hpr =>
      cases hpr with
      | fs hpr =>
      obtain ⟨A, cap, rfl, hmx, hc, _⟩ := id hpr
      refine quiet_ok hm (run rfl hh0 hvc.1.1 hvc.1.2 hvc.2 hc) (.f (.fs ?_))
      rw [← hT']
      exact cut_crel hpr (by omega) (by omega)
  · rename_i k z off len
    cases hT : z == P.cellsOf e with
    | false => rw [hT] at hr; cases hr
    | true =>
      rw [hT] at hr
      have hT' : z = P.cellsOf e := by simpa using hT
      obtain ⟨h, hh0, rfl⟩ := omap hr
      simp only [Bool.and_eq_true, decide_eq_true_eq] at hvc
      cases hpr with
      | @sl _ _ _ _ c A hlen hmx hsl =>
      refine quiet_ok hm (run rfl hh0 hvc.1.1 hvc.1.2 hvc.2 hlen) ?_
      refine .sl (by omega) (by omega) fun hpos => ?_
      have n1 : ¬ c = l.toNat := by omega
      have n2 : off + l.toNat + (c - l.toNat) = off + c := by omega
      have n3 : off + l.toNat + (h.toNat - l.toNat) ≤ off + len := by omega
      obtain ⟨b, tot, cnt, hφ, rfl, htot, hcnt⟩ := hsl (by omega)
      refine ⟨b, tot, cnt, hφ, ?_, by rw [n2]; exact htot, Nat.le_trans n3 hcnt⟩
      rw [if_neg n1]
      simp only [Option.map_some, addr_add, ← hT', ← Nat.add_mul]
  · obtain ⟨h, hh0, h2⟩ := omap hr
    subst h2
    simp only [Bool.and_eq_true, decide_eq_true_eq] at hvc
    cases hpr with
    | f hpr => cases hpr with
      | @nils A =>
      refine quiet_ok hm (run (len := 0) (cap := 0) rfl hh0 hvc.1.1 hvc.1.2 hvc.2 (Nat.le_refl 0)) ?_
      have h1 : l = 0 := by omega
      have h2 : h = 0 := by omega
      subst h1; subst h2
      exact .f .nils
  · cases hr

theorem op_slcs {t : TypeId} {y : Operand} {lo hi : Option Operand} (ho : o.op = .slice t y lo hi none) (ht : P.underlying t = some .string)
    {ay : AOpd} {al ah : Option AOpd} (hy : cOpd y = some ay) (hl : cOpdo lo = some al) (hh : cOpdo hi = some ah) (hx : exOp Γ s G m (.slcs ay al ah) = some (x, m', vc)) (hvc : vc = true)
    (hs : SlotsOk (Nof N φ) w φ s a) (hG : Holds a G) (hm : MRel N B w φ m) : OpOk P o a w (Post N B φ w m' x) := by
  obtain ⟨p, hp, h2⟩ := obind hx
  obtain ⟨vl, hvl, h3⟩ := obind h2
  obtain ⟨vh, hvh, h4⟩ := obind h3
  clear hx h2 h3
  have hpr := opd_ok hs hG hy hp
  have hlr := opvo_ok hl hvl hs hG
  have hhr := opvo_ok hh hvh hs hG
  generalize he : a.eval y = ey at hpr
  split at h4
  · rename_i q
    obtain ⟨l, hl0, h5⟩ := obind h4
    obtain ⟨h, hh0, h6⟩ := omap h5
    simp only [Prod.mk.injEq] at h6
    obtain ⟨rfl, rfl, rfl⟩ := h6
    simp only [Bool.and_eq_true, decide_eq_true_eq] at hvc
    cases hpr with
    | f hpr =>
    cases hpr with
    | str hq =>
    have hb := slice_bounds (P := P) (w := w) (isS := false) (lo.map a.eval) (hi.map a.eval) l h (loOf_ok hl0 hlr.1 hlr.2) (hiOf_ok hh0 hhr.1 hhr.2) hvc.1.1 hvc.1.2 hvc.2 (Nat.le_refl q.length)
    refine quiet_ok hm (v := .string ⟨((q.drop l.toNat).take (h.toNat - l.toNat)).toArray⟩) ?_ (.f (.str (by simp; omega)))
    have hsz : (⟨q.toArray⟩ : ByteArray).size = q.length := by simp [ByteArray.size]
    have hex : (⟨q.toArray⟩ : ByteArray).extract l.toNat h.toNat = ⟨((q.drop l.toNat).take (h.toNat - l.toNat)).toArray⟩ := by
      apply ByteArray.ext
      simp [ByteArray.data_extract, List.extract_eq_take_drop]
    simp only [execOp, ho, he, Instr.sliceAt, Instr.slice, Sem.run_bind, run_underlying ht, Result.andThen_ok, Option.map_none, Option.isSome_none, Bool.false_eq_true, if_false, hsz, hb, Sem.run_pure, hex]
  · cases h4

theorem op_len {t e : TypeId} {y : Operand} {c : Call} (hoc : o.op = .call c) (hcc : c.callee = .builtin .len) (hca : c.args.toList = [y]) (hct : c.argTypes.toList = [t]) (ht : P.underlying t = some (.slice e))
    {ay : AOpd} (hy : cOpd y = some ay) (hx : exOp Γ s G m (.len ay) = some (x, m', vc))
    (hs : SlotsOk (Nof N φ) w φ s a) (hG : Holds a G) (hm : MRel N B w φ m) : OpOk P o a w (Post N B φ w m' x) := by
  obtain ⟨p, hp, h2⟩ := obind hx
  clear hx
  have hpr := opd_ok hs hG hy hp
  obtain ⟨callee, args, argTypes⟩ := c
  simp only at hcc hca hct
  subst hcc
  obtain rfl : args = #[y] := by cases args; simp_all
  obtain rfl : argTypes = #[t] := by cases argTypes; simp_all
  generalize he : a.eval y = ey at hpr
  have runS : ∀ {A : Option Addr} {n cap : Nat}, ey = .slice A n cap → (execOp a.eval o).run P w = .ok (.value (.int .i64 n)) w := fun {A n cap} e0 => by
    subst e0
    simp [execOp, hoc, resolve, invoke, builtin, Builtin.len_, he, run_underlying ht, goInt]
  split at h2
  · rename_i T l
    obtain ⟨rfl, rfl, _⟩ := ok1_spec h2
    cases hpr with
    | f hpr =>
    cases hpr with
    | fs hpr =>
    obtain ⟨A, cap, rfl, hmx, hc, _⟩ := hpr
    exact quiet_ok hm (runS rfl) (.f (.int (len_in hmx)))
  · obtain ⟨rfl, rfl, _⟩ := ok1_spec h2
    cases hpr with
    | f hpr =>
    cases hpr with
    | nils => exact quiet_ok hm (runS rfl) (.f (.int (len_in (Nat.zero_le _))))
  · obtain ⟨rfl, rfl, _⟩ := ok1_spec h2
    cases hpr with
    | sl hlen hmx h => exact quiet_ok hm (runS rfl) (.f (.int (len_in hmx)))
  · obtain ⟨rfl, rfl, _⟩ := ok1_spec h2
    cases hpr with
    | slx hpr _ =>
    cases hpr with
    | sl hlen hmx h => exact quiet_ok hm (runS rfl) (.f (.int (len_in hmx)))
  · cases h2

theorem op_lens {t : TypeId} {y : Operand} {c : Call} (hoc : o.op = .call c) (hcc : c.callee = .builtin .len) (hca : c.args.toList = [y]) (hct : c.argTypes.toList = [t]) (ht : P.underlying t = some .string)
    {ay : AOpd} (hy : cOpd y = some ay) (hx : exOp Γ s G m (.lens ay) = some (x, m', vc))
    (hs : SlotsOk (Nof N φ) w φ s a) (hG : Holds a G) (hm : MRel N B w φ m) : OpOk P o a w (Post N B φ w m' x) := by
  obtain ⟨p, hp, h2⟩ := obind hx
  clear hx
  have hpr := opd_ok hs hG hy hp
  obtain ⟨callee, args, argTypes⟩ := c
  simp only at hcc hca hct
  subst hcc
  obtain rfl : args = #[y] := by cases args; simp_all
  obtain rfl : argTypes = #[t] := by cases argTypes; simp_all
  generalize he : a.eval y = ey at hpr
  split at h2
  · rename_i l
    obtain ⟨rfl, rfl, _⟩ := ok1_spec h2
    cases hpr with
    | f hpr =>
    cases hpr with
    | str hl =>
    refine quiet_ok hm (v := .int .i64 (l.length : Int)) ?_ (.f (.int (len_in hl)))
    have hsz : (⟨l.toArray⟩ : ByteArray).size = l.length := by simp [ByteArray.size]
    simp [execOp, hoc, resolve, invoke, builtin, Builtin.len_, he, run_underlying ht, goInt, hsz]
  · cases h2
end
end Go.AM
