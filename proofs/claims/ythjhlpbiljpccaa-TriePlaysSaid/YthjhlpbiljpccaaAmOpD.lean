/-
  The operations that leave the world alone, one by one.
-/
import Derived.Test.YthjhlpbiljpccaaAmOpC
import Derived.Laws.Cover3
import Derived.Laws.Pointers
namespace Go.AM
open Go.RowKit

section
variable {P : Program} {N : Nat → Prop} {B : Nat → Prop} {w : World} {φ : Phi} {m : Mem} {o : Oper} {a : Act} {Γ : Env} {s : Slots} {G : List (Nat × Bool)} {x : AV} {m' : Mem} {vc : Bool}

theorem ok1_spec {v : AV} {m m' : Mem} {x : AV} {vc : Bool} (h : ok1 v m = some (x, m', vc)) : x = v ∧ m' = m ∧ vc = true := by
  unfold ok1 at h; simp only [Option.some.injEq, Prod.mk.injEq] at h; exact ⟨h.1.symm, h.2.1.symm, h.2.2.symm⟩

theorem op_mov {y : Operand} (ho : o.op = .move y ∨ o.op = .assign y) {ay : AOpd} (hc : cOpd y = some ay) (hx : exOp Γ s G m (.mov ay) = some (x, m', vc))
    (hs : SlotsOk (Nof N φ) w φ s a) (hG : Holds a G) (hm : MRel N B w φ m) : OpOk P o a w (Post N B φ w m' x) := by
  obtain ⟨v, hv, h⟩ := obind hx
  obtain ⟨rfl, rfl, _⟩ := ok1_spec h
  exact quiet_ok hm (by rcases ho with ho | ho <;> simp [execOp, ho]) (opd_ok hs hG hc hv)

theorem pickV_spec {t : Bool} {p q v : AV} (h : pickV t p q = some v) : v = if t = true then p else q := by
  unfold pickV at h
  split at h
  · cases h; cases t <;> rfl
  · rename_i k p j q
    cases hkj : decide (k = j) with
    | false => rw [hkj] at h; cases h
    | true =>
      rw [hkj] at h; cases h
      have hkj' : k = j := by simpa using hkj
      subst hkj'
      cases t <;> rfl
  · cases h

theorem op_pick {c : Nat} {y z : Operand} (ho : o.op = .pick (.tmp c) y z) {ay az : AOpd} (hy : cOpd y = some ay) (hz : cOpd z = some az) (hx : exOp Γ s G m (.pick c ay az) = some (x, m', vc))
    (hs : SlotsOk (Nof N φ) w φ s a) (hG : Holds a G) (hm : MRel N B w φ m) : OpOk P o a w (Post N B φ w m' x) := by
  obtain ⟨cv, hcv, h⟩ := obind hx
  obtain ⟨va, hva, h⟩ := obind h
  obtain ⟨vb, hvb, h⟩ := obind h
  have hcr : VRel (Nof N φ) w φ cv (a.eval (.tmp c)) := opd_ok hs hG (x := .tmp c) rfl hcv
  generalize hce : a.eval (.tmp c) = ce at hcr
  have hct' : a.tmps.getD c undef = ce := hce
  cases hcr with
  | f hcr =>
    cases hcr with
    | @bool t =>
      obtain ⟨v, hv, h⟩ := obind h
      obtain ⟨rfl, rfl, _⟩ := ok1_spec h
      have run : (execOp a.eval o).run P w = .ok (.value (if t = true then a.eval y else a.eval z)) w := by
        simp only [execOp, ho, hce, asBool]
        cases t <;> rfl
      refine quiet_ok hm run ?_
      have hA : t = true → VRel (Nof N φ) w φ va (a.eval y) := fun e => opd_ok hs (Holds.cons (by rw [hct', e]) hG) hy hva
      have hB : t = false → VRel (Nof N φ) w φ vb (a.eval z) := fun e => opd_ok hs (Holds.cons (by rw [hct', e]) hG) hz hvb
      have hsel := pickV_spec hv
      subst hsel
      cases t with
      | true => exact hA rfl
      | false => exact hB rfl
    | _ => cases h
  | _ => cases h

theorem op_load {t : TypeId} {y : Operand} (ho : o.op = .load t y) (ht : tyOk P t = true) {ay : AOpd} (hc : cOpd y = some ay) (hx : exOp Γ s G m (.load (isAggT P t) (P.cellsOf t) ay) = some (x, m', vc))
    (hs : SlotsOk (Nof N φ) w φ s a) (hG : Holds a G) (hm : MRel N B w φ m) : OpOk P o a w (Post N B φ w m' x) := by
  obtain ⟨p, hp, h⟩ := obind hx
  obtain ⟨v, hv, h⟩ := obind h
  obtain ⟨rfl, rfl, _⟩ := ok1_spec h
  obtain ⟨u, hu, hrel⟩ := load_val ht hm (opd_ok hs hG hc hp) hv
  exact quiet_ok hm (by simp [execOp, ho, hu]) hrel

theorem str_eq (p q : List UInt8) : ((⟨p.toArray⟩ : ByteArray).toList == (⟨q.toArray⟩ : ByteArray).toList) = (p == q) := by
  rw [ByteArray.toList_eq, ByteArray.toList_eq]

theorem shiftI_ok {op : BinOp} {k j : IntKind} {p q : Int} {r : FV} {vc : Bool} (h : shiftI op k p q = some (r, vc)) (hvc : vc = true) (hp : inR k p) :
    ∃ v, (∀ t, (binOp op t (.int k p) (.int j q)).run P w = .ok v w) ∧ FRel (Nof N φ) w r v := by
  subst hvc
  cases op <;> simp only [shiftI, Option.some.injEq, Prod.mk.injEq, reduceCtorEq] at h <;> obtain ⟨rfl, h0⟩ := h
  · have h0' : ¬ q < 0 := by simpa using h0
    exact ⟨_, fun t => by simp [binOp, Op.shift, h0'], .int (wrap_in k _)⟩
  · have h0' : ¬ q < 0 := by simpa using h0
    refine ⟨_, fun t => by simp [binOp, Op.shift, h0'], .int ?_⟩
    have h2 := two_pow_pos (min q.toNat k.bits)
    have hmm : k.min ≤ 0 ∧ 0 ≤ k.max := by cases k <;> decide
    obtain ⟨hl, hu⟩ := hp
    rw [Int.fdiv_eq_ediv_of_nonneg _ (Int.le_of_lt h2)]
    constructor
    · have : k.min * 2 ^ (min q.toNat k.bits) ≤ p := by
        have : k.min * 2 ^ (min q.toNat k.bits) ≤ k.min * 1 := Int.mul_le_mul_of_nonpos_left hmm.1 (by omega)
        omega
      exact Int.le_ediv_of_mul_le h2 this
    · have : p / 2 ^ (min q.toNat k.bits) ≤ k.max := by
        rcases Int.lt_or_le p 0 with h | h
        · have := Int.ediv_neg_of_neg_of_pos h h2
          omega
        · have := Int.ediv_le_self (2 ^ (min q.toNat k.bits)) h
          omega
      exact this

theorem evBin_cases {op : BinOp} {p q : AV} {r : FV × Bool} (h : evBin op p q = some r) :
    (∃ k a j b, p = .f (.int k a) ∧ q = .f (.int j b) ∧ (((op = .shl ∨ op = .shr) ∧ shiftI op k a b = some r) ∨ (k = j ∧ binI op k a b = some r))) ∨
    (∃ a b, p = .f (.str a) ∧ q = .f (.str b) ∧ strB op a b = some r) := by
  unfold evBin at h
  split at h
  · rename_i k a j b
    refine .inl ⟨_, _, _, _, rfl, rfl, ?_⟩
    split at h
    · exact .inl ⟨.inl rfl, h⟩
    · exact .inl ⟨.inr rfl, h⟩
    · refine .inr ?_
      cases hkj : decide (k = j) with
      | false => rw [hkj] at h; cases h
      | true => rw [hkj] at h; exact ⟨by simpa using hkj, h⟩
  · exact .inr ⟨_, _, rfl, rfl, h⟩
  · cases h

theorem op_bin {op : BinOp} {t u : TypeId} {y z : Operand} (ho : o.op = .binOp op t y z u) {ay az : AOpd} (hy : cOpd y = some ay) (hz : cOpd z = some az) (hx : exOp Γ s G m (.bin op ay az) = some (x, m', vc))
    (hvc : hasVc (.bin op ay az) = true → vc = true)
    (hs : SlotsOk (Nof N φ) w φ s a) (hG : Holds a G) (hm : MRel N B w φ m) : OpOk P o a w (Post N B φ w m' x) := by
  obtain ⟨p, hp, h1⟩ := obind hx
  obtain ⟨q, hq, h2⟩ := obind h1
  obtain ⟨r, hr, h3⟩ := omap h2
  clear hx h1 h2
  simp only [Prod.mk.injEq] at h3
  obtain ⟨rfl, rfl, rfl⟩ := h3
  have hpr := opd_ok hs hG hy hp
  have hqr := opd_ok hs hG hz hq
  generalize he : a.eval y = ey at hpr
  generalize hf : a.eval z = ez at hqr
  have fin : ∀ {v : Value}, (eqGuard op t y z ey ez).run P w = .ok () w → (binOp op t ey ez).run P w = .ok v w → FRel (Nof N φ) w r.1 v → OpOk P o a w (Post N B φ w m (.f r.1)) := fun {v} h1 h2 hrel =>
    quiet_ok hm (by simp [execOp, ho, he, hf, h1, h2]) (.f hrel)
  rcases evBin_cases hr with ⟨k, n, j, l, rfl, rfl, h⟩ | ⟨b, c, rfl, rfl, h⟩
  · cases hpr with
    | f hpr =>
    cases hqr with
    | f hqr =>
    cases hpr with
    | int hin =>
    cases hqr with
    | int hin' =>
    rcases h with ⟨hop, h⟩ | ⟨rfl, h⟩
    · obtain ⟨v, hv, hrel⟩ := shiftI_ok (N := N) (φ := φ) (w := w) (P := P) (j := j) (vc := r.2) h (hvc (by rcases hop with rfl | rfl <;> rfl)) hin
      exact fin (eqGuard_int _ _ _ _ _ _ _ _ _) (hv t) hrel
    · obtain ⟨v, hv, hrel⟩ := binI_ok (N := N) (φ := φ) (w := w) (P := P) (vc := r.2) h hin fun hop => hvc (by rcases hop with rfl | rfl <;> rfl)
      exact fin (eqGuard_int _ _ _ _ _ _ _ _ _) (hv t) hrel
  · cases hpr with
    | f hpr =>
    cases hqr with
    | f hqr =>
    cases hpr with
    | str hb =>
    cases hqr with
    | str hc' =>
    have e1 : (eqGuard op t y z (.string ⟨b.toArray⟩) (.string ⟨c.toArray⟩)).run P w = .ok () w := eqGuard_str _ _ _ _ _ _ _
    cases op <;> simp only [strB, Option.some.injEq, reduceCtorEq] at h <;> subst h
    · exact fin e1 (by simp [binOp, Op.stringOp]) .bool
    · exact fin e1 (by simp [binOp, Op.stringOp]) .bool
/-- Which operators are asked of two Bools. -/
theorem run_eqlB {t : TypeId} {b c : Bool} (h : P.underlying t = some .bool) : (binOp .eql t (.bool b) (.bool c)).run P w = .ok (.bool (b == c)) w := by
  simp [binOp, Op.equal, Op.maxDepth, run_equalIn_bool' _ _ _ _ _ h]
theorem run_neqB {t : TypeId} {b c : Bool} (h : P.underlying t = some .bool) : (binOp .neq t (.bool b) (.bool c)).run P w = .ok (.bool (!(b == c))) w := by
  simp [binOp, Op.equal, Op.maxDepth, run_equalIn_bool' _ _ _ _ _ h]


theorem op_eqb {op : BinOp} {neg : Bool} {t u : TypeId} {y z : Operand} (ho : o.op = .binOp op t y z u) (ht : P.underlying t = some .bool) (hop : (neg = false ∧ op = .eql) ∨ (neg = true ∧ op = .neq))
    {ay az : AOpd} (hy : cOpd y = some ay) (hz : cOpd z = some az) (hx : exOp Γ s G m (.eqb neg ay az) = some (x, m', vc))
    (hs : SlotsOk (Nof N φ) w φ s a) (hG : Holds a G) (hm : MRel N B w φ m) : OpOk P o a w (Post N B φ w m' x) := by
  obtain ⟨p, hp, h1⟩ := obind hx
  obtain ⟨q, hq, h2⟩ := obind h1
  clear hx h1
  have hpr := opd_ok hs hG hy hp
  have hqr := opd_ok hs hG hz hq
  generalize he : a.eval y = ey at hpr
  generalize hf : a.eval z = ez at hqr
  split at h2
  · obtain ⟨rfl, rfl, _⟩ := ok1_spec h2
    cases hpr with
    | f hpr =>
    cases hqr with
    | f hqr =>
    cases hpr with
    | bool =>
    cases hqr with
    | bool =>
    rcases hop with ⟨rfl, rfl⟩ | ⟨rfl, rfl⟩
    · exact quiet_ok hm (by simp [execOp, ho, he, hf, eqGuard_bool, run_eqlB ht]) (.f .bool)
    · exact quiet_ok hm (by simp [execOp, ho, he, hf, eqGuard_bool, run_neqB ht]) (.f .bool)
  · cases h2

theorem run_eqlN {t e : TypeId} {A : Option Addr} {l c : Nat} (h : P.underlying t = some (.slice e)) : (binOp .eql t (.slice A l c) (.slice none 0 0)).run P w = .ok (.bool A.isNone) w := by
  simp only [binOp]
  simp [run_equal_slice_nil w t e A l c h]
theorem run_neqN {t e : TypeId} {A : Option Addr} {l c : Nat} (h : P.underlying t = some (.slice e)) : (binOp .neq t (.slice A l c) (.slice none 0 0)).run P w = .ok (.bool (!A.isNone)) w := run_neq_slice_nil w t e A l c h
theorem eqGuard_slice (op : BinOp) (t : TypeId) (x y : Operand) (A B : Option Addr) (l c l' c' : Nat) (w : World) : (eqGuard op t x y (.slice A l c) (.slice B l' c')).run P w = .ok () w := by
  unfold eqGuard
  cases op <;> simp
theorem op_nilq {op : BinOp} {neg : Bool} {t u e : TypeId} {y : Operand} (ho : o.op = .binOp op t y (.const (.slice none 0 0)) u) (ht : P.underlying t = some (.slice e)) (hop : (neg = false ∧ op = .eql) ∨ (neg = true ∧ op = .neq))
    {ay : AOpd} (hy : cOpd y = some ay) (hx : exOp Γ s G m (.nilq neg ay) = some (x, m', vc))
    (hs : SlotsOk (Nof N φ) w φ s a) (hG : Holds a G) (hm : MRel N B w φ m) : OpOk P o a w (Post N B φ w m' x) := by
  obtain ⟨p, hp, h2⟩ := obind hx
  clear hx
  have hpr := opd_ok hs hG hy hp
  have key : ∃ (A : Option Addr) (l c : Nat) (z : Prop), a.eval y = .slice A l c ∧ (A.isNone = true → z) ∧ (ok1 (bif neg then .unkB True z else .unkB z True) m = some (x, m', vc) ∨ ok1 (.unkB True True) m = some (x, m', vc)) := by
    generalize a.eval y = ey at hpr
    split at h2
    · rename_i T l
      have hT : Nat.blt 0 T.size = true := by
        cases hb : Nat.blt 0 T.size with
        | true => rfl
        | false => rw [hb] at h2; cases h2
      rw [hT] at h2
      simp only [cond_true] at h2
      cases hpr with
      | f hpr => cases hpr with
        | fs h =>
          obtain ⟨A, cap, rfl, _, hc, h3⟩ := h
          refine ⟨A, _, _, _, rfl, fun hA => ?_, .inl h2⟩
          by_cases h0 : 0 < lenD (T := T) l
          · obtain ⟨aa, rfl, _⟩ := h3 h0 (by simpa using hT)
            cases hA
          · exact List.eq_nil_of_length_eq_zero (Nat.eq_zero_of_not_pos h0)
    · cases hpr with
      | f hpr => cases hpr with
        | nils => exact ⟨_, _, _, True, rfl, fun _ => trivial, .inr h2⟩
    · cases hpr with
      | sl h1 h2' h3 =>
        refine ⟨_, _, _, _, rfl, fun hA => ?_, .inl h2⟩
        refine Nat.eq_zero_of_not_pos fun h0 => ?_
        obtain ⟨b, tot, cnt, _, hA2, _⟩ := h3 (Nat.lt_of_lt_of_le h0 h1)
        rw [hA2] at hA; cases hA
    · cases h2
  obtain ⟨A, l, c, z, he, hz, h2⟩ := key
  have hc : a.eval (.const (.slice none 0 0)) = .slice none 0 0 := rfl
  have hz' : (!A.isNone) = false → z := fun h => hz (by simpa using h)
  rcases h2 with h2 | h2
  · obtain ⟨rfl, rfl, _⟩ := ok1_spec h2
    rcases hop with ⟨rfl, rfl⟩ | ⟨rfl, rfl⟩
    · exact quiet_ok hm (by simp [execOp, ho, he, hc, eqGuard_slice, run_eqlN ht]) (.unkB (b := A.isNone) hz fun _ => trivial)
    · exact quiet_ok hm (by simp [execOp, ho, he, hc, eqGuard_slice, run_neqN ht]) (.unkB (b := !A.isNone) (fun _ => trivial) hz')
  · obtain ⟨rfl, rfl, _⟩ := ok1_spec h2
    rcases hop with ⟨rfl, rfl⟩ | ⟨rfl, rfl⟩
    · exact quiet_ok hm (by simp [execOp, ho, he, hc, eqGuard_slice, run_eqlN ht]) (.unkB (b := A.isNone) (fun _ => trivial) fun _ => trivial)
    · exact quiet_ok hm (by simp [execOp, ho, he, hc, eqGuard_slice, run_neqN ht]) (.unkB (b := !A.isNone) (fun _ => trivial) fun _ => trivial)

theorem op_un {op : UnOp} {t : TypeId} {y : Operand} (ho : o.op = .unOp op t y) {ay : AOpd} (hy : cOpd y = some ay) (hx : exOp Γ s G m (.un op ay) = some (x, m', vc))
    (hs : SlotsOk (Nof N φ) w φ s a) (hG : Holds a G) (hm : MRel N B w φ m) : OpOk P o a w (Post N B φ w m' x) := by
  obtain ⟨p, hp, h2⟩ := obind hx
  clear hx
  have hpr := opd_ok hs hG hy hp
  generalize he : a.eval y = ey at hpr
  split at h2
  · obtain ⟨rfl, rfl, _⟩ := ok1_spec h2
    cases hpr with
    | f hpr =>
    cases hpr with
    | bool => exact quiet_ok hm (by simp [execOp, ho, he, Op.unary]) (.f .bool)
  · obtain ⟨rfl, rfl, _⟩ := ok1_spec h2
    cases hpr with
    | f hpr =>
    cases hpr with
    | int hi => exact quiet_ok hm (by simp [execOp, ho, he, Op.unary, Op.intBits]) (.f (.int (wrap_in _ _)))
  · obtain ⟨rfl, rfl, _⟩ := ok1_spec h2
    cases hpr with
    | f hpr =>
    cases hpr with
    | int hi => exact quiet_ok hm (by simp [execOp, ho, he, Op.unary, Op.intArith]) (.f (.int (wrap_in _ _)))
  · cases h2

theorem op_conv {t u : TypeId} {j k : IntKind} {y : Operand} (ho : o.op = .convert t u y) (ht : P.underlying t = some (.int j)) (hu : P.underlying u = some (.int k)) {ay : AOpd} (hy : cOpd y = some ay)
    (hx : exOp Γ s G m (.conv k ay) = some (x, m', vc))
    (hs : SlotsOk (Nof N φ) w φ s a) (hG : Holds a G) (hm : MRel N B w φ m) : OpOk P o a w (Post N B φ w m' x) := by
  obtain ⟨p, hp, h2⟩ := obind hx
  clear hx
  have hpr := opd_ok hs hG hy hp
  generalize he : a.eval y = ey at hpr
  split at h2
  · obtain ⟨rfl, rfl, _⟩ := ok1_spec h2
    cases hpr with
    | f hpr =>
    cases hpr with
    | int hi => exact quiet_ok hm (by simp [execOp, ho, he, convert, run_underlying ht, run_underlying hu, Conv.intToInt]) (.f (.int (wrap_in _ _)))
  · cases h2

theorem op_convS {t u : TypeId} {y : Operand} (ho : o.op = .convert t u y) (ht : P.underlying t = some .string) (hu : P.underlying u = some .string) {ay : AOpd} (hy : cOpd y = some ay)
    (hx : exOp Γ s G m (.convS ay) = some (x, m', vc))
    (hs : SlotsOk (Nof N φ) w φ s a) (hG : Holds a G) (hm : MRel N B w φ m) : OpOk P o a w (Post N B φ w m' x) := by
  obtain ⟨p, hp, h2⟩ := obind hx
  clear hx
  have hpr := opd_ok hs hG hy hp
  generalize he : a.eval y = ey at hpr
  split at h2
  · obtain ⟨rfl, rfl, _⟩ := ok1_spec h2
    cases hpr with
    | f hpr =>
    cases hpr with
    | str hi => exact quiet_ok hm (by simp [execOp, ho, he, convert, run_underlying ht, run_underlying hu]) (.f (.str hi))
  · cases h2
theorem eqGuard_ptr (op : BinOp) (t : TypeId) (x y : Operand) (A B : Option Addr) (w : World) : (eqGuard op t x y (.pointer A) (.pointer B)).run P w = .ok () w := by
  unfold eqGuard
  cases op <;> simp
theorem op_nilpq {op : BinOp} {neg : Bool} {t u e : TypeId} {y : Operand} (ho : o.op = .binOp op t y (.const (.pointer none)) u) (ht : P.underlying t = some (.pointer e)) (hop : (neg = false ∧ op = .eql) ∨ (neg = true ∧ op = .neq))
    {ay : AOpd} (hy : cOpd y = some ay) (hx : exOp Γ s G m (.nilpq neg ay) = some (x, m', vc))
    (hs : SlotsOk (Nof N φ) w φ s a) (hG : Holds a G) (hm : MRel N B w φ m) : OpOk P o a w (Post N B φ w m' x) := by
  obtain ⟨p, hp, h2⟩ := obind hx
  clear hx
  have hpr := opd_ok hs hG hy hp
  have hte : P.pointee t = e := by simp [Program.pointee, ht]
  have hp' : P.underlying t = some (.pointer (P.pointee t)) := by rw [hte]; exact ht
  have fin : ∀ {A : Option Addr} {b : Bool}, a.eval y = .pointer A → A.isNone = b → ok1 (.f (.bool (bif neg then !b else b))) m = some (x, m', vc) → OpOk P o a w (Post N B φ w m' x) := fun {A b} he hb h => by
    obtain ⟨rfl, rfl, _⟩ := ok1_spec h
    have hc : a.eval (.const (.pointer none)) = .pointer none := rfl
    have h1 : (binOp .eql t (.pointer A) (.pointer none)).run P w = .ok (.bool A.isNone) w := by
      have := run_equal_pointer_nil w t A hp'
      simp [binOp, this]
    have hq2 : (binOp .neq t (.pointer A) (.pointer none)).run P w = .ok (.bool (!A.isNone)) w := by
      have := run_equal_pointer_nil w t A hp'
      simp [binOp, this]
    subst hb
    cases A <;> rcases hop with ⟨rfl, rfl⟩ | ⟨rfl, rfl⟩
    · exact quiet_ok hm (by simp [execOp, ho, he, hc, eqGuard_ptr, h1]) (.f .bool)
    · exact quiet_ok hm (by simp [execOp, ho, he, hc, eqGuard_ptr, hq2]) (.f .bool)
    · exact quiet_ok hm (by simp [execOp, ho, he, hc, eqGuard_ptr, h1]) (.f .bool)
    · exact quiet_ok hm (by simp [execOp, ho, he, hc, eqGuard_ptr, hq2]) (.f .bool)
  generalize he : a.eval y = ey at hpr
  split at h2
  · cases hpr with
    | f hpr => cases hpr with
      | nilp => exact fin (b := true) he rfl (by cases neg <;> simpa using h2)
  · cases hpr with
    | f hpr => cases hpr with
      | fpt g _ _ _ _ => exact fin (b := false) he rfl (by cases neg <;> simpa using h2)
  · cases hpr with
    | ptr _ => exact fin (b := false) he rfl (by cases neg <;> simpa using h2)
  · cases hpr with
    | eptr _ _ => exact fin (b := false) he rfl (by cases neg <;> simpa using h2)
  · cases hpr with
    | nd _ _ => exact fin (b := false) he rfl (by cases neg <;> simpa using h2)
  · rename_i k oo
    cases hpr with
    | ndo h h0 =>
      cases oo with
      | none =>
        rw [h0 rfl] at he
        exact fin (b := true) he rfl (by cases neg <;> simpa using h2)
      | some i =>
        obtain ⟨b, tot, cnt, _, c, _, rfl⟩ := h rfl
        exact fin (b := false) he rfl (by cases neg <;> simpa using h2)
  · cases h2
end
end Go.AM
