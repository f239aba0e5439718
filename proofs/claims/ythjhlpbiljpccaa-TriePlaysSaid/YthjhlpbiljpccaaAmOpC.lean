/-
  The operations that leave the world alone.
-/
import Derived.Test.YthjhlpbiljpccaaAmOpB
import Derived.Laws.Entries
namespace Go.AM
open Go.RowKit

/-- One operation of the model, carried out: what it yields, and where. -/
def OpOk (P : Program) (o : Oper) (a : Act) (w : World) (R : Value → World → Prop) : Prop :=
  match (execOp a.eval o).run P w with
  | .ok (.value v) w' => R v w'
  | .ok .skip w' => R undef w'
  | .ok (.enter f args) w' => Calls P f args w' (fun e w'' => ∃ v, e = .returned v ∧ R v w'')
  | _ => False

/-- What is left behind an operation. -/
def Post (N : Nat → Prop) (B : Nat → Prop) (φ : Phi) (w : World) (m' : Mem) (x : AV) (v : Value) (w' : World) : Prop :=
  ∃ φ', Tr N B φ w φ' w' ∧ MRel N B w' φ' m' ∧ VRel (Nof N φ') w' φ' x v

section
variable {P : Program} {N : Nat → Prop} {B : Nat → Prop} {w : World} {φ : Phi} {m : Mem} {o : Oper} {a : Act}

theorem quiet_ok {v : Value} {x : AV} (hm : MRel N B w φ m) (hr : (execOp a.eval o).run P w = .ok (.value v) w) (hv : VRel (Nof N φ) w φ x v) : OpOk P o a w (Post N B φ w m x) := by
  unfold OpOk
  rw [hr]
  exact ⟨φ, Tr.refl _ _ _ _, hm, hv⟩

theorem box_at (hm : MRel N B w φ m) {k b tot : Nat} {cnt : Cnt} {pn : Option (Nat × Nat)} {cs : List AV} (hk : m[k]? = some (.box pn cs)) (hφ : φ[k]? = some (some (b, tot, cnt))) : AtA (Nof N φ) w φ ⟨b, 0, none⟩ cs := fun j c hj => by
  obtain ⟨cells, e, hb, _, hc, _⟩ := hm.cells k b tot cnt _ hφ hk rfl
  obtain ⟨v, hv, ho, hr⟩ := hc.2.2 j c hj
  exact ⟨v, by rw [addr_add]; simp [World.cell?, hb, hv], ho, hr⟩
theorem row_at (hm : MRel N B w φ m) {k b tot i : Nat} {cnt : Cnt} {T : Sch} {l : List T.den} (hk : m[k]? = some (.row T l)) (hφ : φ[k]? = some (some (b, tot, cnt))) (hi : i < cnt.n) :
    AtA (Nof N φ) w φ ⟨b, i * T.size, none⟩ ((T.enc (l.getD i T.dflt)).map .f) := fun j c hj => by
  obtain ⟨cells, e, hb, _, hcc⟩ := hm.cells k b tot cnt _ hφ hk rfl
  have hil : i < l.length := Nat.lt_of_lt_of_le hi hcc.2
  have hs := hcc.1.2.2 i l[i] (List.getElem?_eq_getElem hil)
  have hg : l.getD i T.dflt = l[i] := by simp [List.getD, hil]
  rw [hg] at hj
  simp only [List.getElem?_map, Option.map_eq_some_iff] at hj
  obtain ⟨d, hd, rfl⟩ := hj
  obtain ⟨v, hv, ho, hr⟩ := srel_enc T l[i] _ hs j d hd
  exact ⟨v, by rw [addr_add]; simp [World.cell?, hb, hv], ho, .f hr⟩
theorem arow_at (hm : MRel N B w φ m) {k b tot i : Nat} {cnt : Cnt} {T : Sch} {es : List (List AV)} {cs : List AV} (hk : m[k]? = some (.arow T es)) (hφ : φ[k]? = some (some (b, tot, cnt))) (hi : es[i]? = some cs) :
    AtA (Nof N φ) w φ ⟨b, i * T.size, none⟩ cs := fun j c hj => by
  obtain ⟨cells, e, hb, _, hc, _⟩ := hm.cells k b tot cnt _ hφ hk rfl
  obtain ⟨v, hv, ho, hr⟩ := (hc.2.2 i cs hi).2 j c hj
  exact ⟨v, by rw [addr_add]; simp [World.cell?, hb, hv], ho, hr⟩
/-- A node's cells. -/
theorem ndAt_atA {k b tot c : Nat} {cnt : Cnt} {cells : Array Value} {e : TypeId} {x : Nd} (hφ : φ[k]? = some (some (b, tot, cnt))) (hb : w.heap[c]? = some (.cells cells e (0, 0))) (h : NdAt (b :: cnt.ex) (fun j => cells[j]?) x) : AtA (Nof N φ) w φ ⟨c, 0, none⟩ (ndL k x) := fun j d hj => by
  have ptr : ∀ {o : Option Nat} {v : Value}, NPtr (b :: cnt.ex) o v → oneV v = true ∧ VRel (Nof N φ) w φ (.ndo k o) v := fun {o v} hp => by
    refine ⟨?_, .ndo (fun _ => ⟨b, tot, cnt, hφ, hp⟩) fun h0 => by subst h0; exact hp⟩
    cases o with
    | none => rw [show v = _ from hp]; rfl
    | some i => obtain ⟨c, _, rfl⟩ := hp; rfl
  have cell : ∀ (j : Nat) v, cells[j]? = some v → w.cell? ((⟨c, 0, none⟩ : Addr).add j) = some v := fun j v hv => by rw [addr_add]; simp [World.cell?, hb, hv]
  match j, hj with
  | 0, hj => cases hj; obtain ⟨v, hv, hp⟩ := h.c0; exact ⟨v, cell 0 v hv, (ptr hp).1, (ptr hp).2⟩
  | 1, hj => cases hj; obtain ⟨v, hv, hp⟩ := h.c1; exact ⟨v, cell 1 v hv, (ptr hp).1, (ptr hp).2⟩
  | 2, hj => cases hj; exact ⟨_, cell 2 _ h.has, rfl, .f .bool⟩
  | 3, hj => cases hj; exact ⟨_, cell 3 _ h.val, rfl, .f (.int h.inr)⟩
  | j + 4, hj => simp [ndL] at hj
theorem getD_at {α : Type} {l : List α} {i : Nat} {d : α} (h : i < l.length) : l[i]? = some (l.getD i d) := by simp [List.getD, h]
theorem arena_at (hm : MRel N B w φ m) {k b tot i c : Nat} {cnt : Cnt} {pn : Option (Nat × List Nat)} {l : List Nd} {n : Int} (hk : m[k]? = some (.arena pn l n)) (hφ : φ[k]? = some (some (b, tot, cnt))) (hi : (b :: cnt.ex)[i]? = some c) : AtA (Nof N φ) w φ ⟨c, 0, none⟩ (ndL k (l.getD i Nd.z)) := by
  obtain ⟨cells, e, hb, _, hc, _⟩ := hm.cells k b tot cnt _ hφ hk rfl
  have ha := hc.2
  have hlt : i < l.length := by have := (List.getElem?_eq_some_iff.1 hi).1; rw [ha.len]; simpa using this
  cases i with
  | zero => cases hi; exact ndAt_atA hφ hb (ha.root _ (getD_at hlt))
  | succ i =>
    obtain ⟨cs, e2, h1, _, h2⟩ := ha.at_ i _ c (getD_at (d := Nd.z) hlt) (by simpa using hi)
    exact ndAt_atA hφ h1 h2
theorem root_at (hm : MRel N B w φ m) {k b tot : Nat} {cnt : Cnt} {pn : Option (Nat × List Nat)} {l : List Nd} {n : Int} (hk : m[k]? = some (.arena pn l n)) (hφ : φ[k]? = some (some (b, tot, cnt))) : AtA (Nof N φ) w φ ⟨b, 0, none⟩ (ndL k (l.getD 0 Nd.z) ++ [.f (.int .i64 n)]) := fun j d hj => by
  obtain ⟨cells, e, hb, _, hc, _⟩ := hm.cells k b tot cnt _ hφ hk rfl
  by_cases hj4 : j < 4
  · rw [List.getElem?_append_left (by simpa [ndL] using hj4)] at hj
    exact arena_at hm hk hφ (i := 0) rfl j d hj
  · have : j = 4 := by
      have := (List.getElem?_eq_some_iff.1 hj).1
      simp [ndL] at this; omega
    subst this
    cases hj
    exact ⟨_, by rw [addr_add]; simp [World.cell?, hb, hc.2.sat], rfl, .f (.int hc.2.inr)⟩
theorem nrow_at (hm : MRel N B w φ m) {k j b tot : Nat} {cnt : Cnt} {l : List (Option Nat)} (hk : m[k]? = some (.nrow j l)) (hφ : φ[k]? = some (some (b, tot, cnt))) : tot = l.length ∧ AtA (Nof N φ) w φ ⟨b, 0, none⟩ (l.map (.ndo j)) := by
  obtain ⟨cells, e, hb, hs, hc, _⟩ := hm.cells k b tot cnt _ hφ hk rfl
  refine ⟨by rw [← hs, hc.1], fun q d hq => ?_⟩
  simp only [List.getElem?_map, Option.map_eq_some_iff] at hq
  obtain ⟨o, ho, rfl⟩ := hq
  obtain ⟨v, hv, h1, h2⟩ := hc.2 q o ho
  exact ⟨v, by rw [addr_add]; simp [World.cell?, hb, hv], h1, h2⟩
theorem fpt_at {cs : List FV} {off : Nat} {v : Value} (h : FRel (Nof N φ) w (.fpt cs off) v) : ∃ A : Addr, v = .pointer (some (A.add off)) ∧ AtA (Nof N φ) w φ A (cs.map .f) := by
  cases h with
  | @fpt _ _ A g hN hc ho h =>
    refine ⟨A, rfl, fun j c hj => ?_⟩
    simp only [List.getElem?_map, Option.map_eq_some_iff] at hj
    obtain ⟨d, hd, rfl⟩ := hj
    exact ⟨g j, hc j d hd, ho j d hd, .f (h j d hd)⟩

theorem load_val {t : TypeId} (ht : tyOk P t = true) (hm : MRel N B w φ m) {p x : AV} {pv : Value} (hp : VRel (Nof N φ) w φ p pv) (hl : loadA m (isAggT P t) (P.cellsOf t) p = some x) :
    ∃ v, (Instr.loadAt t pv).run P w = .ok v w ∧ VRel (Nof N φ) w φ x v := by
  have fin : ∀ {A : Addr} {off : Nat} {xs : List AV}, pv = .pointer (some (A.add off)) → AtA (Nof N φ) w φ A xs → rdA (isAggT P t) (P.cellsOf t) xs off = some x → ∃ v, (Instr.loadAt t pv).run P w = .ok v w ∧ VRel (Nof N φ) w φ x v := fun {A off xs} e hA hr => by
    subst e
    obtain ⟨v, hv, hrel⟩ := rdA_ok ht hA hr
    exact ⟨v, by simp [Instr.loadAt, Instr.sureAddr, hv], hrel⟩
  unfold loadA at hl
  split at hl
  · rename_i cs off
    cases hp with
    | f hp =>
      obtain ⟨A, e, hA⟩ := fpt_at hp
      obtain ⟨y, hy, rfl⟩ := omap hl
      exact fin e hA (rdF_rdA hy)
  · rename_i k off
    cases hp with
    | @ptr _ _ b tot cnt hφ =>
      split at hl
      · rename_i pn cs hk
        exact fin (A := ⟨b, 0, none⟩) (off := off) (by rw [addr_add]; simp) (box_at hm hk hφ) hl
      · rename_i pn l n hk
        exact fin (A := ⟨b, 0, none⟩) (off := off) (by rw [addr_add]; simp) (root_at hm hk hφ) hl
      · cases hl
  · rename_i k i off
    cases hp with
    | @nd _ _ _ b tot c cnt hφ hi =>
      split at hl
      · rename_i pn l n hk
        exact fin (A := ⟨c, 0, none⟩) (off := off) (by rw [addr_add]; simp) (arena_at hm hk hφ hi) hl
      · cases hl
  · rename_i k i v
    cases hp with
    | @ndx _ _ b tot c _ cnt hφ hi h0 h1 =>
      split at hl
      · rename_i pn l n hk
        cases ha : isAggT P t with
        | true => rw [ha] at hl; cases hl
        | false =>
          rw [ha] at hl
          simp only [cond_false, Option.some.injEq] at hl
          refine fin (A := ⟨c, 0, none⟩) (off := v.toNat) (by rw [addr_add]; simp) (arena_at hm hk hφ hi) ?_
          rw [ha, ← hl]
          have : v = 0 ∨ v = 1 := by omega
          rcases this with rfl | rfl <;> rfl
      · cases hl
  · rename_i k v
    cases hp with
    | @bx _ b tot _ cnt hφ h0 h1 =>
      split at hl
      · rename_i j l hk
        cases ha : isAggT P t with
        | true => rw [ha] at hl; cases hl
        | false =>
          rw [ha] at hl
          simp only [cond_false, Option.some.injEq] at hl
          have hn := nrow_at hm hk hφ
          refine fin (A := ⟨b, 0, none⟩) (off := v.toNat) (by rw [addr_add]; simp) hn.2 ?_
          rw [ha, ← hl]
          have hlt : v.toNat < l.length := by omega
          simp [rdA, hlt]
      · cases hl
  · rename_i k z i off
    cases hp with
    | @eptr _ _ _ _ b tot cnt hφ hi =>
      split at hl
      · rename_i T l hk
        cases hz : T.size == z with
        | false => rw [hz] at hl; cases hl
        | true =>
          rw [hz] at hl
          obtain ⟨y, hy, rfl⟩ := omap hl
          have hz' : T.size = z := by simpa using hz
          subst hz'
          exact fin (by rw [addr_add]) (row_at hm hk hφ hi) (rdF_rdA hy)
      · rename_i T es hk
        cases hz : T.size == z with
        | false => rw [hz] at hl; cases hl
        | true =>
          rw [hz] at hl
          obtain ⟨cs, hcs, hr⟩ := obind hl
          have hz' : T.size = z := by simpa using hz
          subst hz'
          exact fin (by rw [addr_add]) (arow_at hm hk hφ hcs) hr
      · cases hl
  · cases hl

/-! ### numbers -/
theorem two_pow_pos (n : Nat) : (0 : Int) < 2 ^ n := Int.pow_pos (by decide)
theorem wrap_in (k : IntKind) (n : Int) : inR k (k.wrap n) := by
  unfold inR IntKind.wrap IntKind.min IntKind.max
  have h1 := Int.emod_nonneg n (Int.ne_of_gt (two_pow_pos k.bits))
  have h2 := Int.emod_lt_of_pos n (two_pow_pos k.bits)
  have h3 : (2 : Int) ^ k.bits = 2 * 2 ^ (k.bits - 1) := by cases k <;> rfl
  have h4 := two_pow_pos (k.bits - 1)
  generalize n % 2 ^ k.bits = r at *
  generalize (2 : Int) ^ (k.bits - 1) = h at *
  generalize (2 : Int) ^ k.bits = g at *
  cases k.signed <;> simp <;> (try split) <;> omega
theorem u8_in (b : UInt8) : inR .u8 (b.toNat : Int) := by
  have := b.toNat_lt
  constructor <;> simp [IntKind.min, IntKind.max, IntKind.signed, IntKind.bits] <;> omega
theorem len_in {n : Nat} (h : n ≤ maxLen) : inR .i64 (n : Int) := by
  unfold maxLen at h
  constructor <;> simp [IntKind.min, IntKind.max, IntKind.signed, IntKind.bits] <;> omega

theorem eqGuard_int (op : BinOp) (t : TypeId) (x y : Operand) (j k : IntKind) (p q : Int) (w : World) : (eqGuard op t x y (.int j p) (.int k q)).run P w = .ok () w := by
  unfold eqGuard; cases op <;> rfl
theorem eqGuard_bool (op : BinOp) (t : TypeId) (x y : Operand) (p q : Bool) (w : World) : (eqGuard op t x y (.bool p) (.bool q)).run P w = .ok () w := by
  unfold eqGuard; cases op <;> rfl
theorem eqGuard_str (op : BinOp) (t : TypeId) (x y : Operand) (p q : ByteArray) (w : World) : (eqGuard op t x y (.string p) (.string q)).run P w = .ok () w := by
  unfold eqGuard; cases op <;> rfl

theorem tmod_in {k : IntKind} {a : Int} (b : Int) (h : inR k a) : inR k (a.tmod b) := by
  have h0 : k.min ≤ 0 ∧ 0 ≤ k.max := by cases k <;> decide
  unfold inR at h ⊢
  have key : ∀ n : Nat, 0 ≤ (n : Int).tmod b ∧ (n : Int).tmod b ≤ n := fun n => by
    have e : (n : Int).tmod b = ((n % b.natAbs : Nat) : Int) := by
      cases b with
      | ofNat m => rfl
      | negSucc m => rfl
    rw [e]
    exact ⟨Int.natCast_nonneg _, Int.ofNat_le.2 (Nat.mod_le _ _)⟩
  rcases Int.le_total 0 a with ha | ha
  · obtain ⟨n, rfl⟩ := Int.eq_ofNat_of_zero_le ha
    have := key n
    omega
  · obtain ⟨n, hn⟩ := Int.eq_ofNat_of_zero_le (show 0 ≤ -a by omega)
    have e : a = -(n : Int) := by omega
    subst e
    have := key n
    rw [Int.neg_tmod]
    omega
theorem binI_ok {op : BinOp} {k : IntKind} {p q : Int} {r : FV} {vc : Bool} (h : binI op k p q = some (r, vc)) (hin : inR k p) (hdiv : (op = .rem ∨ op = .quo) → vc = true) : ∃ v, (∀ t, (binOp op t (.int k p) (.int k q)).run P w = .ok v w) ∧ FRel (Nof N φ) w r v := by
  by_cases hrem : op = .rem
  · subst hrem
    simp only [binI, Option.some.injEq, Prod.mk.injEq] at h
    obtain ⟨rfl, h2⟩ := h
    rw [hdiv (.inl rfl)] at h2
    have h2 : ¬ q = 0 := by simpa using h2
    exact ⟨_, fun t => by simp [binOp, Op.intDiv, h2], .int (tmod_in q hin)⟩
  by_cases hquo : op = .quo
  · subst hquo
    simp only [binI, Option.some.injEq, Prod.mk.injEq] at h
    obtain ⟨rfl, h2⟩ := h
    rw [hdiv (.inr rfl)] at h2
    have h2 : ¬ q = 0 := by simpa using h2
    exact ⟨_, fun t => by simp [binOp, Op.intDiv, h2], .int (wrap_in k _)⟩
  cases op <;> first | exact (hrem rfl).elim | exact (hquo rfl).elim | skip
  all_goals simp only [binI, Option.some.injEq, Prod.mk.injEq, reduceCtorEq] at h
  all_goals obtain ⟨rfl, _⟩ := h
  · exact ⟨_, fun t => by simp [binOp, Op.intArith], .int (wrap_in k _)⟩
  · exact ⟨_, fun t => by simp [binOp, Op.intArith], .int (wrap_in k _)⟩
  · exact ⟨_, fun t => by simp [binOp, Op.intArith], .int (wrap_in k _)⟩
  · exact ⟨_, fun t => by simp [binOp, Op.intBits], .int (wrap_in k _)⟩
  · exact ⟨_, fun t => by simp [binOp, Op.intBits], .int (wrap_in k _)⟩
  · exact ⟨_, fun t => by simp [binOp, Op.intBits], .int (wrap_in k _)⟩
  · exact ⟨_, fun t => by simp [binOp, Op.intBits], .int (wrap_in k _)⟩
  · exact ⟨_, fun t => by simp [binOp, Op.intCmp], .bool⟩
  · exact ⟨_, fun t => by simp [binOp, Op.intCmp], .bool⟩
  · exact ⟨_, fun t => by simp [binOp, Op.intCmp], .bool⟩
  · exact ⟨_, fun t => by simp [binOp, Op.intCmp], .bool⟩
  · exact ⟨_, fun t => by simp [binOp, Op.intCmp], .bool⟩
  · exact ⟨_, fun t => by simp [binOp, Op.intCmp], .bool⟩
end
end Go.AM
