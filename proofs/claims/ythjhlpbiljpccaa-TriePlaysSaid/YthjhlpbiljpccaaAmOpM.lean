/-
  Arrays; slices that are made or lengthened by zeros; clear.
-/
import Derived.Test.YthjhlpbiljpccaaAmOpK
namespace Go.AM
open Go.RowKit

theorem cond_some {α : Type} {b : Bool} {y : Option α} {z : α} (h : (bif b then y else none) = some z) : b = true ∧ y = some z := by
  cases b with
  | true => exact ⟨rfl, h⟩
  | false => cases h

section
variable {P : Program} {N : Nat → Prop} {B : Nat → Prop} {w : World} {φ : Phi} {m : Mem} {o : Oper} {a : Act} {Γ : Env} {s : Slots} {G : List (Nat × Bool)} {x : AV} {m' : Mem} {vc : Bool}

/-! ### Arrays -/
theorem fill_congr {p q : Nat → Option (Nat × Nat)} : ∀ (l : List (Nat × Value)) (cells c : Array Value), Instr.fill p cells l = some c → (∀ i y, p i = some y → q i = some y) → Instr.fill q cells l = some c
  | [], cells, c, h, _ => h
  | (i, v) :: r, cells, c, h, hpq => by
    unfold Instr.fill at h ⊢
    cases hp : p i with
    | none => rw [hp] at h; cases h
    | some y =>
      obtain ⟨off, sz⟩ := y
      rw [hp] at h
      rw [hpq i _ hp]
      simp only at h ⊢
      split at h
      · cases h
      · rename_i hc
        rw [if_neg hc]
        exact fill_congr r _ c h hpq
theorem arrFs_at {n sz : Nat} {e : TypeId} {i : Nat} {f : Field} (h : (arrFs n sz e)[i]? = some f) : f.type = e ∧ f.offset = i * sz := by
  simp only [arrFs, List.getElem?_toArray, List.getElem?_map, Option.map_eq_some_iff] at h
  obtain ⟨j, hj, rfl⟩ := h
  rw [List.getElem?_range (by have := (List.getElem?_eq_some_iff.1 hj).1; simpa using this)] at hj
  cases hj
  exact ⟨rfl, rfl⟩
theorem op_buildA {t e : TypeId} {n : Nat} {ps : Array (Nat × Operand)} (ho : o.op = .build t ps) (ht : P.underlying t = some (.array n e)) (hk : tyOk P e = true)
    {z : List AV} {aps : List (Nat × Nat × AOpd)} (hz : zeroA P t = some z) (hp : cParts P (arrFs n (P.cellsOf e) e) ps.toList = some aps) (hx : exOp Γ s G m (.build z aps) = some (x, m', vc))
    (hs : SlotsOk (Nof N φ) w φ s a) (hG : Holds a G) (hm : MRel N B w φ m) : OpOk P o a w (Post N B φ w m' x) := by
  obtain ⟨vs, hvs, h1⟩ := obind hx
  obtain ⟨cs, hcs, h2⟩ := obind h1
  obtain ⟨rfl, rfl, _⟩ := ok1_spec h2
  obtain ⟨v, hr, hv⟩ := zeroA_run hz
  have hv0 := hv (Nof N φ) w φ
  obtain ⟨cells, e1, e2, e3⟩ := fills_ok hs hG _ ps.toList aps vs z cs v.cells hp hvs hcs hv0.1 hv0.2
  refine quiet_ok hm (v := .agg cells) ?_ (by have := mkAgg_ok e2 e3; rwa [Array.toArray_toList] at this)
  have hmap : (ps.map fun p => (p.1, a.eval p.2)).toList = ps.toList.map fun p => (p.1, a.eval p.2) := by simp
  have e4 := fill_congr (q := fun i => some (i * P.cellsOf e, P.cellsOf e)) _ _ _ e1 fun i y hy => by
    obtain ⟨f, hf, rfl⟩ := Option.map_eq_some_iff.1 hy
    obtain ⟨h3, h4⟩ := arrFs_at hf
    rw [h3, h4]
  simp only [execOp, ho, Instr.build, Sem.run_bind, hr, Result.andThen_ok, run_underlying ht, Sem.run_pure, run_sizeOf hk]
  rw [hmap, e4]
  rfl
theorem indexA_run {t e : TypeId} {n : Nat} {k : IntKind} {v : Int} (ht : P.underlying t = some (.array n e)) (hk : tyOk P e = true) (h0 : 0 ≤ v) (h1 : v < (n : Int)) {A : Addr} (w : World) :
    (Instr.indexAt t (.pointer (some A)) (.int k v)).run P w = .ok (.pointer (some (A.add (v.toNat * P.cellsOf e)))) w := by
  have hc : 0 ≤ v ∧ v < (n : Int) := ⟨h0, h1⟩
  simp [Instr.indexAt, asIntOf, run_underlying ht, Instr.sureAddr, run_sizeOf hk, hc]
theorem op_ixarr {t e : TypeId} {n : Nat} {k : IntKind} {v : Int} {y : Operand} (ho : o.op = .indexAddr t y (.const (.int k v))) (ht : P.underlying t = some (.array n e)) (hk : tyOk P e = true) (h0 : 0 ≤ v) (h1 : v < (n : Int))
    {ay : AOpd} (hy : cOpd y = some ay) (hx : exOp Γ s G m (.fld (v.toNat * P.cellsOf e) ay) = some (x, m', vc))
    (hs : SlotsOk (Nof N φ) w φ s a) (hG : Holds a G) (hm : MRel N B w φ m) : OpOk P o a w (Post N B φ w m' x) := by
  obtain ⟨p, hp, h2⟩ := obind hx
  clear hx
  have hpr := opd_ok hs hG hy hp
  have hc : a.eval (.const (.int k v)) = .int k v := rfl
  generalize he : a.eval y = ey at hpr
  split at h2
  · rename_i cs off
    obtain ⟨rfl, rfl, _⟩ := ok1_spec h2
    cases hpr with
    | f hpr =>
    cases hpr with
    | @fpt _ _ A g hN hc2 ho' h =>
      refine quiet_ok hm (v := .pointer (some (A.add (off + v.toNat * P.cellsOf e)))) ?_ (.f (.fpt g hN hc2 ho' h))
      simp [execOp, ho, he, hc, indexA_run ht hk h0 h1, add_add]
  · obtain ⟨rfl, rfl, _⟩ := ok1_spec h2
    cases hpr with
    | ptr h =>
      refine quiet_ok hm ?_ (.ptr h)
      simp [execOp, ho, he, hc, indexA_run ht hk h0 h1, addr_add]
  · obtain ⟨rfl, rfl, _⟩ := ok1_spec h2
    cases hpr with
    | eptr h hi =>
      refine quiet_ok hm ?_ (.eptr h hi)
      simp [execOp, ho, he, hc, indexA_run ht hk h0 h1, addr_add, Nat.add_assoc]
  · obtain ⟨rfl, rfl, _⟩ := ok1_spec h2
    cases hpr with
    | nd h hi =>
      refine quiet_ok hm ?_ (.nd h hi)
      simp [execOp, ho, he, hc, indexA_run ht hk h0 h1, addr_add]
  · cases h2

/-- The address of a cell of a node's children, or of a row of pointers. -/
theorem op_ixn {t e : TypeId} {n : Nat} {y z : Operand} (ho : o.op = .indexAddr t y z) (ht : P.underlying t = some (.array n e)) (hk : tyOk P e = true) (hc1 : P.cellsOf e = 1)
    {ay az : AOpd} (hy : cOpd y = some ay) (hz : cOpd z = some az) (hx : exOp Γ s G m (.ixn n ay az) = some (x, m', vc)) (hvc : vc = true)
    (hs : SlotsOk (Nof N φ) w φ s a) (hG : Holds a G) (hm : MRel N B w φ m) : OpOk P o a w (Post N B φ w m' x) := by
  obtain ⟨p, hp, h1⟩ := obind hx
  obtain ⟨q, hq, h2⟩ := obind h1
  clear hx h1
  have hpr := opd_ok hs hG hy hp
  have hqr := opd_ok hs hG hz hq
  generalize he : a.eval y = ey at hpr
  generalize he2 : a.eval z = ez at hqr
  split at h2
  · rename_i j v
    cases hqr with
    | f hqr =>
    cases hqr with
    | int hr =>
    split at h2
    · rename_i k i
      obtain ⟨hn, h3⟩ := cond_some h2
      simp only [Option.some.injEq, Prod.mk.injEq] at h3
      obtain ⟨rfl, rfl, h3⟩ := h3
      rw [hvc] at h3
      simp only [Bool.and_eq_true, decide_eq_true_eq] at h3
      obtain rfl : n = 2 := by simpa using hn
      cases hpr with
      | nd h hi =>
        refine quiet_ok hm ?_ (.ndx h hi h3.1 h3.2)
        simp [execOp, ho, he, he2, indexA_run (n := 2) ht hk h3.1 h3.2, hc1, addr_add]
    · rename_i k
      cases hpr with
      | @ptr _ _ b tot cnt hφ =>
      split at h2
      · rename_i pn l sz hk2
        obtain ⟨hn, h3⟩ := cond_some h2
        simp only [Option.some.injEq, Prod.mk.injEq] at h3
        obtain ⟨rfl, rfl, h3⟩ := h3
        rw [hvc] at h3
        simp only [Bool.and_eq_true, decide_eq_true_eq] at h3
        obtain rfl : n = 2 := by simpa using hn
        refine quiet_ok hm ?_ (.ndx hφ (i := 0) rfl h3.1 h3.2)
        simp [execOp, ho, he, he2, indexA_run (n := 2) ht hk h3.1 h3.2, hc1, addr_add]
      · rename_i k2 l hk2
        simp only [Option.some.injEq, Prod.mk.injEq] at h2
        obtain ⟨rfl, rfl, h3⟩ := h2
        rw [hvc] at h3
        simp only [Bool.and_eq_true, decide_eq_true_eq] at h3
        obtain ⟨⟨h4, h5⟩, h6⟩ := h3
        have hn := (nrow_at hm hk2 hφ).1
        refine quiet_ok hm ?_ (.bx hφ h4 (by omega))
        simp [execOp, ho, he, he2, indexA_run ht hk h4 h5, hc1, addr_add]
      · cases h2
    · cases h2
  · cases h2

/-- An element of one of the program's tables. -/
theorem op_gix {t e : TypeId} {n g : Nat} {k : IntKind} {l : List Int} {y : Operand} (ho : o.op = .indexAddr t (.global g) y) (ht : P.underlying t = some (.array n e)) (hk : tyOk P e = true) (hc1 : P.cellsOf e = 1) (hl : l.length = n)
    (hgl : globOf globs g = some (k, l)) {ay : AOpd} (hy : cOpd y = some ay) (hx : exOp Γ s G m (.gix g ay) = some (x, m', vc)) (hvc : vc = true)
    (hs : SlotsOk (Nof N φ) w φ s a) (hG : Holds a G) (hm : MRel N B w φ m) : OpOk P o a w (Post N B φ w m' x) := by
  obtain ⟨p, hp, h2⟩ := obind hx
  clear hx
  have hpr := opd_ok hs hG hy hp
  have hc : a.eval (.global g) = .pointer (some ⟨g, 0, none⟩) := rfl
  generalize he : a.eval y = ey at hpr
  split at h2
  · rename_i j v
    rw [hgl] at h2
    simp only [Option.map_some, Option.some.injEq, Prod.mk.injEq] at h2
    obtain ⟨rfl, rfl, h3⟩ := h2
    rw [hvc] at h3
    simp only [Bool.and_eq_true, decide_eq_true_eq] at h3
    obtain ⟨h0, h1⟩ := h3
    have hlt : v.toNat < l.length := by omega
    obtain ⟨g1, g2, g3⟩ := hm.gl g k l hgl v.toNat l[v.toNat] (List.getElem?_eq_getElem hlt)
    have hgd : l.getD v.toNat 0 = l[v.toNat] := by simp [List.getD, hlt]
    cases hpr with
    | f hpr =>
    cases hpr with
    | int hr =>
      refine quiet_ok hm (v := .pointer (some ((⟨g, v.toNat, none⟩ : Addr).add 0))) ?_ (.f (.fpt (fun _ => .int k l[v.toNat]) (fun _ => g1) (fun j c hj => ?_) (fun j c hj => rfl) (fun j c hj => ?_)))
      · rw [hl] at h1
        simp [execOp, ho, he, hc, indexA_run ht hk h0 h1, hc1, addr_add]
      · cases j with
        | zero => exact g2
        | succ j => simp at hj
      · cases j with
        | zero =>
          simp only [List.getElem?_cons_zero, Option.some.injEq] at hj
          subst hj
          rw [hgd]
          exact .int g3
        | succ j => simp at hj
  · cases h2

/-! ### Rows of zeros -/
theorem zOk_srel {N : Nat → Prop} {w : World} : ∀ (T : Sch) (z : List AV) (vs : List Value), zOk T z = true → LRel N w φ z vs → Ones vs → z.length = T.size ∧ SRel N w T T.dflt (fun j => vs[j]?)
  | .nil, [], vs, _, _, _ => ⟨rfl, trivial⟩
  | .nil, _ :: _, vs, h, _, _ => by simp [zOk] at h
  | .cons c s, [], vs, h, _, _ => by cases c <;> simp [zOk] at h
  | .cons c s, x :: r, [], _, hl, _ => by have := hl.1; simp at this
  | .cons c s, x :: r, v :: vs, h, hl, ho => by
    have hl' : LRel N w φ r vs := ⟨by have := hl.1; simpa using this, fun j c v hj hv => hl.2 (j + 1) c v (by simpa using hj) (by simpa using hv)⟩
    have ho' : Ones vs := fun u hu => ho u (List.mem_cons_of_mem _ hu)
    have h0 := hl.2 0 x v rfl rfl
    have hov := ho v (List.mem_cons_self ..)
    have fin : zOk s r = true → CRel N w c c.dflt v → (x :: r).length = (Sch.cons c s).size ∧ SRel N w (.cons c s) (Sch.cons c s).dflt (fun j => (v :: vs)[j]?) := fun hz hc => by
      obtain ⟨h1, h2⟩ := zOk_srel s r vs hz hl' ho'
      exact ⟨by simp [Sch.size, h1], ⟨v, rfl, hov, hc⟩, h2⟩
    cases c with
    | bool =>
      cases x with
      | f y => cases y with
        | bool b =>
          simp only [zOk, Bool.and_eq_true, Bool.not_eq_true'] at h
          obtain ⟨rfl, h⟩ := h
          cases h0 with | f h0 => cases h0 with | bool => exact fin h rfl
        | _ => simp [zOk] at h
      | _ => simp [zOk] at h
    | int k =>
      cases x with
      | f y => cases y with
        | int j n =>
          simp only [zOk, Bool.and_eq_true, decide_eq_true_eq] at h
          obtain ⟨⟨rfl, rfl⟩, h⟩ := h
          cases h0 with | f h0 => cases h0 with | int hi => exact fin h ⟨rfl, hi⟩
        | _ => simp [zOk] at h
      | _ => simp [zOk] at h
    | str =>
      cases x with
      | f y => cases y with
        | str l =>
          simp only [zOk, Bool.and_eq_true, List.isEmpty_iff] at h
          obtain ⟨rfl, h⟩ := h
          cases h0 with | f h0 => cases h0 with | str hi => exact fin h ⟨rfl, hi⟩
        | _ => simp [zOk] at h
      | _ => simp [zOk] at h
    | fn f => cases x <;> simp [zOk] at h
    | mp => cases x <;> simp [zOk] at h
    | sl T =>
      cases x with
      | f y => cases y with
        | nils =>
          simp only [zOk] at h
          cases h0 with | f h0 => cases h0 with | @nils A => exact fin h ⟨A, 0, rfl, Nat.zero_le _, Nat.zero_le _, fun h => absurd h (Nat.lt_irrefl 0)⟩
        | _ => simp [zOk] at h
      | _ => simp [zOk] at h

/-- A row of so many zeros. -/
theorem zrow {T : Sch} {e : TypeId} (hz : zOkT P T e = true) (hT : T.size = P.cellsOf e) (hpos : 0 < P.cellsOf e) : ∃ v : Value, (∀ w : World, (zeroValue e).run P w = .ok v w) ∧ v.cells.size = T.size ∧
    ∀ (N : Nat → Prop) (w : World) (φ : Phi) (n : Nat) (cells : Array Value) (b : Nat), n ≤ roomy → n * T.size ≤ cells.size → (∀ p, p < n * T.size → cells[p]? = v.cells[p % T.size]?) → OCont N w φ b [] (.row T (List.replicate n T.dflt)) cells := by
  unfold zOkT at hz
  split at hz
  · rename_i z hzz
    obtain ⟨v, hr, hv⟩ := zeroA_run hzz
    have hsz : v.cells.size = T.size := by
      have h1 := (hv (fun _ => True) (φ := []) default).1
      have h2 := (zOk_srel T z _ hz h1 (hv (fun _ => True) (φ := []) default).2).1
      have := h1.1
      simp at this; omega
    refine ⟨v, hr, hsz, fun N w φ n cells b hn hsize hc => ⟨by simpa using hsize, by unfold roomy at hn; unfold maxLen; simp; omega, fun i x hi => ?_⟩⟩
    have hin : i < n := by have := (List.getElem?_eq_some_iff.1 hi).1; simpa using this
    rw [List.getElem?_replicate, if_pos hin] at hi
    cases hi
    refine SRel.mono (Keeps.refl _ w) T _ _ _ (fun j u hj hu => ?_) (zOk_srel T z _ hz (hv N w φ).1 (hv N w φ).2).2
    have hml := mul_lt_len (sz := T.size) hin
    have hmod : (i * T.size + j) % T.size = j := by rw [Nat.add_comm, Nat.add_mul_mod_self_right, Nat.mod_eq_of_lt (by omega)]
    rw [hc _ (by omega), hmod]
    simpa using hu
  · cases hz

theorem zero_cells {zv : Value} {n sz p : Nat} (h : zv.cells.size = sz) (hs : 0 < sz) (hp : p < n * sz) : (Builtin.zeroCells zv.cells n)[p]? = zv.cells[p % sz]? := by
  subst h
  rw [zeroCells_get hs hp, Array.getElem?_eq_getElem (Nat.mod_lt _ hs)]

theorem wrap_small {n : Int} (h0 : 0 ≤ n) (h1 : n ≤ (roomy : Int)) : IntKind.i64.wrap n = n := by
  have h2 : n ≤ 1048576 := h1
  have h3 : n % 18446744073709551616 = n := Int.emod_eq_of_lt h0 (by omega)
  show (let m := n % 18446744073709551616; if (true && decide (m ≥ 9223372036854775808)) = true then m - 18446744073709551616 else m) = n
  simp only [h3]
  rw [if_neg]
  simp
  omega

theorem op_capn {c : Call} {y : Operand} {t : TypeId} (hoc : o.op = .call c) (hcc : c.callee = .builtin .cap) (hca : c.args.toList = [y]) (hct : c.argTypes.toList = [t]) {e : TypeId} (ht : P.underlying t = some (.slice e))
    {ay : AOpd} (hy : cOpd y = some ay) (hx : exOp Γ s G m (.capn ay) = some (x, m', vc))
    (hs : SlotsOk (Nof N φ) w φ s a) (hG : Holds a G) (hm : MRel N B w φ m) : OpOk P o a w (Post N B φ w m' x) := by
  obtain ⟨p, hp, h2⟩ := obind hx
  have hpr := opd_ok hs hG hy hp
  obtain ⟨callee, args, argTypes⟩ := c
  simp only at hcc hca hct
  subst hcc
  obtain rfl : args = #[y] := by cases args; simp_all
  obtain rfl : argTypes = #[t] := by cases argTypes; simp_all
  generalize he : a.eval y = ey at hpr
  split at h2
  · obtain ⟨rfl, rfl, _⟩ := ok1_spec h2
    cases hpr with
    | f hpr => cases hpr with
      | nils =>
        refine quiet_ok hm (v := .int .i64 0) ?_ (.f (.int (by constructor <;> decide)))
        simp [execOp, hoc, resolve, invoke, builtin, Builtin.cap_, goInt, he, run_underlying ht]
  · cases h2

theorem mul_cast {x y : Nat} (h : x * y ≤ 4096 * 1048576) : (x : Int) * (y : Int) ≤ 4294967296 := by
  have := Int.ofNat_le.2 h
  rw [Int.natCast_mul] at this
  exact this
theorem mkSl_rel {M : Nat → Prop} {w : World} {φ : Phi} {T : Sch} {k n : Nat} {v : Value} (h : VRel M w φ (.sl k T.size 0 n) v) (hx : T.size = 1 → 0 < n → ∃ b cnt, φ[k]? = some (some (b, n, cnt))) : VRel M w φ (mkSl T k n) v := by
  unfold mkSl
  split
  · exact .slx h (hx rfl)
  · exact h
theorem op_mks {t e : TypeId} {l : Tmp} (ho : o.op = .makeSlice t (.tmp l) (.tmp l)) (ht : P.underlying t = some (.slice e)) (hk : tyOk P e = true) {T : Sch} (hz : zOkT P T e = true) (hT : T.size = P.cellsOf e) (hpos : 0 < P.cellsOf e) (hbm : P.bytesOf e ≤ 4096)
    (hx : exOp Γ s G m (.mks T (.t l)) = some (x, m', vc)) (hvc : vc = true)
    (hs : SlotsOk (Nof N φ) w φ s a) (hG : Holds a G) (hm : MRel N B w φ m) (hB : ∀ b, B b → b < w.heap.size) : OpOk P o a w (Post N B φ w m' x) := by
  obtain ⟨p, hp, h2⟩ := obind hx
  have hpr : VRel (Nof N φ) w φ p (a.eval (.tmp l)) := opd_ok hs hG (x := .tmp l) rfl hp
  obtain ⟨zv, hzr, hzs, hrow⟩ := zrow hz hT hpos
  obtain ⟨i, d, hi, hd⟩ := tyOk_spec hk
  have hib : i.bytes = P.bytesOf e := by simp [Program.bytesOf, hi]
  have hisz : i.size = P.cellsOf e := by simp [Program.cellsOf, hi]
  generalize he : a.eval (.tmp l) = ey at hpr
  split at h2
  · rename_i n
    simp only [Option.some.injEq, Prod.mk.injEq] at h2
    obtain ⟨rfl, rfl, rfl⟩ := h2
    simp only [Bool.and_eq_true, decide_eq_true_eq] at hvc
    obtain ⟨h0, h1⟩ := hvc
    cases hpr with
    | f hpr => cases hpr with
      | int hin =>
      obtain ⟨k, rfl⟩ : ∃ k : Nat, n = (k : Int) := ⟨n.toNat, by omega⟩
      have hk1 : k ≤ roomy := by omega
      have hw : IntKind.i64.wrap (k : Int) = (k : Int) := wrap_small h0 h1
      have hr : roomy = 1048576 := rfl
      have hb2 : (i.bytes : Int) * (k : Int) ≤ 4294967296 := mul_cast (Nat.mul_le_mul (show i.bytes ≤ 4096 by omega) (show k ≤ 1048576 by omega))
      have hmx : k ≤ maxLen := by unfold maxLen; omega
      have hbig : ¬ ((i.bytes : Int) * (k : Int) > 2 ^ 48) := by omega
      have hcell : ∀ q : Nat, q < k * T.size → ((Array.range (k * T.size)).map (zv.cells[· % zv.cells.size]!))[q]? = zv.cells[q % T.size]? := fun q hq => by
        have hmod := Nat.mod_lt q (show 0 < T.size by omega)
        simp [hq, hzs, getElem!_pos zv.cells (q % T.size) (by omega), Array.getElem?_eq_getElem (show q % T.size < zv.cells.size by omega)]
      refine alloc_ok (e := e) hm hB (hrow _ w φ k ((Array.range (k * T.size)).map (zv.cells[· % zv.cells.size]!)) w.heap.size hk1 (by simp) hcell) (v := .slice (some ⟨w.heap.size, 0, none⟩) k k) ?_
        (mkSl_rel (.sl (Nat.le_refl _) (by rw [Int.toNat_natCast]; exact hmx) fun _ => ⟨_, _, _, phi_new hm _, by simp, by simp, by simp [cntO]⟩) fun hT1 _ => ⟨w.heap.size, cN (cntO (MObj.row T (List.replicate k T.dflt))), by rw [phi_new hm]; simp [hT1]⟩)
      have hti : ∀ w : World, (typeInfo e).run P w = .ok i w := fun w => by simp [typeInfo, hi]
      have hn0 : ¬ ((k : Int) < 0) := by omega
      rcases Nat.eq_zero_or_pos k with rfl | hkp
      · have hsz : (sizeOf e).run P w = .ok (P.cellsOf e) w := run_sizeOf hk w
        have hw0 : IntKind.i64.wrap 0 = 0 := by simpa using hw
        simp [execOp, ho, he, Instr.makeSlice, run_underlying ht, asInt, asIntOf, hti, hw0, hsz, newRow]
        have e0 : ∀ f : Nat → Value, Array.map f (Array.range 0) = #[] := fun f => by apply Array.ext'; simp
        rw [e0, e0]
      · have hne : ¬ k * P.cellsOf e = 0 := by
          have := Nat.mul_pos hkp hpos; omega
        have hbig' : ¬ (281474976710656 < (i.bytes : Int) * (k : Int)) := by omega
        simp [execOp, ho, he, Instr.makeSlice, run_underlying ht, asInt, asIntOf, hti, hw, run_sizeOf hk, newRow, hbig', hne, hzr, hT]
        omega
  · cases h2

theorem op_appz {t u e : TypeId} {c : Call} {y z : Operand} (hoc : o.op = .call c) (hcc : c.callee = .builtin .append) (hca : c.args.toList = [y, z]) (hct : c.argTypes.toList = [t, u])
    (ht : P.underlying t = some (.slice e)) (hu : P.underlying u = some (.int .i64)) (hk : tyOk P e = true) {T : Sch} (hz : zOkT P T e = true) (hT : T.size = P.cellsOf e) (hpos : 0 < P.cellsOf e) (hbp : 0 < P.bytesOf e) (hbm : P.bytesOf e ≤ 4096)
    {ay az : AOpd} (hy : cOpd y = some ay) (hzz : cOpd z = some az) (hx : exOp Γ s G m (.appz T ay az) = some (x, m', vc)) (hvc : vc = true)
    (hs : SlotsOk (Nof N φ) w φ s a) (hG : Holds a G) (hm : MRel N B w φ m) (hB : ∀ b, B b → b < w.heap.size) : OpOk P o a w (Post N B φ w m' x) := by
  obtain ⟨p, hp, h1⟩ := obind hx
  obtain ⟨q, hq, h2⟩ := obind h1
  have hpr := opd_ok hs hG hy hp
  have hqr := opd_ok hs hG hzz hq
  obtain ⟨zv, hzr, hzs, hrow⟩ := zrow hz hT hpos
  obtain ⟨i, d, hi, hd⟩ := tyOk_spec hk
  have hib : i.bytes = P.bytesOf e := by simp [Program.bytesOf, hi]
  have hisz : i.size = P.cellsOf e := by simp [Program.cellsOf, hi]
  have hti : ∀ w : World, (typeInfo e).run P w = .ok i w := fun w => by simp [typeInfo, hi]
  have hsz : ∀ w : World, (sizeOf e).run P w = .ok T.size w := fun w => by simp [sizeOf, typeInfo, hi]; omega
  obtain ⟨callee, args, argTypes⟩ := c
  simp only at hcc hca hct
  subst hcc
  obtain rfl : args = #[y, z] := by cases args; simp_all
  obtain rfl : argTypes = #[t, u] := by cases argTypes; simp_all
  generalize he : a.eval y = ey at hpr
  generalize hf : a.eval z = ez at hqr
  have hr : roomy = 1048576 := rfl
  split at h2
  · rename_i n
    simp only [Option.some.injEq, Prod.mk.injEq] at h2
    obtain ⟨rfl, rfl, rfl⟩ := h2
    simp only [Bool.and_eq_true, decide_eq_true_eq] at hvc
    obtain ⟨h0, h1⟩ := hvc
    cases hpr with
    | f hpr => cases hpr with
      | @nils A =>
    cases hqr with
    | f hqr => cases hqr with
      | int hin =>
      obtain ⟨k, rfl⟩ : ∃ k : Nat, n = (k : Int) := ⟨n.toNat, by omega⟩
      have hk1 : k ≤ roomy := by omega
      have hw : IntKind.i64.wrap (k : Int) = (k : Int) := wrap_small h0 h1
      have hn0 : ¬ ((k : Int) < 0) := by omega
      have hb2 : i.bytes * k ≤ 4096 * 1048576 := Nat.mul_le_mul (by omega) (by omega)
      have hb3 : ¬ (281474976710656 < (k : Int) * (i.bytes : Int)) := by
        have : (k : Int) * (i.bytes : Int) ≤ 4294967296 := by rw [Int.mul_comm]; exact mul_cast hb2
        omega
      have hmx : k ≤ maxLen := by unfold maxLen; omega
      rcases Nat.eq_zero_or_pos k with rfl | hkp
      · have hw0 : IntKind.i64.wrap 0 = 0 := by simpa using hw
        have run : (execOp a.eval o).run P w = .ok (.value (.slice A 0 0)) w := by
          cases A with
          | none => simp [execOp, hoc, resolve, invoke, builtin, he, hf, Builtin.append_, run_underlying ht, run_underlying hu, hsz, asInt, asIntOf, hw0, hti]
          | some A => simp [execOp, hoc, resolve, invoke, builtin, he, hf, Builtin.append_, run_underlying ht, run_underlying hu, hsz, asInt, asIntOf, hw0, hti, storeCells]
        unfold OpOk
        rw [run]
        have hph := mrel_phantom hm (.row T [])
        exact ⟨_, hph.1, hph.2, .sl (Nat.le_refl 0) (Nat.zero_le _) fun h => absurd h (Nat.lt_irrefl 0)⟩
      · have hnc : ¬ 281474976710656 < Builtin.nextslicecap k 0 * i.bytes := by
          have h1 := nextcap_le (need := k) (cap := 0) hkp
          have h2 := Nat.mul_le_mul h1 (show i.bytes ≤ 4096 by omega)
          omega
        have hne : ¬ k * T.size = 0 := by
          have := Nat.mul_pos hkp (show 0 < T.size by omega); omega
        have hff : (Question.appendCap k 0 e).forced = false := rfl
        have h63 : ¬ ((9223372036854775807 : Int) < (k : Int)) := by omega
        have hle : ¬ k = 0 := by omega
        generalize hcap : (Question.appendCap k 0 e).cut (w.tape w.drawn (Question.appendCap k 0 e)) = newCap
        have hge : k ≤ newCap := by rw [← hcap]; exact Nat.le_add_right _ _
        have hzl : ∀ j, (Builtin.zeroCells zv.cells j).size = j * T.size := fun j => by simp [Builtin.zeroCells, hzs]
        have hcell : ∀ q : Nat, q < k * T.size → (Builtin.zeroCells zv.cells k ++ Builtin.zeroCells zv.cells (newCap - k))[q]? = zv.cells[q % T.size]? := fun q hq => by
          rw [Array.getElem?_append_left (by rw [hzl]; exact hq), zero_cells hzs (by omega) hq]
        have htot : (Builtin.zeroCells zv.cells k ++ Builtin.zeroCells zv.cells (newCap - k)).size = newCap * T.size := by
          rw [Array.size_append, hzl, hzl, ← Nat.add_mul]; congr 1; omega
        have hroom : k * T.size ≤ newCap * T.size := Nat.mul_le_mul_right _ hge
        have hk := mrel_keep hm ((Below.refl _ _).drew (w := w))
        have hal := mrel_alloc (e := e) hk.2 (w := w.drew) hB (hrow _ w.drew φ k (Builtin.zeroCells zv.cells k ++ Builtin.zeroCells zv.cells (newCap - k)) w.heap.size hk1 (by rw [htot]; exact hroom) hcell)
        have run : (execOp a.eval o).run P w = .ok (.value (.slice (some ⟨w.heap.size, 0, none⟩) k newCap)) (w.drew.alloc (.cells (Builtin.zeroCells zv.cells k ++ Builtin.zeroCells zv.cells (newCap - k)) e)) := by
          have hcap' : (w.drew.tape w.drawn (Question.appendCap k 0 e)) = (w.tape w.drawn (Question.appendCap k 0 e)) := rfl
          cases A with
          | none => simp [execOp, hoc, resolve, invoke, builtin, he, hf, Builtin.append_, Builtin.firstCells, run_underlying ht, run_underlying hu, hsz, asInt, asIntOf, hw, hti, hzr, hn0, hnc, hne, hff, h63, hle, hb3, hcap, newRow]
          | some A => simp [execOp, hoc, resolve, invoke, builtin, he, hf, Builtin.append_, Builtin.firstCells, run_underlying ht, run_underlying hu, hsz, asInt, asIntOf, hw, hti, hzr, hn0, hnc, hne, hff, h63, hle, hb3, hcap, newRow, loadCells, loadCellsFrom]
        unfold OpOk
        rw [run]
        refine ⟨_, hk.1.trans hal.1, hal.2, .sl (by simpa using hge) (by rw [Int.toNat_natCast]; exact hmx) fun _ => ⟨_, _, _, phi_new hm _, by simp, by rw [htot]; simp, by simp [cntO]⟩⟩
  · cases h2

theorem set_same {m : Mem} {k : Nat} {o : MObj} (h : m[k]? = some o) : m.set k o = m := by
  obtain ⟨hk, rfl⟩ := List.getElem?_eq_some_iff.1 h
  exact List.set_getElem_self hk
theorem op_clr {c : Call} {y : Operand} {t e : TypeId} (hoc : o.op = .call c) (hcc : c.callee = .builtin .clear) (hca : c.args.toList = [y]) (hct : c.argTypes.toList = [t]) (ht : P.underlying t = some (.slice e)) {T : Sch} (hz : zOkT P T e = true) (hT : T.size = P.cellsOf e) (hpos : 0 < P.cellsOf e)
    {ay : AOpd} (hy : cOpd y = some ay) (hx : exOp Γ s G m (.clr T ay) = some (x, m', vc))
    (hs : SlotsOk (Nof N φ) w φ s a) (hG : Holds a G) (hm : MRel N B w φ m) : OpOk P o a w (Post N B φ w m' x) := by
  obtain ⟨p, hp, h2⟩ := obind hx
  have hpr := opd_ok hs hG hy hp
  obtain ⟨callee, args, argTypes⟩ := c
  simp only at hcc hca hct
  subst hcc
  obtain rfl : args = #[y] := by cases args; simp_all
  obtain rfl : argTypes = #[t] := by cases argTypes; simp_all
  obtain ⟨zv, hzr, hzs, hrow⟩ := zrow hz hT hpos
  generalize he : a.eval y = ey at hpr
  have empty : ∀ {A : Option Addr} {c : Nat}, ey = .slice A 0 c → (execOp a.eval o).run P w = .ok (.value (.tuple #[])) w := fun {A c} e0 => by
    subst e0
    cases A <;> simp [execOp, hoc, resolve, invoke, builtin, Builtin.clear_, he, run_underlying ht]
  split at h2
  · obtain ⟨rfl, rfl, _⟩ := ok1_spec h2
    cases hpr with
    | f hpr => cases hpr with
      | nils => exact quiet_ok hm (empty rfl) .junk
  · rename_i k z off len
    split at h2
    · rename_i U l hkk
      obtain ⟨hh, _, h3⟩ := obind h2
      obtain ⟨rfl⟩ := hh
      obtain ⟨hz', h4⟩ := cond_some h3
      obtain ⟨rfl, rfl, _⟩ := ok1_spec h4
      have hz'' : U.size = z := by simpa using hz'
      subst hz''
      have hsl := hpr
      rcases sl_at hm hpr hkk rfl with ⟨rfl, A, c, rfl⟩ | ⟨b, c, cells, eb, rfl, hb, ⟨_, hcont⟩, hcnt, hcap, hlc⟩
      · have e1 : l.take off ++ List.replicate 0 U.dflt ++ l.drop (off + 0) = l := by simp
        rw [e1, set_same hkk]
        exact quiet_ok hm (empty rfl) .junk
      · rcases Nat.eq_zero_or_pos len with rfl | hlen
        · have e1 : l.take off ++ List.replicate 0 U.dflt ++ l.drop (off + 0) = l := by simp
          rw [e1, set_same hkk]
          exact quiet_ok hm (empty rfl) .junk
        · cases hsl with
          | sl g1 g2 g3 =>
          obtain ⟨b', tot, cnt, q1, q2, q3, q4⟩ := g3 (by omega)
          simp only [Option.some.injEq, Addr.mk.injEq] at q2
          obtain ⟨rfl, _⟩ := q2
          simp only [cntO] at hcnt
          have hzl : (Builtin.zeroCells zv.cells len).size = len * U.size := by simp [Builtin.zeroCells, hzs]
          have hones : Ones (Builtin.zeroCells zv.cells len).toList := fun v hv => by
            obtain ⟨j, hj⟩ := List.mem_iff_getElem?.1 hv
            have hjl := (List.getElem?_eq_some_iff.1 hj).1
            simp only [Array.length_toList, hzl] at hjl
            rw [Array.getElem?_toList, zero_cells hzs (by omega) hjl] at hj
            unfold zOkT at hz
            split at hz
            · rename_i zz hzz
              obtain ⟨v2, hr2, hv2⟩ := zeroA_run hzz
              have : v2 = zv := by
                have h5 := hr2 w; rw [hzr w] at h5; injection h5 with h5; exact h5.symm
              subst this
              exact (hv2 (fun _ => True) w []).2 v (List.mem_of_getElem? (by rw [Array.getElem?_toList]; exact hj))
            · cases hz
          have hroom : off * U.size + len * U.size ≤ cells.size := by
            have := hcont.1
            have h6 := Nat.mul_le_mul_right U.size hcnt
            rw [Nat.add_mul] at h6; omega
          obtain ⟨w', cells', hst, hw⟩ := store_cells (P := P) (off := off * U.size) (Builtin.zeroCells zv.cells len).toList 0 w cells hones hb (by simp [hzl]; exact hroom)
          have run : (execOp a.eval o).run P w = .ok (.value (.tuple #[])) w' := by
            obtain ⟨n, rfl⟩ : ∃ n, len = n + 1 := ⟨len - 1, by omega⟩
            simp [execOp, hoc, resolve, invoke, builtin, Builtin.clear_, he, run_underlying ht, hzr, hst]
          obtain ⟨_, hcc, _, _, hcont2, hn2⟩ := hm.cells k _ _ _ _ q1 hkk rfl
          have hnew : OCont (Nof N φ) w φ b cnt.ex (.row U (l.take off ++ List.replicate len U.dflt ++ l.drop (off + len))) cells' := by
            have hll : (l.take off ++ List.replicate len U.dflt ++ l.drop (off + len)).length = l.length := by simp; omega
            have hcell : ∀ q : Nat, cells'[q]? = if off * U.size ≤ q ∧ q < off * U.size + len * U.size then zv.cells[(q - off * U.size) % U.size]? else cells[q]? := fun q => by
              rw [hw.cell q]
              simp only [Array.length_toList, hzl, Nat.add_zero]
              split
              · rename_i hq
                rw [Array.getElem?_toList, zero_cells hzs (by omega) (by omega)]
              · rfl
            refine ⟨by rw [hll, hw.csize]; exact hcont.1, by rw [hll]; exact hcont.2.1, fun i x hi => ?_⟩
            have hil : i < l.length := by have := (List.getElem?_eq_some_iff.1 hi).1; omega
            by_cases h7 : i < off
            · rw [List.append_assoc, List.getElem?_append_left (by simp; omega), List.getElem?_take, if_pos h7] at hi
              refine SRel.mono (Keeps.refl _ w) U x _ _ (fun j u hj hu => ?_) (hcont.2.2 i x hi)
              have h8 := mul_lt_len (sz := U.size) h7
              rw [hcell, if_neg (by omega)]; exact hu
            · by_cases h9 : i < off + len
              · rw [List.getElem?_append_left (by simp; omega), List.getElem?_append_right (by simp; omega), List.getElem?_replicate, if_pos (by simp; omega)] at hi
                cases hi
                have hr2 := hrow (Nof N φ) w φ 1 ((Array.range (1 * U.size)).map fun q => zv.cells[q % U.size]!) 0 (by unfold roomy; omega) (by simp) (fun q hq => by
                  have hmod := Nat.mod_lt q (show 0 < U.size by omega)
                  simp only [Nat.one_mul] at hq
                  simp [hq, getElem!_pos zv.cells (q % U.size) (by omega), Array.getElem?_eq_getElem (show q % U.size < zv.cells.size by omega)])
                refine SRel.mono (Keeps.refl _ w) U _ _ _ (fun j u hj hu => ?_) (hr2.2.2 0 U.dflt (by simp))
                have h8 := mul_lt_len (sz := U.size) h9
                have h10 := Nat.mul_le_mul_right U.size (show off ≤ i by omega)
                rw [Nat.add_mul] at h8
                rw [hcell, if_pos (by omega)]
                have h11 : (i * U.size + j - off * U.size) % U.size = j % U.size := by
                  rw [show i * U.size + j - off * U.size = j + (i - off) * U.size by rw [Nat.sub_mul]; omega, Nat.add_mul_mod_self_right]
                rw [h11]
                have hmod := Nat.mod_lt j (show 0 < U.size by omega)
                simp only [Nat.zero_mul, Nat.zero_add, Nat.one_mul] at hu
                simp [hj, getElem!_pos zv.cells (j % U.size) (by omega)] at hu
                rw [Array.getElem?_eq_getElem (show j % U.size < zv.cells.size by omega), hu]
              · rw [List.getElem?_append_right (by simp; omega), List.getElem?_drop] at hi
                have h12 : off + len + (i - (l.take off ++ List.replicate len U.dflt).length) = i := by simp; omega
                rw [h12] at hi
                refine SRel.mono (Keeps.refl _ w) U x _ _ (fun j u hj hu => ?_) (hcont.2.2 i x hi)
                have h8 := Nat.mul_le_mul_right U.size (show off + len ≤ i by omega)
                rw [Nat.add_mul] at h8
                rw [hcell, if_neg (by omega)]; exact hu
          have := mrel_store hm hkk rfl q1 hw hb rfl (by simp [cntO]; omega) hnew
          unfold OpOk
          rw [run]
          exact ⟨φ, this.1, this.2, .junk⟩
    · cases h2
  · cases h2
end
end Go.AM
