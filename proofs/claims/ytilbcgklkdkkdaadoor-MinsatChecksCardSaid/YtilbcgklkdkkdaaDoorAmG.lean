/-
  What each function gives, in plain Lean; the entries.
-/
import Derived.Test.YtilbcgklkdkkdaaDoorAmT
namespace Go.Proofs.YtilbcgklkdkkdaaDoor
open Go Go.AM
set_option maxRecDepth 100000
def g_minsat_Check_1 (x0 : Int) (c1 : Ti64T) : Bool := ((decide (x0 < 0)) || (decide (x0 ≥ c1.1)))
def e_minsat_Check_1 : Ent := ⟨31, [.one (.int .i64), .ptr Ti64S], [.one .bool], fun _ => true, fun x => (g_minsat_Check_1 x.1 x.2.1, ())⟩
def S_slices_IndexFunc_int_minsat_Check_1_0 (s : List Ti64T) (f_0 : Int) : Int := upV (fun c0 next0 => cond (g_minsat_Check_1 (List.getD s c0 Ti64D).1 (f_0, ())) (c0 : Int) next0) ((-1)) (s.length - 0) 0
def g_slices_IndexFunc_int_minsat_Check_1 (s : List Ti64T) (f_0 : Int) : Int := (S_slices_IndexFunc_int_minsat_Check_1_0 s f_0)
def e_slices_IndexFunc_int_minsat_Check_1 : Ent := ⟨38, [.one (.sl Ti64S), .clo 31 [Ti64S]], [.one (.int .i64)], fun _ => true, fun x => (g_slices_IndexFunc_int_minsat_Check_1 x.1 x.2.1.1.1, ())⟩
def g_minsat_Core_1 (x0 : Int) (c1 : Ti64T) : Bool := (x0 == c1.1)
def e_minsat_Core_1 : Ent := ⟨28, [.one (.int .i64), .ptr Ti64S], [.one .bool], fun _ => true, fun x => (g_minsat_Core_1 x.1 x.2.1, ())⟩
def S_slices_IndexFunc_int_minsat_Core_1_0 (s : List Ti64T) (f_0 : Int) : Int := upV (fun c0 next0 => cond (g_minsat_Core_1 (List.getD s c0 Ti64D).1 (f_0, ())) (c0 : Int) next0) ((-1)) (s.length - 0) 0
def g_slices_IndexFunc_int_minsat_Core_1 (s : List Ti64T) (f_0 : Int) : Int := (S_slices_IndexFunc_int_minsat_Core_1_0 s f_0)
def e_slices_IndexFunc_int_minsat_Core_1 : Ent := ⟨38, [.one (.sl Ti64S), .clo 28 [Ti64S]], [.one (.int .i64)], fun _ => true, fun x => (g_slices_IndexFunc_int_minsat_Core_1 x.1 x.2.1.1.1, ())⟩
def g_minsat_Satisfies_1 (x0 : Int) (c1 : TMT) : Bool := (List.any c1.1 fun y => y == x0)
def e_minsat_Satisfies_1 : Ent := ⟨33, [.one (.int .i64), .ptr TMS], [.one .bool], fun _ => true, fun x => (g_minsat_Satisfies_1 x.1 x.2.1, ())⟩
def S_slices_IndexFunc_int_minsat_Satisfies_1_0 (s : List Ti64T) (f_0 : List Int) : Int := upV (fun c0 next0 => cond (g_minsat_Satisfies_1 (List.getD s c0 Ti64D).1 (f_0, ())) (c0 : Int) next0) ((-1)) (s.length - 0) 0
def g_slices_IndexFunc_int_minsat_Satisfies_1 (s : List Ti64T) (f_0 : List Int) : Int := (S_slices_IndexFunc_int_minsat_Satisfies_1_0 s f_0)
def e_slices_IndexFunc_int_minsat_Satisfies_1 : Ent := ⟨38, [.one (.sl Ti64S), .clo 33 [TMS]], [.one (.int .i64)], fun _ => true, fun x => (g_slices_IndexFunc_int_minsat_Satisfies_1 x.1 x.2.1.1.1, ())⟩
def g_minsat_Satisfies_2 (x0 : Int) (c1 : TMT) : Bool := (!(List.any c1.1 fun y => y == x0))
def e_minsat_Satisfies_2 : Ent := ⟨34, [.one (.int .i64), .ptr TMS], [.one .bool], fun _ => true, fun x => (g_minsat_Satisfies_2 x.1 x.2.1, ())⟩
def S_slices_IndexFunc_int_minsat_Satisfies_2_0 (s : List Ti64T) (f_0 : List Int) : Int := upV (fun c0 next0 => cond (g_minsat_Satisfies_2 (List.getD s c0 Ti64D).1 (f_0, ())) (c0 : Int) next0) ((-1)) (s.length - 0) 0
def g_slices_IndexFunc_int_minsat_Satisfies_2 (s : List Ti64T) (f_0 : List Int) : Int := (S_slices_IndexFunc_int_minsat_Satisfies_2_0 s f_0)
def e_slices_IndexFunc_int_minsat_Satisfies_2 : Ent := ⟨38, [.one (.sl Ti64S), .clo 34 [TMS]], [.one (.int .i64)], fun _ => true, fun x => (g_slices_IndexFunc_int_minsat_Satisfies_2 x.1 x.2.1.1.1, ())⟩
def g_slices_ContainsFunc_int_minsat_Check_1 (s : List Ti64T) (f_0 : Int) : Bool := (decide ((g_slices_IndexFunc_int_minsat_Check_1 s f_0) ≥ 0))
def e_slices_ContainsFunc_int_minsat_Check_1 : Ent := ⟨32, [.one (.sl Ti64S), .clo 31 [Ti64S]], [.one .bool], fun _ => true, fun x => (g_slices_ContainsFunc_int_minsat_Check_1 x.1 x.2.1.1.1, ())⟩
def g_slices_ContainsFunc_int_minsat_Satisfies_1 (s : List Ti64T) (f_0 : List Int) : Bool := (decide ((g_slices_IndexFunc_int_minsat_Satisfies_1 s f_0) ≥ 0))
def e_slices_ContainsFunc_int_minsat_Satisfies_1 : Ent := ⟨32, [.one (.sl Ti64S), .clo 33 [TMS]], [.one .bool], fun _ => true, fun x => (g_slices_ContainsFunc_int_minsat_Satisfies_1 x.1 x.2.1.1.1, ())⟩
def g_slices_ContainsFunc_int_minsat_Satisfies_2 (s : List Ti64T) (f_0 : List Int) : Bool := (decide ((g_slices_IndexFunc_int_minsat_Satisfies_2 s f_0) ≥ 0))
def e_slices_ContainsFunc_int_minsat_Satisfies_2 : Ent := ⟨32, [.one (.sl Ti64S), .clo 34 [TMS]], [.one .bool], fun _ => true, fun x => (g_slices_ContainsFunc_int_minsat_Satisfies_2 x.1 x.2.1.1.1, ())⟩
def S_minsat_Check_0 (n : Int) (cs : List ConstraintT) : Int := upV (fun c0 next0 => cond ((g_slices_ContainsFunc_int_minsat_Check_1 (List.getD cs c0 ConstraintD).1 n) || (g_slices_ContainsFunc_int_minsat_Check_1 (List.getD cs c0 ConstraintD).2.1 n)) 1 next0) (0) (cs.length - 0) 0
def g_minsat_Check (n : Int) (cs : List ConstraintT) : Int := cond (decide (n < 0)) 1 (cond ((decide (n > 24)) || (decide ((cs.length : Int) > 64))) 7 (S_minsat_Check_0 n cs))
def e_minsat_Check : Ent := ⟨19, [.one (.int .i64), .one (.sl ConstraintS)], [.one (.int .i64)], fun _ => true, fun x => (g_minsat_Check x.1 x.2.1, ())⟩
def p_minsat_mask (l : List Ti64T) : Bool := l.all fun x => decide (0 ≤ x.1)
theorem mask_at {l : List Ti64T} (h : p_minsat_mask l = true) {c : Nat} (hc : c < l.length) : decide (0 ≤ (List.getD l c Ti64D).1) = true := by
  unfold p_minsat_mask at h
  rw [List.all_eq_true] at h
  exact h _ (getD_mem hc _)
def S_minsat_mask_0 (l : List Ti64T) (v00 : Int) : Int := upS (fun c0 (v0 : Int) => fun (next0 : Int → Int) => (next0 (ior .u32 v0 (ishl .u32 1 (List.getD l c0 Ti64D).1)))) (fun (v0 : Int) => v0) (l.length - 0) 0 v00
def g_minsat_mask (l : List Ti64T) : Int := (S_minsat_mask_0 l 0)
def e_minsat_mask : Ent := ⟨35, [.one (.sl Ti64S)], [.one (.int .u32)], fun x => p_minsat_mask x.1, fun x => (g_minsat_mask x.1, ())⟩
def p_minsat_clauses (l : List ConstraintT) : Bool := decide (l.length ≤ 1048576) && l.all fun c => p_minsat_mask c.1 && p_minsat_mask c.2.1
theorem clauses_len {l : List ConstraintT} (h : p_minsat_clauses l = true) : l.length ≤ 1048576 := by
  unfold p_minsat_clauses at h
  simp only [Bool.and_eq_true, decide_eq_true_eq] at h
  exact h.1
theorem clauses_at {l : List ConstraintT} (h : p_minsat_clauses l = true) {c : Nat} (hc : c < l.length) : p_minsat_mask (List.getD l c ConstraintD).1 = true ∧ p_minsat_mask (List.getD l c ConstraintD).2.1 = true := by
  unfold p_minsat_clauses at h
  simp only [Bool.and_eq_true, List.all_eq_true] at h
  exact h.2 _ (getD_mem hc _)
def S_minsat_clauses_0 (cs : List ConstraintT) (v10 : List clauseT) : List clauseT := upS (fun c0 (v1 : List clauseT) => fun (next0 : (List clauseT) → (List clauseT)) => (next0 (List.set v1 c0 ((g_minsat_mask (List.getD cs c0 ConstraintD).1), (g_minsat_mask (List.getD cs c0 ConstraintD).2.1), ())))) (fun (v1 : List clauseT) => (segL v1 0 (Int.toNat (cs.length : Int)))) (cs.length - 0) 0 v10
def g_minsat_clauses (cs : List ConstraintT) : List clauseT := (S_minsat_clauses_0 cs (List.replicate (Int.toNat (cs.length : Int)) clauseD))
def e_minsat_clauses : Ent := ⟨21, [.one (.sl ConstraintS)], [.one (.sl clauseS)], fun x => p_minsat_clauses x.1, fun x => (g_minsat_clauses x.1, ())⟩
def g_bits_OnesCount32 (x0 : Int) : Int := (IntKind.wrap .i64 (IntKind.wrap .u8 ((IntKind.wrap .u8 ((IntKind.wrap .u8 ((byteAt [0, 1, 1, 2, 1, 2, 2, 3, 1, 2, 2, 3, 2, 3, 3, 4, 1, 2, 2, 3, 2, 3, 3, 4, 2, 3, 3, 4, 3, 4, 4, 5, 1, 2, 2, 3, 2, 3, 3, 4, 2, 3, 3, 4, 3, 4, 4, 5, 2, 3, 3, 4, 3, 4, 4, 5, 3, 4, 4, 5, 4, 5, 5, 6, 1, 2, 2, 3, 2, 3, 3, 4, 2, 3, 3, 4, 3, 4, 4, 5, 2, 3, 3, 4, 3, 4, 4, 5, 3, 4, 4, 5, 4, 5, 5, 6, 2, 3, 3, 4, 3, 4, 4, 5, 3, 4, 4, 5, 4, 5, 5, 6, 3, 4, 4, 5, 4, 5, 5, 6, 4, 5, 5, 6, 5, 6, 6, 7, 1, 2, 2, 3, 2, 3, 3, 4, 2, 3, 3, 4, 3, 4, 4, 5, 2, 3, 3, 4, 3, 4, 4, 5, 3, 4, 4, 5, 4, 5, 5, 6, 2, 3, 3, 4, 3, 4, 4, 5, 3, 4, 4, 5, 4, 5, 5, 6, 3, 4, 4, 5, 4, 5, 5, 6, 4, 5, 5, 6, 5, 6, 6, 7, 2, 3, 3, 4, 3, 4, 4, 5, 3, 4, 4, 5, 4, 5, 5, 6, 3, 4, 4, 5, 4, 5, 5, 6, 4, 5, 5, 6, 5, 6, 6, 7, 3, 4, 4, 5, 4, 5, 5, 6, 4, 5, 5, 6, 5, 6, 6, 7, 4, 5, 5, 6, 5, 6, 6, 7, 5, 6, 6, 7, 6, 7, 7, 8] (ishr .u32 x0 24)) + (byteAt [0, 1, 1, 2, 1, 2, 2, 3, 1, 2, 2, 3, 2, 3, 3, 4, 1, 2, 2, 3, 2, 3, 3, 4, 2, 3, 3, 4, 3, 4, 4, 5, 1, 2, 2, 3, 2, 3, 3, 4, 2, 3, 3, 4, 3, 4, 4, 5, 2, 3, 3, 4, 3, 4, 4, 5, 3, 4, 4, 5, 4, 5, 5, 6, 1, 2, 2, 3, 2, 3, 3, 4, 2, 3, 3, 4, 3, 4, 4, 5, 2, 3, 3, 4, 3, 4, 4, 5, 3, 4, 4, 5, 4, 5, 5, 6, 2, 3, 3, 4, 3, 4, 4, 5, 3, 4, 4, 5, 4, 5, 5, 6, 3, 4, 4, 5, 4, 5, 5, 6, 4, 5, 5, 6, 5, 6, 6, 7, 1, 2, 2, 3, 2, 3, 3, 4, 2, 3, 3, 4, 3, 4, 4, 5, 2, 3, 3, 4, 3, 4, 4, 5, 3, 4, 4, 5, 4, 5, 5, 6, 2, 3, 3, 4, 3, 4, 4, 5, 3, 4, 4, 5, 4, 5, 5, 6, 3, 4, 4, 5, 4, 5, 5, 6, 4, 5, 5, 6, 5, 6, 6, 7, 2, 3, 3, 4, 3, 4, 4, 5, 3, 4, 4, 5, 4, 5, 5, 6, 3, 4, 4, 5, 4, 5, 5, 6, 4, 5, 5, 6, 5, 6, 6, 7, 3, 4, 4, 5, 4, 5, 5, 6, 4, 5, 5, 6, 5, 6, 6, 7, 4, 5, 5, 6, 5, 6, 6, 7, 5, 6, 6, 7, 6, 7, 7, 8] (iand .u32 (ishr .u32 x0 16) 255)))) + (byteAt [0, 1, 1, 2, 1, 2, 2, 3, 1, 2, 2, 3, 2, 3, 3, 4, 1, 2, 2, 3, 2, 3, 3, 4, 2, 3, 3, 4, 3, 4, 4, 5, 1, 2, 2, 3, 2, 3, 3, 4, 2, 3, 3, 4, 3, 4, 4, 5, 2, 3, 3, 4, 3, 4, 4, 5, 3, 4, 4, 5, 4, 5, 5, 6, 1, 2, 2, 3, 2, 3, 3, 4, 2, 3, 3, 4, 3, 4, 4, 5, 2, 3, 3, 4, 3, 4, 4, 5, 3, 4, 4, 5, 4, 5, 5, 6, 2, 3, 3, 4, 3, 4, 4, 5, 3, 4, 4, 5, 4, 5, 5, 6, 3, 4, 4, 5, 4, 5, 5, 6, 4, 5, 5, 6, 5, 6, 6, 7, 1, 2, 2, 3, 2, 3, 3, 4, 2, 3, 3, 4, 3, 4, 4, 5, 2, 3, 3, 4, 3, 4, 4, 5, 3, 4, 4, 5, 4, 5, 5, 6, 2, 3, 3, 4, 3, 4, 4, 5, 3, 4, 4, 5, 4, 5, 5, 6, 3, 4, 4, 5, 4, 5, 5, 6, 4, 5, 5, 6, 5, 6, 6, 7, 2, 3, 3, 4, 3, 4, 4, 5, 3, 4, 4, 5, 4, 5, 5, 6, 3, 4, 4, 5, 4, 5, 5, 6, 4, 5, 5, 6, 5, 6, 6, 7, 3, 4, 4, 5, 4, 5, 5, 6, 4, 5, 5, 6, 5, 6, 6, 7, 4, 5, 5, 6, 5, 6, 6, 7, 5, 6, 6, 7, 6, 7, 7, 8] (iand .u32 (ishr .u32 x0 8) 255)))) + (byteAt [0, 1, 1, 2, 1, 2, 2, 3, 1, 2, 2, 3, 2, 3, 3, 4, 1, 2, 2, 3, 2, 3, 3, 4, 2, 3, 3, 4, 3, 4, 4, 5, 1, 2, 2, 3, 2, 3, 3, 4, 2, 3, 3, 4, 3, 4, 4, 5, 2, 3, 3, 4, 3, 4, 4, 5, 3, 4, 4, 5, 4, 5, 5, 6, 1, 2, 2, 3, 2, 3, 3, 4, 2, 3, 3, 4, 3, 4, 4, 5, 2, 3, 3, 4, 3, 4, 4, 5, 3, 4, 4, 5, 4, 5, 5, 6, 2, 3, 3, 4, 3, 4, 4, 5, 3, 4, 4, 5, 4, 5, 5, 6, 3, 4, 4, 5, 4, 5, 5, 6, 4, 5, 5, 6, 5, 6, 6, 7, 1, 2, 2, 3, 2, 3, 3, 4, 2, 3, 3, 4, 3, 4, 4, 5, 2, 3, 3, 4, 3, 4, 4, 5, 3, 4, 4, 5, 4, 5, 5, 6, 2, 3, 3, 4, 3, 4, 4, 5, 3, 4, 4, 5, 4, 5, 5, 6, 3, 4, 4, 5, 4, 5, 5, 6, 4, 5, 5, 6, 5, 6, 6, 7, 2, 3, 3, 4, 3, 4, 4, 5, 3, 4, 4, 5, 4, 5, 5, 6, 3, 4, 4, 5, 4, 5, 5, 6, 4, 5, 5, 6, 5, 6, 6, 7, 3, 4, 4, 5, 4, 5, 5, 6, 4, 5, 5, 6, 5, 6, 6, 7, 4, 5, 5, 6, 5, 6, 6, 7, 5, 6, 6, 7, 6, 7, 7, 8] (iand .u32 x0 255)))))
def e_bits_OnesCount32 : Ent := ⟨40, [.one (.int .u32)], [.one (.int .i64)], fun _ => true, fun x => (g_bits_OnesCount32 x.1, ())⟩
theorem oc_pc {x : Int} (h : u32 x) : g_bits_OnesCount32 x = (pc x : Int) := oc_eq h
def subN (n x : Int) : Bool := (List.range 32).all fun i => !bt x i || decide ((i : Int) < n)
def disj (x y : Int) : Bool := (List.range 32).all fun i => !(bt x i && bt y i)
theorem subN_iff {n x : Int} : subN n x = true ↔ ∀ i : Nat, bt x i = true → (i : Int) < n := by
  unfold subN
  rw [List.all_eq_true]
  constructor
  · intro h i hi
    have := h i (by simpa using bt_lt hi)
    simpa [hi] using this
  · intro h i _
    cases hb : bt x i with
    | false => rfl
    | true => simpa [hb] using h i hb
theorem disj_iff {x y : Int} : disj x y = true ↔ ∀ i : Nat, bt x i = true → bt y i = true → False := by
  unfold disj
  rw [List.all_eq_true]
  constructor
  · intro h i hi hj
    have := h i (by simpa using bt_lt hi)
    simp [hi, hj] at this
  · intro h i _
    cases hb : bt x i with
    | false => rfl
    | true =>
      cases hc : bt y i with
      | false => rfl
      | true => exact (h i hb hc).elim
/-- The clauses speak of the elements alone. -/
structure Okc (s : searchT) : Prop where
  n0 : 0 ≤ s.1
  n1 : s.1 ≤ 24
  cl : ∀ c ∈ s.2.1, (∀ i : Nat, bt c.1 i = true → (i : Int) < s.1) ∧ ∀ i : Nat, bt c.2.1 i = true → (i : Int) < s.1
structure Oks (s : searchT) (yes no : Int) : Prop where
  y : u32 yes
  n : u32 no
  ys : ∀ i : Nat, bt yes i = true → (i : Int) < s.1
  ns : ∀ i : Nat, bt no i = true → (i : Int) < s.1
  dj : ∀ i : Nat, bt yes i = true → bt no i = true → False
def p_fn_36 (s : searchT) (yes no _most : Int) : Bool := decide (0 ≤ s.1) && decide (s.1 ≤ 24) && (s.2.1.all fun c => subN s.1 c.1 && subN s.1 c.2.1) && subN s.1 yes && subN s.1 no && disj yes no
theorem p36 {s : searchT} {yes no most : Int} : p_fn_36 s yes no most = true ↔ Okc s ∧ (∀ i : Nat, bt yes i = true → (i : Int) < s.1) ∧ (∀ i : Nat, bt no i = true → (i : Int) < s.1) ∧ ∀ i : Nat, bt yes i = true → bt no i = true → False := by
  unfold p_fn_36
  simp only [Bool.and_eq_true, decide_eq_true_eq, List.all_eq_true, subN_iff, disj_iff]
  constructor
  · rintro ⟨⟨⟨⟨⟨h1, h2⟩, h3⟩, h4⟩, h5⟩, h6⟩
    exact ⟨⟨h1, h2, h3⟩, h4, h5, h6⟩
  · rintro ⟨⟨h1, h2, h3⟩, h4, h5, h6⟩
    exact ⟨⟨⟨⟨⟨h1, h2⟩, h3⟩, h4⟩, h5⟩, h6⟩
def pc2 (yes no : Int) : Nat := pc (ior .u32 yes no)
theorem i36a {s : searchT} {no yes v3 : Int} (ok : Okc s) (h : Oks s yes no) (hv : v3 = ior .u32 yes no) : Oks s yes no ∧ ∀ i, bt v3 i = true → (bt yes i || bt no i) = true :=
  ⟨h, fun i hi => by rw [hv, bt_ior] at hi; exact hi⟩
theorem all_bt {s : searchT} (ok : Okc s) (i : Nat) : bt (IntKind.wrap .u32 ((ishl .u32 1 s.1) - 1)) i = decide ((i : Int) < s.1) := by
  obtain ⟨n, hn⟩ := Int.eq_ofNat_of_zero_le ok.n0
  have := ok.n1
  rw [hn, bt_all (by omega)]
  simp
theorem i36b {s : searchT} {no yes v3 : Int} (ok : Okc s) (h : Oks s yes no) (hv : v3 = ior .u32 yes no) : Oks s yes (iandnot .u32 (IntKind.wrap .u32 ((ishl .u32 1 s.1) - 1)) yes) ∧ ∀ i, bt v3 i = true → (bt yes i || bt (iandnot .u32 (IntKind.wrap .u32 ((ishl .u32 1 s.1) - 1)) yes) i) = true := by
  refine ⟨⟨h.y, u32_iandnot _ _, h.ys, fun i hi => ?_, fun i hi hj => ?_⟩, fun i hi => ?_⟩
  · rw [bt_iandnot, all_bt ok] at hi; simp at hi; exact hi.1
  · rw [bt_iandnot, hi] at hj; simp at hj
  · rw [hv, bt_ior, Bool.or_eq_true] at hi
    rw [bt_iandnot, all_bt ok]
    cases hb : bt yes i with
    | true => rfl
    | false =>
      rw [hb] at hi
      have := h.ns i (by simpa using hi)
      simpa using this
theorem i36c {s : searchT} {no yes v3 : Int} {c : Nat} (h : Oks s yes no ∧ ∀ i, bt v3 i = true → (bt yes i || bt no i) = true) (hy : u32 v3 ∧ c ≤ pc v3) (hne : ((ior .u32 yes no) == v3) = false) : Oks s yes no ∧ c + 1 ≤ pc2 yes no := by
  refine ⟨h.1, Nat.le_trans (Nat.succ_le_succ hy.2) ?_⟩
  have hsub : ∀ i, bt v3 i = true → bt (ior .u32 yes no) i = true := fun i hi => by rw [bt_ior]; exact h.2 i hi
  have hex : ∃ i, bt v3 i = false ∧ bt (ior .u32 yes no) i = true := by
    apply Classical.byContradiction
    intro hn
    have : ior .u32 yes no = v3 := bt_ext (u32_ior _ _) hy.1 fun i _ => by
      cases hb : bt v3 i with
      | true => exact hsub i hb
      | false =>
        cases hc : bt (ior .u32 yes no) i with
        | false => rfl
        | true => exact (hn ⟨i, hb, hc⟩).elim
    rw [this] at hne
    simp at hne
  obtain ⟨i, h1, h2⟩ := hex
  exact pc_lt hsub h1 h2
theorem pc_none {x : Int} (h : pc x = 0) (i : Nat) : bt x i = false := by
  cases hb : bt x i with
  | false => rfl
  | true =>
    have := pc_lt (x := 0) (y := x) (fun i hi => by rw [bt_zero] at hi; cases hi) (bt_zero i) hb
    omega
theorem w64pc (x y : Int) : IntKind.wrap .i64 ((pc x : Int) + (pc y : Int)) = ((pc x + pc y : Nat) : Int) := by
  have := pc_le x; have := pc_le y
  rw [w64 (by omega) (by omega)]; omega
/-- One literal is left: it is forced. -/
theorem i36d {s : searchT} {no yes v3 : Int} {c : clauseT} (ok : Okc s) (hc : c ∈ s.2.1) (h : Oks s yes no ∧ ∀ i, bt v3 i = true → (bt yes i || bt no i) = true)
    (h1 : ((IntKind.wrap .i64 ((g_bits_OnesCount32 (iandnot .u32 c.1 no)) + (g_bits_OnesCount32 (iandnot .u32 c.2.1 yes)))) == 1) = true) :
    Oks s (ior .u32 yes (iandnot .u32 c.1 no)) (ior .u32 no (iandnot .u32 c.2.1 yes)) ∧ ∀ i, bt v3 i = true → (bt (ior .u32 yes (iandnot .u32 c.1 no)) i || bt (ior .u32 no (iandnot .u32 c.2.1 yes)) i) = true := by
  rw [oc_pc (u32_iandnot _ _), oc_pc (u32_iandnot _ _), w64pc] at h1
  have h1 : pc (iandnot .u32 c.1 no) + pc (iandnot .u32 c.2.1 yes) = 1 := by
    have := eq_of_beq h1
    omega
  have hemp : (∀ i, bt (iandnot .u32 c.1 no) i = false) ∨ ∀ i, bt (iandnot .u32 c.2.1 yes) i = false := by
    rcases Nat.eq_zero_or_pos (pc (iandnot .u32 c.1 no)) with h2 | h2
    · exact .inl (pc_none h2)
    · exact .inr (pc_none (by omega))
  obtain ⟨k1, k2⟩ := ok.cl c hc
  refine ⟨⟨u32_ior _ _, u32_ior _ _, fun i hi => ?_, fun i hi => ?_, fun i hi hj => ?_⟩, fun i hi => ?_⟩
  · rw [bt_ior, Bool.or_eq_true] at hi
    rcases hi with hi | hi
    · exact h.1.ys i hi
    · rw [bt_iandnot] at hi; simp at hi; exact k1 i hi.1
  · rw [bt_ior, Bool.or_eq_true] at hi
    rcases hi with hi | hi
    · exact h.1.ns i hi
    · rw [bt_iandnot] at hi; simp at hi; exact k2 i hi.1
  · rw [bt_ior, Bool.or_eq_true] at hi hj
    rcases hi with hi | hi <;> rcases hj with hj | hj
    · exact h.1.dj i hi hj
    · rw [bt_iandnot, hi] at hj; simp at hj
    · rw [bt_iandnot, hj] at hi; simp at hi
    · rcases hemp with he | he
      · rw [he] at hi; cases hi
      · rw [he] at hj; cases hj
  · have h2 := h.2 i hi
    rw [Bool.or_eq_true] at h2
    rw [bt_ior, bt_ior]
    rcases h2 with h2 | h2 <;> rw [h2] <;> simp
def S_fn_36_1 (s : searchT) (_yes : Int) (_no : Int) (_most : Int) (_c0 : Nat) (v3 : Int) (next0 : (Int × Int) → (Int × Int × Bool × Unit)) (v00 : Int) (v20 : Int) : Int × Int × Bool × Unit := upS (fun c1 (s1 : Int × Int) => fun (next1 : (Int × Int) → (Int × Int × Bool × Unit)) => cond (((iand .u32 (List.getD s.2.1 c1 clauseD).1 s1.2) != 0) || ((iand .u32 (List.getD s.2.1 c1 clauseD).2.1 s1.1) != 0)) (next1 (s1.1, s1.2)) (cond ((IntKind.wrap .i64 ((g_bits_OnesCount32 (iandnot .u32 (List.getD s.2.1 c1 clauseD).1 s1.1)) + (g_bits_OnesCount32 (iandnot .u32 (List.getD s.2.1 c1 clauseD).2.1 s1.2)))) == 0) (0, 0, false, ()) (cond ((IntKind.wrap .i64 ((g_bits_OnesCount32 (iandnot .u32 (List.getD s.2.1 c1 clauseD).1 s1.1)) + (g_bits_OnesCount32 (iandnot .u32 (List.getD s.2.1 c1 clauseD).2.1 s1.2)))) == 1) (next1 ((ior .u32 s1.1 (iandnot .u32 (List.getD s.2.1 c1 clauseD).2.1 s1.2)), (ior .u32 s1.2 (iandnot .u32 (List.getD s.2.1 c1 clauseD).1 s1.1)))) (next1 (s1.1, s1.2))))) (fun (s1 : Int × Int) => cond ((ior .u32 s1.2 s1.1) == v3) (s1.2, s1.1, true, ()) (next0 (s1.1, s1.2))) (s.2.1.length - 0) 0 (v00, v20)
def S_fn_36_0 (s : searchT) (yes : Int) (no : Int) (most : Int) (v00 : Int) (v10 : Int) : Int × Int × Bool × Unit := upS (fun c0 (s0 : Int × Int) => fun (next0 : (Int × Int) → (Int × Int × Bool × Unit)) => cond (decide ((g_bits_OnesCount32 s0.2) > most)) (0, 0, false, ()) (cond ((g_bits_OnesCount32 s0.2) == most) (S_fn_36_1 s yes no most c0 (ior .u32 s0.2 s0.1) next0 (iandnot .u32 (IntKind.wrap .u32 ((ishl .u32 1 s.1) - 1)) s0.2) s0.2) (S_fn_36_1 s yes no most c0 (ior .u32 s0.2 s0.1) next0 s0.1 s0.2))) (fun (s0 : Int × Int) => (0, 0, false, ())) (33 - 0) 0 (v00, v10)
def g_fn_36 (s : searchT) (yes : Int) (no : Int) (most : Int) : Int × Int × Bool × Unit := (S_fn_36_0 s yes no most no yes)
def e_fn_36 : Ent := ⟨36, [.st searchS, .one (.int .u32), .one (.int .u32), .one (.int .i64)], [.one (.int .u32), .one (.int .u32), .one .bool], fun x => p_fn_36 x.1 x.2.1 x.2.2.1 x.2.2.2.1, fun x => g_fn_36 x.1 x.2.1 x.2.2.1 x.2.2.2.1⟩
theorem tz_ix (y : Int) : okIx (ishr .u32 (IntKind.wrap .u32 y) 27) (gtab0.length : Int) = true := by
  have h := u32_of (show inR .u32 (IntKind.wrap .u32 y) from wrap_in .u32 y)
  obtain ⟨n, hn⟩ := Int.eq_ofNat_of_zero_le h.1
  have hlt : n < 4294967296 := by have := h.2; omega
  rw [hn, show ishr .u32 (n : Int) 27 = ((n >>> 27 : Nat) : Int) from ishr_nat (c := 27) (by decide)]
  have : n >>> 27 < 32 := by rw [Nat.shiftRight_eq_div_pow]; omega
  exact okIx_nat this
def g_bits_TrailingZeros32 (x0 : Int) : Int := cond (x0 == 0) 32 (IntKind.wrap .i64 (List.getD gtab0 (Int.toNat (ishr .u32 (IntKind.wrap .u32 ((iand .u32 x0 (IntKind.wrap .u32 (0 - x0))) * 125613361)) 27)) 0))
def e_bits_TrailingZeros32 : Ent := ⟨37, [.one (.int .u32)], [.one (.int .i64)], fun _ => true, fun x => (g_bits_TrailingZeros32 x.1, ())⟩
theorem tz_tab : ∀ i, i < 32 → (gtab0.getD (((2 ^ i * 125613361) % 4294967296) >>> 27) 0) = (i : Int) := by decide +kernel
theorem tz_zero : g_bits_TrailingZeros32 0 = 32 := rfl
theorem tz_eq {x : Int} {i : Nat} (h : bt x i = true) (hl : ∀ j, j < i → bt x j = false) : g_bits_TrailingZeros32 x = (i : Int) := by
  have hi := bt_lt h
  have hne : (x == 0) = false := by
    have : x ≠ 0 := fun e => by rw [e, bt_zero] at h; cases h
    simpa using this
  unfold g_bits_TrailingZeros32
  rw [hne, cond_false, low_bit h hl]
  have e1 : IntKind.wrap .u32 (((2 ^ i : Nat) : Int) * 125613361) = (((2 ^ i * 125613361) % 4294967296 : Nat) : Int) := by
    have : ((2 ^ i : Nat) : Int) * 125613361 = ((2 ^ i * 125613361 : Nat) : Int) := by rw [Int.natCast_mul]; rfl
    rw [this]
    generalize 2 ^ i * 125613361 = n
    rw [IntKind.wrap_u32]
    omega
  rw [e1, show ishr .u32 (((2 ^ i * 125613361) % 4294967296 : Nat) : Int) 27 = ((((2 ^ i * 125613361) % 4294967296) >>> 27 : Nat) : Int) from ishr_nat (c := 27) (by decide), Int.toNat_natCast, tz_tab i hi]
  exact w64 (by omega) (by omega)
theorem upS_ind {R S : Type} {P : R → Prop} {I : Nat → S → Prop} {b : Nat → S → (S → R) → R} {r : S → R} : ∀ (m s : Nat), (∀ v, I (s + m) v → P (r v)) → (∀ c, s ≤ c → c < s + m → ∀ next : S → R, (∀ v, I (c + 1) v → P (next v)) → ∀ v, I c v → P (b c v next)) → ∀ v, I s v → P (upS b r m s v)
  | 0, s, hr, _, v, hI => hr v hI
  | m + 1, s, hr, hb, v, hI => hb s (Nat.le_refl _) (by omega) _ (fun v' hI' => upS_ind m (s + 1) (by rw [show s + 1 + m = s + (m + 1) by omega]; exact hr) (fun c h1 h2 => hb c (by omega) (by omega)) v' hI') v hI
def card (X : Nat → Bool) : Nat := (List.range 32).countP X
/-- A set that satisfies the clauses, holds all of yes, none of no, and has at most 'most' elements. -/
structure Sol (s : searchT) (X : Nat → Bool) (yes no most : Int) : Prop where
  y : ∀ i, bt yes i = true → X i = true
  n : ∀ i, bt no i = true → X i = false
  lt : ∀ i : Nat, X i = true → (i : Int) < s.1
  c : (card X : Int) ≤ most
  cl : ∀ c ∈ s.2.1, (∃ i, bt c.1 i = true ∧ X i = true) ∨ ∃ i, bt c.2.1 i = true ∧ X i = false
/-- A clause is satisfied, or two literals are left. -/
def Cok (c : clauseT) (Y N : Int) : Prop := (∃ i, bt c.1 i = true ∧ bt Y i = true) ∨ (∃ i, bt c.2.1 i = true ∧ bt N i = true) ∨ 2 ≤ pc (iandnot .u32 c.1 N) + pc (iandnot .u32 c.2.1 Y)
structure Good (s : searchT) (yes no most Y N : Int) : Prop where
  ok : Oks s Y N
  ys : ∀ i, bt yes i = true → bt Y i = true
  un : ∀ i, (bt yes i || bt no i) = true → (bt Y i || bt N i) = true
  sol : ∀ X, Sol s X yes no most ↔ Sol s X Y N most
structure Fin (s : searchT) (yes no most Y N : Int) : Prop extends Good s yes no most Y N where
  pc : (pc Y : Int) ≤ most
  cl : ∀ c ∈ s.2.1, Cok c Y N
def Spec (s : searchT) (yes no most : Int) (r : Int × Int × Bool × Unit) : Prop := (r.2.2.1 = false → ∀ X, ¬ Sol s X yes no most) ∧ (r.2.2.1 = true → Fin s yes no most r.1 r.2.1)
theorem Sol.lt32 {s : searchT} {X : Nat → Bool} {yes no most : Int} (ok : Okc s) (h : Sol s X yes no most) {i : Nat} (hi : X i = true) : i < 32 := by
  have := h.lt i hi; have := ok.n1; omega
theorem pc_card {x : Int} {X : Nat → Bool} (h : ∀ i, bt x i = true → X i = true) : pc x ≤ card X := countP_mono fun i _ => h i
/-- As many as may be: the others are out. -/
theorem sol_full {s : searchT} {yes no most : Int} (ok : Okc s) (h : Oks s yes no) (hc : (pc yes : Int) = most) (X : Nat → Bool) : Sol s X yes no most ↔ Sol s X yes (iandnot .u32 (IntKind.wrap .u32 ((ishl .u32 1 s.1) - 1)) yes) most := by
  constructor
  · intro hs
    refine ⟨hs.y, fun i hi => ?_, hs.lt, hs.c, hs.cl⟩
    rw [bt_iandnot] at hi
    simp only [Bool.and_eq_true, Bool.not_eq_true'] at hi
    cases hx : X i with
    | false => rfl
    | true =>
      have : pc yes < card X := countP_lt (fun j _ => hs.y j) ⟨i, by simpa using hs.lt32 ok hx, hi.2, hx⟩
      have := hs.c
      omega
  · intro hs
    refine ⟨hs.y, fun i hi => hs.n i ?_, hs.lt, hs.c, hs.cl⟩
    rw [bt_iandnot, all_bt ok]
    have h1 := h.ns i hi
    have h2 : bt yes i = false := by
      cases hb : bt yes i with
      | false => rfl
      | true => exact (h.dj i hb hi).elim
    simp [h1, h2]
/-- One literal left: it is forced. -/
theorem sol_unit {s : searchT} {Y N most : Int} {c : clauseT} (hc : c ∈ s.2.1) (h1 : pc (iandnot .u32 c.1 N) + pc (iandnot .u32 c.2.1 Y) = 1) (X : Nat → Bool) :
    Sol s X Y N most ↔ Sol s X (ior .u32 Y (iandnot .u32 c.1 N)) (ior .u32 N (iandnot .u32 c.2.1 Y)) most := by
  constructor
  · intro hs
    have key : ∀ {x y : Int}, pc x + pc y = 1 → (∀ i, bt x i = true → bt y i = true → False) → ∀ i j, bt x i = true → bt x j = true → i = j := fun {x y} h _ i j hi hj => by
      apply Classical.byContradiction
      intro hne
      have : 2 ≤ pc x := by
        have h5 := pc_lt (x := iandnot .u32 x (ishl .u32 1 (i : Int))) (y := x) (fun k hk => by rw [bt_iandnot] at hk; simp at hk; exact hk.1) (i := i) (by rw [bt_iandnot, bt_shl (bt_lt hi)]; simp) hi
        have h6 := pc_lt (x := 0) (y := iandnot .u32 x (ishl .u32 1 (i : Int))) (fun k hk => by rw [bt_zero] at hk; cases hk) (i := j) (bt_zero _) (by rw [bt_iandnot, bt_shl (bt_lt hi), hj]; simp; exact fun e => hne e.symm)
        omega
      omega
    have kx : ∀ {x : Int}, pc x = 0 → ∀ i, bt x i = true → False := fun {x} h i hi => by rw [pc_none h] at hi; cases hi
    refine ⟨fun i hi => ?_, fun i hi => ?_, hs.lt, hs.c, hs.cl⟩
    · rw [bt_ior, Bool.or_eq_true] at hi
      rcases hi with hi | hi
      · exact hs.y i hi
      · have hz : pc (iandnot .u32 c.2.1 Y) = 0 := by
          have := pc_lt (x := 0) (y := iandnot .u32 c.1 N) (fun k hk => by rw [bt_zero] at hk; cases hk) (i := i) (bt_zero _) hi
          omega
        rcases hs.cl c hc with ⟨j, h2, h3⟩ | ⟨j, h2, h3⟩
        · have hj : bt (iandnot .u32 c.1 N) j = true := by
            rw [bt_iandnot, h2]
            cases hb : bt N j with
            | false => rfl
            | true => rw [hs.n j hb] at h3; cases h3
          have := key h1 (fun i _ hj => kx hz i hj) i j hi hj
          rw [this]; exact h3
        · have hj : bt (iandnot .u32 c.2.1 Y) j = true := by
            rw [bt_iandnot, h2]
            cases hb : bt Y j with
            | false => rfl
            | true => rw [hs.y j hb] at h3; cases h3
          exact (kx hz j hj).elim
    · rw [bt_ior, Bool.or_eq_true] at hi
      rcases hi with hi | hi
      · exact hs.n i hi
      · have hz : pc (iandnot .u32 c.1 N) = 0 := by
          have := pc_lt (x := 0) (y := iandnot .u32 c.2.1 Y) (fun k hk => by rw [bt_zero] at hk; cases hk) (i := i) (bt_zero _) hi
          omega
        rcases hs.cl c hc with ⟨j, h2, h3⟩ | ⟨j, h2, h3⟩
        · have hj : bt (iandnot .u32 c.1 N) j = true := by
            rw [bt_iandnot, h2]
            cases hb : bt N j with
            | false => rfl
            | true => rw [hs.n j hb] at h3; cases h3
          exact (kx hz j hj).elim
        · have hj : bt (iandnot .u32 c.2.1 Y) j = true := by
            rw [bt_iandnot, h2]
            cases hb : bt Y j with
            | false => rfl
            | true => rw [hs.y j hb] at h3; cases h3
          have := key (x := iandnot .u32 c.2.1 Y) (y := iandnot .u32 c.1 N) (by omega) (fun i _ hj => kx hz i hj) i j hi hj
          rw [this]; exact h3
  · intro hs
    exact ⟨fun i hi => hs.y i (by rw [bt_ior, hi]; rfl), fun i hi => hs.n i (by rw [bt_ior, hi]; rfl), hs.lt, hs.c, hs.cl⟩
theorem and_none {x y : Int} (h : (iand .u32 x y != 0) = false) (i : Nat) (hx : bt x i = true) (hy : bt y i = true) : False := by
  have : (iand .u32 x y != 0) = true := (bt_some (u32_iand _ _)).2 ⟨i, by rw [bt_iand, hx, hy]; rfl⟩
  rw [h] at this; cases this
theorem and_some {x y : Int} (h : (iand .u32 x y != 0) = true) : ∃ i, bt x i = true ∧ bt y i = true := by
  obtain ⟨i, hi⟩ := (bt_some (u32_iand _ _)).1 h
  rw [bt_iand, Bool.and_eq_true] at hi
  exact ⟨i, hi.1, hi.2⟩
theorem prop_in {s : searchT} {yes no most : Int} (ok : Okc s) {c0 : Nat} {v3 : Int} {next0 : (Int × Int) → (Int × Int × Bool × Unit)} (h3 : u32 v3 ∧ c0 ≤ pc v3)
    (hn : ∀ v : Int × Int, Good s yes no most v.2 v.1 ∧ c0 + 1 ≤ pc2 v.2 v.1 → Spec s yes no most (next0 v)) {n1 y1 : Int} (hg : Good s yes no most y1 n1) (hb : ∀ i, bt v3 i = true → (bt y1 i || bt n1 i) = true) (hm : (pc y1 : Int) ≤ most) :
    Spec s yes no most (S_fn_36_1 s yes no most c0 v3 next0 n1 y1) := by
  unfold S_fn_36_1
  refine upS_ind (P := Spec s yes no most) (I := fun c (v : Int × Int) => Good s yes no most v.2 v.1 ∧ (∀ i, bt v3 i = true → (bt v.2 i || bt v.1 i) = true) ∧ ((∀ i, (bt v.2 i || bt v.1 i) = true → bt v3 i = true) → (pc v.2 : Int) ≤ most ∧ ∀ k, k < c → Cok (List.getD s.2.1 k clauseD) v.2 v.1))
    (s.2.1.length - 0) 0 (fun v hI => ?_) (fun c _ hc next hnext v hI => ?_) (n1, y1) ⟨hg, hb, fun _ => ⟨hm, fun k hk => by omega⟩⟩
  · obtain ⟨g1, g2, g3⟩ := hI
    show Spec s yes no most (cond ((ior .u32 v.2 v.1) == v3) (v.2, v.1, true, ()) (next0 (v.1, v.2)))
    cases he : (ior .u32 v.2 v.1) == v3 with
    | true =>
      have he' : ior .u32 v.2 v.1 = v3 := eq_of_beq he
      obtain ⟨g4, g5⟩ := g3 fun i hi => by rw [← he', bt_ior]; exact hi
      show Spec s yes no most (v.2, v.1, true, ())
      refine ⟨fun h => Bool.noConfusion h, fun _ => ⟨g1, g4, fun c hc => ?_⟩⟩
      obtain ⟨k, hk, rfl⟩ := List.mem_iff_getElem.1 hc
      have := g5 k (by omega)
      simpa [List.getD, hk] using this
    | false =>
      have := i36c (c := c0) ⟨g1.ok, g2⟩ h3 he
      exact hn (v.1, v.2) ⟨g1, this.2⟩
  · obtain ⟨g1, g2, g3⟩ := hI
    have hcl : c < s.2.1.length := by omega
    have hmem : List.getD s.2.1 c clauseD ∈ s.2.1 := getD_mem hcl _
    show Spec s yes no most (cond (((iand .u32 (List.getD s.2.1 c clauseD).1 v.2) != 0) || ((iand .u32 (List.getD s.2.1 c clauseD).2.1 v.1) != 0)) (next (v.1, v.2)) (cond ((IntKind.wrap .i64 ((g_bits_OnesCount32 (iandnot .u32 (List.getD s.2.1 c clauseD).1 v.1)) + (g_bits_OnesCount32 (iandnot .u32 (List.getD s.2.1 c clauseD).2.1 v.2)))) == 0) (0, 0, false, ()) (cond ((IntKind.wrap .i64 ((g_bits_OnesCount32 (iandnot .u32 (List.getD s.2.1 c clauseD).1 v.1)) + (g_bits_OnesCount32 (iandnot .u32 (List.getD s.2.1 c clauseD).2.1 v.2)))) == 1) (next ((ior .u32 v.1 (iandnot .u32 (List.getD s.2.1 c clauseD).2.1 v.2)), (ior .u32 v.2 (iandnot .u32 (List.getD s.2.1 c clauseD).1 v.1)))) (next (v.1, v.2)))))
    generalize hcc : List.getD s.2.1 c clauseD = cc at hmem ⊢
    have keep : Cok cc v.2 v.1 → Spec s yes no most (next (v.1, v.2)) := fun hk => hnext (v.1, v.2) ⟨g1, g2, fun hs => by
      obtain ⟨g4, g5⟩ := g3 hs
      refine ⟨g4, fun k hk2 => ?_⟩
      rcases Nat.lt_or_ge k c with h1 | h1
      · exact g5 k h1
      · have : k = c := by omega
        subst this; rw [hcc]; exact hk⟩
    cases h0 : (((iand .u32 cc.1 v.2) != 0) || ((iand .u32 cc.2.1 v.1) != 0)) with
    | true =>
      rw [cond_true]
      rw [Bool.or_eq_true] at h0
      rcases h0 with h0 | h0
      · exact keep (.inl (and_some h0))
      · exact keep (.inr (.inl (and_some h0)))
    | false =>
      rw [cond_false, oc_pc (u32_iandnot _ _), oc_pc (u32_iandnot _ _), w64pc]
      cases h1 : ((pc (iandnot .u32 cc.1 v.1) + pc (iandnot .u32 cc.2.1 v.2) : Nat) : Int) == 0 with
      | true =>
        rw [cond_true]
        have h1 : pc (iandnot .u32 cc.1 v.1) + pc (iandnot .u32 cc.2.1 v.2) = 0 := by have := eq_of_beq h1; omega
        refine ⟨fun _ X hX => ?_, fun h => Bool.noConfusion h⟩
        have hs := (g1.sol X).1 hX
        rcases hs.cl cc hmem with ⟨j, h2, h3⟩ | ⟨j, h2, h3⟩
        · have := pc_none (x := iandnot .u32 cc.1 v.1) (by omega) j
          rw [bt_iandnot, h2] at this
          have : bt v.1 j = true := by simpa using this
          rw [hs.n j this] at h3; cases h3
        · have := pc_none (x := iandnot .u32 cc.2.1 v.2) (by omega) j
          rw [bt_iandnot, h2] at this
          have : bt v.2 j = true := by simpa using this
          rw [hs.y j this] at h3; cases h3
      | false =>
        rw [cond_false]
        cases h2 : ((pc (iandnot .u32 cc.1 v.1) + pc (iandnot .u32 cc.2.1 v.2) : Nat) : Int) == 1 with
        | true =>
          rw [cond_true]
          have h4 : pc (iandnot .u32 cc.1 v.1) + pc (iandnot .u32 cc.2.1 v.2) = 1 := by have := eq_of_beq h2; omega
          have h5 := i36d (v3 := v3) ok hmem ⟨g1.ok, g2⟩ (by rw [oc_pc (u32_iandnot _ _), oc_pc (u32_iandnot _ _), w64pc]; exact h2)
          refine hnext (_, _) ⟨⟨h5.1, fun i hi => by rw [bt_ior, g1.ys i hi]; rfl, fun i hi => ?_, fun X => (g1.sol X).trans (sol_unit hmem h4 X)⟩, h5.2, fun hs => ?_⟩
          · have := g1.un i hi
            rw [Bool.or_eq_true] at this
            rw [bt_ior, bt_ior]
            rcases this with h | h <;> rw [h] <;> simp
          · exfalso
            have hnew : ∀ j, (bt (iandnot .u32 cc.1 v.1) j = true ∨ bt (iandnot .u32 cc.2.1 v.2) j = true) → False := fun j hj => by
              have hv3 : bt v3 j = true := hs j (by
                rw [bt_ior, bt_ior]
                rcases hj with h | h <;> rw [h] <;> simp)
              have hu := g2 j hv3
              rw [Bool.or_eq_true] at hu
              rw [Bool.or_eq_false_iff] at h0
              rcases hj with h | h
              · rw [bt_iandnot, Bool.and_eq_true, Bool.not_eq_true'] at h
                rcases hu with hu | hu
                · exact and_none h0.1 j h.1 hu
                · rw [hu] at h; cases h.2
              · rw [bt_iandnot, Bool.and_eq_true, Bool.not_eq_true'] at h
                rcases hu with hu | hu
                · rw [hu] at h; cases h.2
                · exact and_none h0.2 j h.1 hu
            rcases Nat.eq_zero_or_pos (pc (iandnot .u32 cc.1 v.1)) with hz | hz
            · have : (iandnot .u32 cc.2.1 v.2 != 0) = true := by
                apply Classical.byContradiction
                intro hc2
                have : iandnot .u32 cc.2.1 v.2 = 0 := by simpa using hc2
                rw [this] at h4
                have : pc 0 = 0 := rfl
                omega
              obtain ⟨j, hj⟩ := (bt_some (u32_iandnot _ _)).1 this
              exact hnew j (.inr hj)
            · have : (iandnot .u32 cc.1 v.1 != 0) = true := by
                apply Classical.byContradiction
                intro hc2
                have : iandnot .u32 cc.1 v.1 = 0 := by simpa using hc2
                rw [this] at hz
                have : pc 0 = 0 := rfl
                omega
              obtain ⟨j, hj⟩ := (bt_some (u32_iandnot _ _)).1 this
              exact hnew j (.inl hj)
        | false =>
          rw [cond_false]
          refine keep (.inr (.inr ?_))
          have e1 : ¬ (pc (iandnot .u32 cc.1 v.1) + pc (iandnot .u32 cc.2.1 v.2) = 0) := fun e => by rw [e] at h1; simp at h1
          have e2 : ¬ (pc (iandnot .u32 cc.1 v.1) + pc (iandnot .u32 cc.2.1 v.2) = 1) := fun e => by rw [e] at h2; simp at h2
          omega
theorem prop_spec {s : searchT} {yes no most : Int} (hp : p_fn_36 s yes no most = true) (hy : u32 yes) (hn : u32 no) : Spec s yes no most (g_fn_36 s yes no most) := by
  obtain ⟨ok, h1, h2, h3⟩ := p36.1 hp
  unfold g_fn_36 S_fn_36_0
  refine upS_ind (P := Spec s yes no most) (I := fun c (v : Int × Int) => Good s yes no most v.2 v.1 ∧ c ≤ pc2 v.2 v.1) (33 - 0) 0 (fun v hI => ?_) (fun c _ hc next hnext v hI => ?_) (no, yes) ⟨⟨⟨hy, hn, h1, h2, h3⟩, fun _ h => h, fun _ h => h, fun _ => Iff.rfl⟩, Nat.zero_le _⟩
  · have := pc_le (ior .u32 v.2 v.1)
    have h5 := hI.2
    unfold pc2 at h5
    omega
  · obtain ⟨g1, g2⟩ := hI
    show Spec s yes no most (cond (decide ((g_bits_OnesCount32 v.2) > most)) (0, 0, false, ()) (cond ((g_bits_OnesCount32 v.2) == most) (S_fn_36_1 s yes no most c (ior .u32 v.2 v.1) next (iandnot .u32 (IntKind.wrap .u32 ((ishl .u32 1 s.1) - 1)) v.2) v.2) (S_fn_36_1 s yes no most c (ior .u32 v.2 v.1) next v.1 v.2)))
    rw [oc_pc g1.ok.y]
    cases h5 : decide (((pc v.2 : Nat) : Int) > most) with
    | true =>
      rw [cond_true]
      refine ⟨fun _ X hX => ?_, fun h => Bool.noConfusion h⟩
      have hs := (g1.sol X).1 hX
      have := pc_card hs.y
      have := hs.c
      have := of_decide_eq_true h5
      omega
    | false =>
      rw [cond_false]
      have h5 := of_decide_eq_false h5
      cases h6 : ((pc v.2 : Nat) : Int) == most with
      | true =>
        rw [cond_true]
        have h7 := i36b ok g1.ok rfl
        refine prop_in ok ⟨u32_ior _ _, g2⟩ hnext ⟨h7.1, g1.ys, fun i hi => h7.2 i (by rw [bt_ior]; exact g1.un i hi), fun X => (g1.sol X).trans (sol_full ok g1.ok (eq_of_beq h6) X)⟩ h7.2 (by omega)
      | false =>
        rw [cond_false]
        exact prop_in ok ⟨u32_ior _ _, g2⟩ hnext g1 (i36a ok g1.ok rfl).2 (by omega)
def p_fn_22 (s : searchT) (yes no most : Int) : Bool := p_fn_36 s yes no most
def pk_fn_22 (k : Nat) (s : searchT) (yes no most : Int) : Bool := p_fn_22 s yes no most && decide (32 < k + pc2 yes no)
def gk_fn_22 : Nat → searchT → Int → Int → Int → Int × Bool × Unit
  | 0, _, _, _, _ => (0, false, ())
  | k + 1, s, yes, no, most =>
    cond (!(g_fn_36 s yes no most).2.2.1) (0, false, ())
      (cond (decide ((IntKind.wrap .u32 (g_bits_TrailingZeros32 (inot .u32 (ior .u32 (g_fn_36 s yes no most).1 (g_fn_36 s yes no most).2.1)))) ≥ (IntKind.wrap .u32 s.1))) ((g_fn_36 s yes no most).1, true, ())
        (cond (gk_fn_22 k s (ior .u32 (g_fn_36 s yes no most).1 (ishl .u32 1 (IntKind.wrap .u32 (g_bits_TrailingZeros32 (inot .u32 (ior .u32 (g_fn_36 s yes no most).1 (g_fn_36 s yes no most).2.1)))))) (g_fn_36 s yes no most).2.1 most).2.1
          ((gk_fn_22 k s (ior .u32 (g_fn_36 s yes no most).1 (ishl .u32 1 (IntKind.wrap .u32 (g_bits_TrailingZeros32 (inot .u32 (ior .u32 (g_fn_36 s yes no most).1 (g_fn_36 s yes no most).2.1)))))) (g_fn_36 s yes no most).2.1 most).1, true, ())
          ((gk_fn_22 k s (g_fn_36 s yes no most).1 (ior .u32 (g_fn_36 s yes no most).2.1 (ishl .u32 1 (IntKind.wrap .u32 (g_bits_TrailingZeros32 (inot .u32 (ior .u32 (g_fn_36 s yes no most).1 (g_fn_36 s yes no most).2.1)))))) most).1, (gk_fn_22 k s (g_fn_36 s yes no most).1 (ior .u32 (g_fn_36 s yes no most).2.1 (ishl .u32 1 (IntKind.wrap .u32 (g_bits_TrailingZeros32 (inot .u32 (ior .u32 (g_fn_36 s yes no most).1 (g_fn_36 s yes no most).2.1)))))) most).2.1, ())))
def g_fn_22 (s : searchT) (yes no most : Int) : Int × Bool × Unit := gk_fn_22 33 s yes no most
theorem pk0_fn_22 (s : searchT) (yes no most : Int) : pk_fn_22 0 s yes no most = false := by
  have := pc_le (ior .u32 yes no)
  unfold pk_fn_22 pc2
  simp; omega
theorem pk_of_fn_22 {s : searchT} {yes no most : Int} (h : p_fn_22 s yes no most = true) : pk_fn_22 33 s yes no most = true := by
  unfold pk_fn_22
  simp [h]; omega
/-- The first undecided element. -/
theorem tz_first {s : searchT} (ok : Okc s) {Y N : Int} (h : Oks s Y N) : ∃ i0 : Nat, IntKind.wrap .u32 (g_bits_TrailingZeros32 (inot .u32 (ior .u32 Y N))) = (i0 : Int) ∧ i0 < 32 ∧ bt Y i0 = false ∧ bt N i0 = false ∧ ∀ j, j < i0 → (bt Y j || bt N j) = true := by
  have hne : inot .u32 (ior .u32 Y N) ≠ 0 := fun e => by
    have h1 : bt (inot .u32 (ior .u32 Y N)) 31 = false := by rw [e, bt_zero]
    rw [bt_inot, bt_ior] at h1
    have n1 := ok.n1
    cases hy : bt Y 31 with
    | true => have := h.ys 31 hy; omega
    | false =>
      cases hn : bt N 31 with
      | true => have := h.ns 31 hn; omega
      | false => rw [hy, hn] at h1; cases h1
  obtain ⟨i0, h1, h2, h3⟩ := least_ex (u32_inot _) hne
  refine ⟨i0, ?_, h1, ?_⟩
  · rw [tz_eq h2 h3]; exact wrap_u32_nat (by omega)
  · rw [bt_inot, bt_ior] at h2
    refine ⟨?_, ?_, fun j hj => ?_⟩
    · cases hb : bt Y i0 with | false => rfl | true => rw [hb] at h2; simp at h2
    · cases hb : bt N i0 with | false => rfl | true => rw [hb] at h2; simp at h2
    · have := h3 j hj
      rw [bt_inot, bt_ior] at this
      have hj32 : j < 32 := by omega
      cases hy : bt Y j with
      | true => rfl
      | false =>
        rw [hy] at this
        simpa [hj32] using this
theorem wrap_n {s : searchT} (ok : Okc s) : IntKind.wrap .u32 s.1 = s.1 := by
  have h0 := ok.n0; have h1 := ok.n1
  obtain ⟨n, hn⟩ := Int.eq_ofNat_of_zero_le h0
  rw [hn]; exact wrap_u32_nat (by omega)
theorem find_step {s : searchT} {yes no most : Int} (ok : Okc s) {Y N : Int} (g : Good s yes no most Y N) {i0 : Nat} (hi : (i0 : Int) < s.1) (h1 : bt Y i0 = false) (h2 : bt N i0 = false) {k : Nat} (hk : 32 < k + 1 + pc2 yes no) :
    pk_fn_22 k s (ior .u32 Y (ishl .u32 1 (i0 : Int))) N most = true ∧ pk_fn_22 k s Y (ior .u32 N (ishl .u32 1 (i0 : Int))) most = true := by
  have n1 := ok.n1
  have h32 : i0 < 32 := by omega
  have hlt : ∀ x : Int, (∀ i : Nat, bt x i = true → (i : Int) < s.1) → ∀ i : Nat, bt (ior .u32 x (ishl .u32 1 (i0 : Int))) i = true → (i : Int) < s.1 := fun x hx i h => by
    rw [bt_ior, bt_shl h32, Bool.or_eq_true] at h
    rcases h with h | h
    · exact hx i h
    · have : i = i0 := by simpa using h
      omega
  have e1 : pc2 yes no ≤ pc2 Y N := pc_mono fun i h => by rw [bt_ior] at h ⊢; exact g.un i h
  have e2 : pc2 Y N < pc2 (ior .u32 Y (ishl .u32 1 (i0 : Int))) N := pc_lt (i := i0) (fun i h => by
      rw [bt_ior] at h ⊢; rw [bt_ior]
      rw [Bool.or_eq_true] at h
      rcases h with h | h <;> rw [h] <;> simp) (by rw [bt_ior, h1, h2]; rfl) (by rw [bt_ior, bt_ior, bt_shl h32]; simp)
  have e3 : pc2 Y N < pc2 Y (ior .u32 N (ishl .u32 1 (i0 : Int))) := pc_lt (i := i0) (fun i h => by
      rw [bt_ior] at h ⊢; rw [bt_ior]
      rw [Bool.or_eq_true] at h
      rcases h with h | h <;> rw [h] <;> simp) (by rw [bt_ior, h1, h2]; rfl) (by rw [bt_ior, bt_ior, bt_shl h32]; simp)
  unfold pk_fn_22 p_fn_22
  simp only [Bool.and_eq_true, decide_eq_true_eq]
  refine ⟨⟨p36.2 ⟨ok, hlt Y g.ok.ys, g.ok.ns, fun i h h' => ?_⟩, by omega⟩, ⟨p36.2 ⟨ok, g.ok.ys, hlt N g.ok.ns, fun i h h' => ?_⟩, by omega⟩⟩
  · rw [bt_ior, bt_shl h32, Bool.or_eq_true] at h
    rcases h with h | h
    · exact g.ok.dj i h h'
    · have : i = i0 := by simpa using h
      subst this; rw [h2] at h'; cases h'
  · rw [bt_ior, bt_shl h32, Bool.or_eq_true] at h'
    rcases h' with h' | h'
    · exact g.ok.dj i h h'
    · have : i = i0 := by simpa using h'
      subst this; rw [h1] at h; cases h
/-- At the first place where they differ, X has the element. -/
def Before (X Y : Nat → Bool) : Prop := ∃ i, X i = true ∧ Y i = false ∧ ∀ j, j < i → X j = Y j
def Found (s : searchT) (yes no most : Int) (r : Int × Bool × Unit) : Prop := (r.2.1 = false → ∀ X, ¬ Sol s X yes no most) ∧
  (r.2.1 = true → u32 r.1 ∧ Sol s (bt r.1) yes no most ∧ ∀ X, Sol s X yes no most → (∀ i, X i = bt r.1 i) ∨ Before (bt r.1) X)
theorem sol_yes {s : searchT} {X : Nat → Bool} {Y N most : Int} {i0 : Nat} (h32 : i0 < 32) : Sol s X (ior .u32 Y (ishl .u32 1 (i0 : Int))) N most ↔ Sol s X Y N most ∧ X i0 = true := by
  constructor
  · intro h
    exact ⟨⟨fun i hi => h.y i (by rw [bt_ior, hi]; rfl), h.n, h.lt, h.c, h.cl⟩, h.y i0 (by rw [bt_ior, bt_shl h32]; simp)⟩
  · rintro ⟨h, h0⟩
    refine ⟨fun i hi => ?_, h.n, h.lt, h.c, h.cl⟩
    rw [bt_ior, bt_shl h32, Bool.or_eq_true] at hi
    rcases hi with hi | hi
    · exact h.y i hi
    · have : i = i0 := by simpa using hi
      subst this; exact h0
theorem sol_no {s : searchT} {X : Nat → Bool} {Y N most : Int} {i0 : Nat} (h32 : i0 < 32) : Sol s X Y (ior .u32 N (ishl .u32 1 (i0 : Int))) most ↔ Sol s X Y N most ∧ X i0 = false := by
  constructor
  · intro h
    exact ⟨⟨h.y, fun i hi => h.n i (by rw [bt_ior, hi]; rfl), h.lt, h.c, h.cl⟩, h.n i0 (by rw [bt_ior, bt_shl h32]; simp)⟩
  · rintro ⟨h, h0⟩
    refine ⟨h.y, fun i hi => ?_, h.lt, h.c, h.cl⟩
    rw [bt_ior, bt_shl h32, Bool.or_eq_true] at hi
    rcases hi with hi | hi
    · exact h.n i hi
    · have : i = i0 := by simpa using hi
      subst this; exact h0
theorem find_spec {s : searchT} {most : Int} : ∀ (k : Nat) {yes no : Int}, pk_fn_22 k s yes no most = true → u32 yes → u32 no → Found s yes no most (gk_fn_22 k s yes no most)
  | 0, yes, no, hp, _, _ => by rw [pk0_fn_22] at hp; cases hp
  | k + 1, yes, no, hp, hy, hn => by
    unfold pk_fn_22 p_fn_22 at hp
    simp only [Bool.and_eq_true, decide_eq_true_eq] at hp
    obtain ⟨hp, hk⟩ := hp
    have ok := (p36.1 hp).1
    have sp := prop_spec (most := most) hp hy hn
    unfold gk_fn_22
    generalize g_fn_36 s yes no most = r at sp ⊢
    obtain ⟨Y, N, b, u⟩ := r
    cases b with
    | false => exact ⟨fun _ => sp.1 rfl, fun h => Bool.noConfusion h⟩
    | true =>
      have F := sp.2 rfl
      obtain ⟨i0, h1, h32, h3, h4, h5⟩ := tz_first ok F.ok
      show Found s yes no most (cond (decide ((IntKind.wrap .u32 (g_bits_TrailingZeros32 (inot .u32 (ior .u32 Y N)))) ≥ (IntKind.wrap .u32 s.1))) (Y, true, ()) (cond (gk_fn_22 k s (ior .u32 Y (ishl .u32 1 (IntKind.wrap .u32 (g_bits_TrailingZeros32 (inot .u32 (ior .u32 Y N)))))) N most).2.1 ((gk_fn_22 k s (ior .u32 Y (ishl .u32 1 (IntKind.wrap .u32 (g_bits_TrailingZeros32 (inot .u32 (ior .u32 Y N)))))) N most).1, true, ()) ((gk_fn_22 k s Y (ior .u32 N (ishl .u32 1 (IntKind.wrap .u32 (g_bits_TrailingZeros32 (inot .u32 (ior .u32 Y N)))))) most).1, (gk_fn_22 k s Y (ior .u32 N (ishl .u32 1 (IntKind.wrap .u32 (g_bits_TrailingZeros32 (inot .u32 (ior .u32 Y N)))))) most).2.1, ())))
      rw [h1, wrap_n ok]
      cases hd : decide ((i0 : Int) ≥ s.1) with
      | true =>
        have hd := of_decide_eq_true hd
        have dec : ∀ i : Nat, (i : Int) < s.1 → (bt Y i || bt N i) = true := fun i hi => h5 i (by omega)
        refine ⟨fun h => Bool.noConfusion h, fun _ => ⟨F.ok.y, (F.sol _).2 ⟨fun _ h => h, fun i hi => ?_, F.ok.ys, F.pc, fun c hc => ?_⟩, fun X hX => .inl fun i => ?_⟩⟩
        · show bt Y i = false
          cases hb : bt Y i with
          | false => rfl
          | true => exact (F.ok.dj i hb hi).elim
        · have hN : ∀ i, bt N i = true → bt Y i = false := fun i hi => by
            cases hb : bt Y i with
            | false => rfl
            | true => exact (F.ok.dj i hb hi).elim
          obtain ⟨k1, k2⟩ := ok.cl c hc
          rcases F.cl c hc with h | ⟨i, h6, h7⟩ | h
          · exact .inl h
          · exact .inr ⟨i, h6, hN i h7⟩
          · have h : 2 ≤ pc (iandnot .u32 c.1 N) + pc (iandnot .u32 c.2.1 Y) := h
            have hex : (∃ i, bt (iandnot .u32 c.1 N) i = true) ∨ ∃ i, bt (iandnot .u32 c.2.1 Y) i = true := by
              apply Classical.byContradiction
              intro hno
              have e1 : pc (iandnot .u32 c.1 N) = 0 := List.countP_eq_zero.2 fun i _ hi => hno (.inl ⟨i, hi⟩)
              have e2 : pc (iandnot .u32 c.2.1 Y) = 0 := List.countP_eq_zero.2 fun i _ hi => hno (.inr ⟨i, hi⟩)
              omega
            rcases hex with ⟨i, hi⟩ | ⟨i, hi⟩
            · rw [bt_iandnot, Bool.and_eq_true, Bool.not_eq_true'] at hi
              have := dec i (k1 i hi.1)
              rw [hi.2, Bool.or_false] at this
              exact .inl ⟨i, hi.1, this⟩
            · rw [bt_iandnot, Bool.and_eq_true, Bool.not_eq_true'] at hi
              exact .inr ⟨i, hi.1, hi.2⟩
        · have hs := (F.sol X).1 hX
          show X i = bt Y i
          cases hb : bt Y i with
          | true => exact hs.y i hb
          | false =>
            cases hx : X i with
            | false => rfl
            | true =>
              have := dec i (hs.lt i hx)
              rw [hb, Bool.false_or] at this
              rw [hs.n i this] at hx; cases hx
      | false =>
        have hd := of_decide_eq_false hd
        rw [cond_false]
        obtain ⟨q1, q2⟩ := find_step (k := k) ok F.toGood (i0 := i0) (by omega) h3 h4 (by omega)
        have f1 := find_spec k q1 (u32_ior _ _) F.ok.n
        have f2 := find_spec k q2 F.ok.y (u32_ior _ _)
        have low : ∀ {X X' : Nat → Bool}, Sol s X Y N most → Sol s X' Y N most → ∀ j, j < i0 → X j = X' j := fun {X X'} hx hx' j hj => by
          have := h5 j hj
          rw [Bool.or_eq_true] at this
          rcases this with h | h
          · rw [hx.y j h, hx'.y j h]
          · rw [hx.n j h, hx'.n j h]
        cases hr : (gk_fn_22 k s (ior .u32 Y (ishl .u32 1 (i0 : Int))) N most).2.1 with
        | true =>
          obtain ⟨g1, g2, g3⟩ := f1.2 hr
          have g4 := (sol_yes h32).1 g2
          refine ⟨fun h => Bool.noConfusion h, fun _ => ⟨g1, (F.sol _).2 g4.1, fun X hX => ?_⟩⟩
          have hs := (F.sol X).1 hX
          cases hx : X i0 with
          | true => exact g3 X ((sol_yes h32).2 ⟨hs, hx⟩)
          | false => exact .inr ⟨i0, g4.2, hx, fun j hj => low g4.1 hs j hj⟩
        | false =>
          have none1 : ∀ X, Sol s X Y N most → X i0 = false := fun X hs => by
            cases hx : X i0 with
            | false => rfl
            | true => exact (f1.1 hr X ((sol_yes h32).2 ⟨hs, hx⟩)).elim
          refine ⟨fun h X hX => ?_, fun h => ?_⟩
          · have hs := (F.sol X).1 hX
            exact f2.1 h X ((sol_no h32).2 ⟨hs, none1 X hs⟩)
          · obtain ⟨g1, g2, g3⟩ := f2.2 h
            refine ⟨g1, (F.sol _).2 ((sol_no h32).1 g2).1, fun X hX => ?_⟩
            have hs := (F.sol X).1 hX
            exact g3 X ((sol_no h32).2 ⟨hs, none1 X hs⟩)
def e_fn_22 : Ent := ⟨22, [.st searchS, .one (.int .u32), .one (.int .u32), .one (.int .i64)], [.one (.int .u32), .one .bool], fun x => p_fn_22 x.1 x.2.1 x.2.2.1 x.2.2.2.1, fun x => g_fn_22 x.1 x.2.1 x.2.2.1 x.2.2.2.1⟩
def ek_fn_22 (k : Nat) : Ent := { e_fn_22 with pre := fun x => pk_fn_22 k x.1 x.2.1 x.2.2.1 x.2.2.2.1, g := fun x => gk_fn_22 k x.1 x.2.1 x.2.2.1 x.2.2.2.1 }
/-- Without its least bit. -/
theorem low_off {x : Int} {i : Nat} (h : bt x i = true) (hl : ∀ j, j < i → bt x j = false) (j : Nat) : bt (iand .u32 x (IntKind.wrap .u32 (x - 1))) j = (bt x j && decide (j ≠ i)) := by
  rw [bt_iand, bt_wrap]
  rcases Nat.lt_or_ge j 32 with hj | hj
  · have e : B (x - 1) = ~~~ (- B x) := by
      have e1 : B (x - 1) = B x - 1#32 := by
        have : x - 1 = x + (-1) := by omega
        rw [this]
        show BitVec.ofInt 32 (x + -1) = _
        rw [BitVec.ofInt_add, BitVec.sub_eq_add_neg]
        rfl
      rw [e1]
      have := BitVec.neg_eq_not_add (B x)
      bv_omega
    have hn : bt (x - 1) j = !(bt x j ^^ decide (∃ k, k < j ∧ bt x k = true)) := by
      unfold bt
      rw [e, BitVec.getLsbD_not, BitVec.getLsbD_neg]
      simp [hj]
    rw [hn]
    rcases Nat.lt_trichotomy j i with h1 | h1 | h1
    · rw [hl j h1]; rfl
    · subst h1
      have : ¬ ∃ k, k < j ∧ bt x k = true := fun ⟨k, h2, h3⟩ => by rw [hl k h2] at h3; cases h3
      rw [h]; simp [this]
    · have : ∃ k, k < j ∧ bt x k = true := ⟨i, h1, h⟩
      have h2 : j ≠ i := by omega
      cases bt x j <;> simp [this, h2]
  · rw [bt_big hj]; rfl
theorem low_pc {x : Int} (hx : u32 x) (h : (x != 0) = true) : pc (iand .u32 x (IntKind.wrap .u32 (x - 1))) + 1 ≤ pc x := by
  obtain ⟨i, _, h1, h2⟩ := least_ex hx (by simpa using h)
  have := pc_lt (x := iand .u32 x (IntKind.wrap .u32 (x - 1))) (y := x) (fun j hj => by rw [low_off h1 h2] at hj; simp at hj; exact hj.1) (i := i) (by rw [low_off h1 h2]; simp) h1
  omega
def ElI (c : Nat) (v : Int × List Ti64T) : Prop := u32 v.1 ∧ pc v.1 + c ≤ 32 ∧ v.2.length ≤ c
theorem el_p {c : Nat} {v : Int × List Ti64T} {x : Ti64T} (h : ElI c v) (hne : (v.1 != 0) = true) : ElI (c + 1) (iand .u32 v.1 (IntKind.wrap .u32 (v.1 - 1)), v.2 ++ [x]) := by
  obtain ⟨h1, h2, h3⟩ := h
  have h7 := low_pc h1 hne
  refine ⟨u32_iand _ _, by show pc (iand .u32 v.1 (IntKind.wrap .u32 (v.1 - 1))) + (c + 1) ≤ 32; omega, ?_⟩
  show (v.2 ++ [x]).length ≤ c + 1
  rw [List.length_append]
  exact Nat.succ_le_succ h3
def S_minsat_elements_0 (_s : Int) (v00 : Int) (v20 : List Ti64T) : List Ti64T := upS (fun c0 (s0 : Int × (List Ti64T)) => fun (next0 : (Int × (List Ti64T)) → (List Ti64T)) => cond (s0.1 != 0) (next0 ((iand .u32 s0.1 (IntKind.wrap .u32 (s0.1 - 1))), (s0.2 ++ [((g_bits_TrailingZeros32 s0.1), ())]))) (segL s0.2 0 (List.length s0.2))) (fun (s0 : Int × (List Ti64T)) => []) (33 - 0) 0 (v00, v20)
def g_minsat_elements (s : Int) : List Ti64T := (S_minsat_elements_0 s s [])
def e_minsat_elements : Ent := ⟨23, [.one (.int .u32)], [.one (.sl Ti64S)], fun _ => true, fun x => (g_minsat_elements x.1, ())⟩
theorem fi_iff {f : Nat → Bool} : ∀ (m s : Nat), (0 ≤ upV (fun c x => cond (f c) (c : Int) x) (-1) m s) ↔ ∃ c, s ≤ c ∧ c < s + m ∧ f c = true
  | 0, s => ⟨fun h => by simp [upV] at h, fun ⟨c, h1, h2, _⟩ => by omega⟩
  | m + 1, s => by
    simp only [upV]
    cases hf : f s with
    | true => exact ⟨fun _ => ⟨s, Nat.le_refl _, by omega, hf⟩, fun _ => by simp⟩
    | false =>
      rw [cond_false, fi_iff m (s + 1)]
      constructor
      · rintro ⟨c, h1, h2, h3⟩; exact ⟨c, by omega, by omega, h3⟩
      · rintro ⟨c, h1, h2, h3⟩
        refine ⟨c, ?_, by omega, h3⟩
        rcases Nat.eq_or_lt_of_le h1 with h | h
        · subst h; rw [hf] at h3; cases h3
        · exact h
theorem all_iff {f : Nat → Bool} : ∀ (m s : Nat), (upV (fun c (x : Int) => cond (f c) 1 x) 0 m s = 0) ↔ ∀ c, s ≤ c → c < s + m → f c = false
  | 0, s => ⟨fun _ c h1 h2 => by omega, fun _ => rfl⟩
  | m + 1, s => by
    simp only [upV]
    cases hf : f s with
    | true => exact ⟨fun h => by simp at h, fun h => by have := h s (Nat.le_refl _) (by omega); rw [hf] at this; cases this⟩
    | false =>
      rw [cond_false, all_iff m (s + 1)]
      constructor
      · intro h c h1 h2
        rcases Nat.eq_or_lt_of_le h1 with h3 | h3
        · subst h3; exact hf
        · exact h c h3 (by omega)
      · intro h c h1 h2; exact h c (by omega) (by omega)
theorem contains_iff {l : List Ti64T} {n : Int} : g_slices_ContainsFunc_int_minsat_Check_1 l n = false ↔ ∀ x ∈ l, 0 ≤ x.1 ∧ x.1 < n := by
  unfold g_slices_ContainsFunc_int_minsat_Check_1 g_slices_IndexFunc_int_minsat_Check_1 S_slices_IndexFunc_int_minsat_Check_1_0
  have key := fi_iff (f := fun c => g_minsat_Check_1 (List.getD l c Ti64D).1 (n, ())) (l.length - 0) 0
  constructor
  · intro h x hx
    have h1 := of_decide_eq_false h
    obtain ⟨c, hc, rfl⟩ := List.mem_iff_getElem.1 hx
    have h2 : g_minsat_Check_1 (List.getD l c Ti64D).1 (n, ()) = false := by
      cases hb : g_minsat_Check_1 (List.getD l c Ti64D).1 (n, ()) with
      | false => rfl
      | true => exact (h1 (key.2 ⟨c, Nat.zero_le _, by omega, hb⟩)).elim
    unfold g_minsat_Check_1 at h2
    simp only [Bool.or_eq_false_iff, decide_eq_false_iff_not] at h2
    have e : List.getD l c Ti64D = l[c] := by simp [List.getD, hc]
    rw [e] at h2
    omega
  · intro h
    refine decide_eq_false fun h1 => ?_
    obtain ⟨c, _, hc, hb⟩ := key.1 h1
    have := h _ (getD_mem (show c < l.length by omega) Ti64D)
    unfold g_minsat_Check_1 at hb
    simp only [Bool.or_eq_true, decide_eq_true_eq] at hb
    omega
structure Chk (n : Int) (cs : List ConstraintT) : Prop where
  n0 : 0 ≤ n
  n1 : n ≤ 24
  len : cs.length ≤ 64
  el : ∀ c ∈ cs, (∀ x ∈ c.1, 0 ≤ x.1 ∧ x.1 < n) ∧ ∀ x ∈ c.2.1, 0 ≤ x.1 ∧ x.1 < n
theorem check_iff {n : Int} {cs : List ConstraintT} : g_minsat_Check n cs = 0 ↔ Chk n cs := by
  unfold g_minsat_Check
  cases h0 : decide (n < 0) with
  | true => exact ⟨fun h => by simp at h, fun h => by have := h.n0; have := of_decide_eq_true h0; omega⟩
  | false =>
    rw [cond_false]
    cases h1 : (decide (n > 24)) || (decide ((cs.length : Int) > 64)) with
    | true =>
      simp only [Bool.or_eq_true, decide_eq_true_eq] at h1
      exact ⟨fun h => by simp at h, fun h => by have := h.n1; have := h.len; omega⟩
    | false =>
      simp only [Bool.or_eq_false_iff, decide_eq_false_iff_not] at h1 h0
      rw [cond_false]
      unfold S_minsat_Check_0
      rw [all_iff (f := fun c0 => (g_slices_ContainsFunc_int_minsat_Check_1 (List.getD cs c0 ConstraintD).1 n) || (g_slices_ContainsFunc_int_minsat_Check_1 (List.getD cs c0 ConstraintD).2.1 n))]
      constructor
      · intro h
        refine ⟨by omega, by omega, by omega, fun c hc => ?_⟩
        obtain ⟨k, hk, rfl⟩ := List.mem_iff_getElem.1 hc
        have h2 := h k (Nat.zero_le _) (by omega)
        have e : List.getD cs k ConstraintD = cs[k] := by simp [List.getD, hk]
        rw [e, Bool.or_eq_false_iff] at h2
        exact ⟨contains_iff.1 h2.1, contains_iff.1 h2.2⟩
      · intro h c _ hc
        have := h.el _ (getD_mem (show c < cs.length by omega) ConstraintD)
        rw [Bool.or_eq_false_iff]
        exact ⟨contains_iff.2 this.1, contains_iff.2 this.2⟩
theorem upS_fold {α S R : Type} {f : S → α → S} {d : α} {r : S → R} (l : List α) : ∀ (m s : Nat) (v : S), s + m = l.length → upS (fun c v next => next (f v (List.getD l c d))) r m s v = r ((l.drop s).foldl f v)
  | 0, s, v, h => by
    have : l.drop s = [] := List.drop_eq_nil_of_le (by omega)
    rw [this]; rfl
  | m + 1, s, v, h => by
    simp only [upS]
    rw [upS_fold l m (s + 1) _ (by omega), drop_at (show s < l.length by omega) d]
    rfl
theorem upS_set {α β R : Type} {g : α → β} {d : α} {r : List β → R} (l : List α) : ∀ (m s : Nat) (v : List β), s + m = l.length → v.length = l.length → upS (fun c v next => next (List.set v c (g (List.getD l c d)))) r m s v = r (v.take s ++ (l.drop s).map g)
  | 0, s, v, h, hv => by
    have : l.drop s = [] := List.drop_eq_nil_of_le (by omega)
    rw [this, List.take_of_length_le (by omega)]; simp [upS]
  | m + 1, s, v, h, hv => by
    simp only [upS]
    rw [upS_set l m (s + 1) _ (by omega) (by simpa using hv), drop_at (show s < l.length by omega) d]
    congr 1
    rw [List.take_succ_eq_append_getElem (by rw [List.length_set]; omega), List.take_set_of_le (Nat.le_refl _)]
    simp
theorem mask_eq (l : List Ti64T) : g_minsat_mask l = l.foldl (fun v x => ior .u32 v (ishl .u32 1 x.1)) 0 := by
  unfold g_minsat_mask S_minsat_mask_0
  exact upS_fold (f := fun v (x : Ti64T) => ior .u32 v (ishl .u32 1 x.1)) (d := Ti64D) (r := fun v => v) l (l.length - 0) 0 0 (by omega)
theorem mask_go (l : List Ti64T) (hl : ∀ x ∈ l, 0 ≤ x.1 ∧ x.1 < 32) (v : Int) (hv : u32 v) : u32 (l.foldl (fun v x => ior .u32 v (ishl .u32 1 x.1)) v) ∧ ∀ i : Nat, bt (l.foldl (fun v x => ior .u32 v (ishl .u32 1 x.1)) v) i = true ↔ bt v i = true ∨ ∃ x ∈ l, x.1 = (i : Int) := by
  induction l generalizing v with
  | nil => exact ⟨hv, fun i => by simp⟩
  | cons a l ih =>
    obtain ⟨h0, h1⟩ := hl a (List.mem_cons_self ..)
    obtain ⟨k, hk⟩ := Int.eq_ofNat_of_zero_le h0
    obtain ⟨g1, g2⟩ := ih (fun x hx => hl x (List.mem_cons_of_mem _ hx)) (ior .u32 v (ishl .u32 1 a.1)) (u32_ior _ _)
    refine ⟨g1, fun i => ?_⟩
    rw [List.foldl_cons, g2, bt_ior, hk, bt_shl (by omega)]
    simp only [Bool.or_eq_true, decide_eq_true_eq, List.mem_cons, exists_eq_or_imp]
    rw [hk]
    constructor
    · rintro ((h | h) | h)
      · exact .inl h
      · exact .inr (.inl (by omega))
      · exact .inr (.inr h)
    · rintro (h | h | h)
      · exact .inl (.inl h)
      · exact .inl (.inr (by omega))
      · exact .inr h
theorem mask_bt {l : List Ti64T} (hl : ∀ x ∈ l, 0 ≤ x.1 ∧ x.1 < 32) (i : Nat) : bt (g_minsat_mask l) i = true ↔ ∃ x ∈ l, x.1 = (i : Int) := by
  rw [mask_eq, (mask_go l hl 0 u32_zero).2 i, bt_zero]
  simp
theorem clauses_eq (cs : List ConstraintT) : g_minsat_clauses cs = cs.map fun c => (g_minsat_mask c.1, g_minsat_mask c.2.1, ()) := by
  unfold g_minsat_clauses S_minsat_clauses_0
  rw [upS_set (g := fun c : ConstraintT => ((g_minsat_mask c.1, g_minsat_mask c.2.1, ()) : clauseT)) (d := ConstraintD) (r := fun v1 => segL v1 0 (Int.toNat (cs.length : Int))) cs (cs.length - 0) 0 _ (by omega) (by simp)]
  simp only [segL, List.drop_zero, List.take_zero, List.nil_append, Int.toNat_natCast]
  rw [List.take_of_length_le (by simp)]
theorem Chk.okc {n : Int} {cs : List ConstraintT} (h : Chk n cs) {l : List clauseT} (hl : ∀ c ∈ l, c ∈ g_minsat_clauses cs) : Okc (n, l, ()) := by
  have h1 := h.n1
  refine ⟨h.n0, h.n1, fun c hc => ?_⟩
  have := hl c hc
  rw [clauses_eq] at this
  obtain ⟨d, hd, rfl⟩ := List.mem_map.1 this
  obtain ⟨k1, k2⟩ := h.el d hd
  have b1 : ∀ x ∈ d.1, 0 ≤ x.1 ∧ x.1 < 32 := fun x hx => ⟨(k1 x hx).1, by have := (k1 x hx).2; omega⟩
  have b2 : ∀ x ∈ d.2.1, 0 ≤ x.1 ∧ x.1 < 32 := fun x hx => ⟨(k2 x hx).1, by have := (k2 x hx).2; omega⟩
  refine ⟨fun i hi => ?_, fun i hi => ?_⟩
  · obtain ⟨x, hx, he⟩ := (mask_bt b1 i).1 hi
    have := (k1 x hx).2
    show (i : Int) < n
    omega
  · obtain ⟨x, hx, he⟩ := (mask_bt b2 i).1 hi
    have := (k2 x hx).2
    show (i : Int) < n
    omega
theorem Chk.pfind {n : Int} {cs : List ConstraintT} (h : Chk n cs) {l : List clauseT} (hl : ∀ c ∈ l, c ∈ g_minsat_clauses cs) (most : Int) : p_fn_22 (n, l, ()) 0 0 most = true :=
  p36.2 ⟨h.okc hl, fun i hi => (by rw [bt_zero] at hi; cases hi), fun i hi => (by rw [bt_zero] at hi; cases hi), fun i hi => (by rw [bt_zero] at hi; cases hi)⟩
theorem Chk.pcl {n : Int} {cs : List ConstraintT} (h : Chk n cs) : p_minsat_clauses cs = true := by
  unfold p_minsat_clauses p_minsat_mask
  simp only [Bool.and_eq_true, decide_eq_true_eq, List.all_eq_true]
  exact ⟨by have := h.len; omega, fun c hc => ⟨fun x hx => ((h.el c hc).1 x hx).1, fun x hx => ((h.el c hc).2 x hx).1⟩⟩
theorem chk_of {n : Int} {cs : List ConstraintT} (h : ((g_minsat_Check n cs) != 0) = false) : Chk n cs := check_iff.1 (by simpa using h)
def S_minsat_Minimum_0 (n : Int) (cs : List ConstraintT) : (List Ti64T) × Int × Unit := upV (fun c0 next0 => cond (g_fn_22 (n, (g_minsat_clauses cs), ()) 0 0 (c0 : Int)).2.1 ((g_minsat_elements (g_fn_22 (n, (g_minsat_clauses cs), ()) 0 0 (c0 : Int)).1), 0, ()) next0) (([], 8, ())) ((Int.toNat (IntKind.wrap .i64 (n + 1))) - 0) 0
def g_minsat_Minimum (n : Int) (cs : List ConstraintT) : (List Ti64T) × Int × Unit := cond ((g_minsat_Check n cs) != 0) ([], (g_minsat_Check n cs), ()) (cond (!(g_fn_22 (n, (g_minsat_clauses cs), ()) 0 0 n).2.1) ([], 8, ()) (S_minsat_Minimum_0 n cs))
def e_minsat_Minimum : Ent := ⟨11, [.one (.int .i64), .one (.sl ConstraintS)], [.one (.sl Ti64S), .one (.int .i64)], fun _ => true, fun x => g_minsat_Minimum x.1 x.2.1⟩
def S_keep_Ints_0 (a : List Ti64T) (b : List Ti64T) : Bool := upV (fun c0 next0 => cond ((List.getD a c0 Ti64D).1 != (List.getD b c0 Ti64D).1) false next0) (true) (a.length - 0) 0
def g_keep_Ints (a : List Ti64T) (b : List Ti64T) : Bool := cond ((a.length : Int) != (b.length : Int)) false (S_keep_Ints_0 a b)
def e_keep_Ints : Ent := ⟨14, [.one (.sl Ti64S), .one (.sl Ti64S)], [.one .bool], fun _ => true, fun x => (g_keep_Ints x.1 x.2.1, ())⟩
def p_slices_DeleteFunc_int (s : List Ti64T) (__ : Int) : Bool := decide (s.length ≤ 1048576)
theorem ixc {n : Nat} {f : Nat → Bool} : ∀ (m s : Nat), s + m = n → (upV (fun c x => cond (f c) (c : Int) x) (-1) m s = -1 ∨ (0 ≤ upV (fun c x => cond (f c) (c : Int) x) (-1) m s ∧ upV (fun c x => cond (f c) (c : Int) x) (-1) m s < (n : Int)))
  | 0, s, h => .inl rfl
  | m + 1, s, h => by
    simp only [upV]
    cases f s with
    | true => right; simp only [cond_true]; omega
    | false => exact ixc m (s + 1) (by omega)
theorem ix_Core_1 (s : List Ti64T) (i : Int) : g_slices_IndexFunc_int_minsat_Core_1 s i = -1 ∨ (0 ≤ g_slices_IndexFunc_int_minsat_Core_1 s i ∧ g_slices_IndexFunc_int_minsat_Core_1 s i < (s.length : Int)) := by
  exact ixc (f := fun c => g_minsat_Core_1 (List.getD s c Ti64D).1 (i, ())) s.length 0 (by omega)
theorem seg_all {α : Type} (s : List α) : segL s 0 s.length = s := by simp [segL]
theorem p_del {s : List Ti64T} {i : Int} (h : p_slices_DeleteFunc_int s i = true) : s.length ≤ 1048576 := by simpa [p_slices_DeleteFunc_int] using h
theorem del_e {s : List Ti64T} {i : Int} (hp : p_slices_DeleteFunc_int s i = true) (h0 : ((g_slices_IndexFunc_int_minsat_Core_1 (segL s 0 s.length) i) == (-1)) = false) :
    0 ≤ g_slices_IndexFunc_int_minsat_Core_1 (segL s 0 s.length) i ∧ g_slices_IndexFunc_int_minsat_Core_1 (segL s 0 s.length) i < IntKind.wrap .i64 (g_slices_IndexFunc_int_minsat_Core_1 (segL s 0 s.length) i + 1) ∧ ((0 : Nat) : Int) + 1 ≤ IntKind.wrap .i64 (g_slices_IndexFunc_int_minsat_Core_1 (segL s 0 s.length) i + 1) ∧
      IntKind.wrap .i64 (g_slices_IndexFunc_int_minsat_Core_1 (segL s 0 s.length) i + 1) ≤ (s.length : Int) ∧ s.length = s.length := by
  have hl := p_del hp
  rw [seg_all] at h0 ⊢
  rcases ix_Core_1 s i with h | h
  · rw [h] at h0; cases h0
  · rw [w64 (by omega) (by omega)]
    omega
def DelI (s : List Ti64T) (c : Nat) (v : Int × Int × List Ti64T) : Prop := 0 ≤ v.1 ∧ v.1 < v.2.1 ∧ (c : Int) + 1 ≤ v.2.1 ∧ v.2.1 ≤ (s.length : Int) ∧ v.2.2.length = s.length
theorem del_w {s : List Ti64T} {i : Int} (hp : p_slices_DeleteFunc_int s i = true) {c : Nat} {v : Int × Int × List Ti64T} (h : DelI s c v) (h1 : decide (v.2.1 < (s.length : Int)) = true) : IntKind.wrap .i64 (v.1 + 1) = v.1 + 1 ∧ IntKind.wrap .i64 (v.2.1 + 1) = v.2.1 + 1 := by
  have hl := p_del hp
  obtain ⟨a1, a2, a3, a4, a5⟩ := h
  have := of_decide_eq_true h1
  exact ⟨w64 (by omega) (by omega), w64 (by omega) (by omega)⟩
theorem del_p1 {s : List Ti64T} {i : Int} (hp : p_slices_DeleteFunc_int s i = true) {c : Nat} {v : Int × Int × List Ti64T} (h : DelI s c v) (h1 : decide (v.2.1 < (s.length : Int)) = true) {k : Nat} {x : Ti64T} : DelI s (c + 1) (IntKind.wrap .i64 (v.1 + 1), IntKind.wrap .i64 (v.2.1 + 1), v.2.2.set k x) := by
  obtain ⟨w1, w2⟩ := del_w hp h h1
  rw [w1, w2]
  obtain ⟨a1, a2, a3, a4, a5⟩ := h
  have := of_decide_eq_true h1
  refine ⟨?_, ?_, ?_, ?_, by rw [List.length_set]; exact a5⟩ <;> (try simp only) <;> omega
theorem del_p2 {s : List Ti64T} {i : Int} (hp : p_slices_DeleteFunc_int s i = true) {c : Nat} {v : Int × Int × List Ti64T} (h : DelI s c v) (h1 : decide (v.2.1 < (s.length : Int)) = true) : DelI s (c + 1) (v.1, IntKind.wrap .i64 (v.2.1 + 1), v.2.2) := by
  obtain ⟨w1, w2⟩ := del_w hp h h1
  rw [w2]
  obtain ⟨a1, a2, a3, a4, a5⟩ := h
  have := of_decide_eq_true h1
  refine ⟨a1, ?_, ?_, ?_, a5⟩ <;> (try simp only) <;> omega
def S_slices_DeleteFunc_int_0 (s : List Ti64T) (del_0 : Int) (v00 : Int) (v10 : Int) (v20 : List Ti64T) : List Ti64T := upS (fun c0 (s0 : Int × Int × (List Ti64T)) => fun (next0 : (Int × Int × (List Ti64T)) → (List Ti64T)) => cond (decide (s0.2.1 < (s.length : Int))) (cond (!(g_minsat_Core_1 (List.getD s0.2.2 (0 + (Int.toNat s0.2.1)) Ti64D).1 (del_0, ()))) (next0 ((IntKind.wrap .i64 (s0.1 + 1)), (IntKind.wrap .i64 (s0.2.1 + 1)), (List.set s0.2.2 (0 + (Int.toNat s0.1)) (List.getD s0.2.2 (0 + (Int.toNat s0.2.1)) Ti64D)))) (next0 (s0.1, (IntKind.wrap .i64 (s0.2.1 + 1)), s0.2.2))) (List.take (Int.toNat s0.1 - Int.toNat 0) (clrL Ti64D s0.2.2 (0 + (Int.toNat s0.1)) (Int.toNat (s.length : Int) - Int.toNat s0.1)))) (fun (s0 : Int × Int × (List Ti64T)) => []) ((s.length + 1) - 0) 0 (v00, v10, v20)
def g_slices_DeleteFunc_int (s : List Ti64T) (del_0 : Int) : List Ti64T := cond ((g_slices_IndexFunc_int_minsat_Core_1 (segL s 0 s.length) del_0) == (-1)) (List.take s.length s) (S_slices_DeleteFunc_int_0 s del_0 (g_slices_IndexFunc_int_minsat_Core_1 (segL s 0 s.length) del_0) (IntKind.wrap .i64 ((g_slices_IndexFunc_int_minsat_Core_1 (segL s 0 s.length) del_0) + 1)) s)
def e_slices_DeleteFunc_int : EntO := ⟨26, [.own Ti64S, .p (.clo 28 [Ti64S])], Ti64S, fun x => p_slices_DeleteFunc_int x.1 x.2.1.1.1, fun x => g_slices_DeleteFunc_int x.1 x.2.1.1.1⟩
def g_slices_Clone_int (s : List Ti64T) : List Ti64T := s
def p_slices_Clone_int (s : List Ti64T) : Bool := decide (s.length ≤ roomy)
def e_slices_Clone_int : EntO := ⟨27, [.p (.one (.sl Ti64S))], Ti64S, fun x => p_slices_Clone_int x.1, fun x => g_slices_Clone_int x.1⟩
theorem fi_first {f : Nat → Bool} : ∀ (m s : Nat), (upV (fun c x => cond (f c) (c : Int) x) (-1) m s = -1 ∧ ∀ c, s ≤ c → c < s + m → f c = false) ∨ ∃ c0 : Nat, upV (fun c x => cond (f c) (c : Int) x) (-1) m s = (c0 : Int) ∧ s ≤ c0 ∧ c0 < s + m ∧ f c0 = true ∧ ∀ c, s ≤ c → c < c0 → f c = false
  | 0, s => .inl ⟨rfl, fun c h1 h2 => by omega⟩
  | m + 1, s => by
    simp only [upV]
    cases hf : f s with
    | true => exact .inr ⟨s, rfl, Nat.le_refl _, by omega, hf, fun c h1 h2 => by omega⟩
    | false =>
      rw [cond_false]
      have ext : ∀ {P : Nat → Prop}, (∀ c, s + 1 ≤ c → P c → f c = false) → ∀ c, s ≤ c → P c → f c = false := fun {P} h c h1 h2 => by
        rcases Nat.eq_or_lt_of_le h1 with h3 | h3
        · subst h3; exact hf
        · exact h c h3 h2
      rcases fi_first (f := f) m (s + 1) with ⟨h1, h2⟩ | ⟨c0, h1, h2, h3, h4, h5⟩
      · exact .inl ⟨h1, fun c a b => ext (P := fun c => c < s + (m + 1)) (fun c a b => h2 c a (by omega)) c a b⟩
      · exact .inr ⟨c0, h1, by omega, by omega, h4, fun c a b => ext (P := fun c => c < c0) (fun c a b => h5 c a b) c a b⟩
abbrev dl (i : Int) (x : Ti64T) : Bool := !(x.1 == i)
theorem del_keep {s : List Ti64T} {i : Int} {c : Nat} (hc : c < s.length) (h : g_minsat_Core_1 (List.getD s c Ti64D).1 (i, ()) = false) : dl i s[c] = true := by
  have e : List.getD s c Ti64D = s[c] := by simp [List.getD, hc]
  rw [e] at h
  show (!(s[c].1 == i)) = true
  have : (s[c].1 == i) = false := h
  rw [this]; rfl
theorem del_drop {s : List Ti64T} {i : Int} {c : Nat} (hc : c < s.length) (h : g_minsat_Core_1 (List.getD s c Ti64D).1 (i, ()) = true) : dl i s[c] = false := by
  have e : List.getD s c Ti64D = s[c] := by simp [List.getD, hc]
  rw [e] at h
  show (!(s[c].1 == i)) = false
  have : (s[c].1 == i) = true := h
  rw [this]; rfl
theorem filt_all {s : List Ti64T} {i : Int} : ∀ (k : Nat), k ≤ s.length → (∀ c, c < k → g_minsat_Core_1 (List.getD s c Ti64D).1 (i, ()) = false) → (s.take k).filter (dl i) = s.take k
  | 0, _, _ => by simp
  | k + 1, hk, h => by
    rw [List.take_succ_eq_append_getElem (by omega), List.filter_append, filt_all k (by omega) fun c hc => h c (by omega)]
    rw [List.filter_cons, del_keep (by omega) (h k (by omega))]
    simp
theorem delete_eq {s : List Ti64T} {i : Int} (hp : p_slices_DeleteFunc_int s i = true) : g_slices_DeleteFunc_int s i = s.filter (dl i) := by
  have hl := p_del hp
  unfold g_slices_DeleteFunc_int
  cases h0 : (g_slices_IndexFunc_int_minsat_Core_1 (segL s 0 s.length) i) == (-1) with
  | true =>
    rw [cond_true, List.take_length]
    have h1 := eq_of_beq h0
    rw [seg_all] at h1
    rcases fi_first (f := fun c => g_minsat_Core_1 (List.getD s c Ti64D).1 (i, ())) (s.length - 0) 0 with ⟨_, h2⟩ | ⟨c0, h2, _⟩
    · have := filt_all s.length (Nat.le_refl _) fun c hc => h2 c (Nat.zero_le _) (by omega)
      rw [List.take_length] at this
      exact this.symm
    · have : g_slices_IndexFunc_int_minsat_Core_1 s i = (c0 : Int) := h2
      rw [this] at h1; omega
  | false =>
    rw [cond_false]
    have hd := del_e hp h0
    rw [seg_all] at hd h0 ⊢
    unfold S_slices_DeleteFunc_int_0
    refine upS_ind (P := fun r => r = s.filter (dl i)) (I := fun c (v : Int × Int × List Ti64T) => DelI s c v ∧ v.2.2.take v.1.toNat = (s.take v.2.1.toNat).filter (dl i) ∧ v.2.2.drop v.2.1.toNat = s.drop v.2.1.toNat) (s.length + 1 - 0) 0 (fun v hI => ?_) (fun c _ hc next hnext v hI => ?_) _ ⟨hd, ?_, rfl⟩
    · obtain ⟨⟨a1, a2, a3, a4, a5⟩, _⟩ := hI
      omega
    · obtain ⟨hD, e1, e2⟩ := hI
      have hD2 := hD
      obtain ⟨a1, a2, a3, a4, a5⟩ := hD2
      obtain ⟨x, y, l⟩ := v
      simp only at a1 a2 a3 a4 a5 e1 e2 hD
      obtain ⟨a, rfl⟩ := Int.eq_ofNat_of_zero_le a1
      obtain ⟨b, rfl⟩ := Int.eq_ofNat_of_zero_le (show 0 ≤ y by omega)
      simp only [Int.toNat_natCast] at e1 e2
      show cond (decide ((b : Int) < (s.length : Int))) (cond (!(g_minsat_Core_1 (List.getD l (0 + (Int.toNat (b : Int))) Ti64D).1 (i, ()))) (next ((IntKind.wrap .i64 ((a : Int) + 1)), (IntKind.wrap .i64 ((b : Int) + 1)), (List.set l (0 + (Int.toNat (a : Int))) (List.getD l (0 + (Int.toNat (b : Int))) Ti64D)))) (next ((a : Int), (IntKind.wrap .i64 ((b : Int) + 1)), l))) (List.take (Int.toNat (a : Int) - Int.toNat 0) (clrL Ti64D l (0 + (Int.toNat (a : Int))) (Int.toNat (s.length : Int) - Int.toNat (a : Int)))) = s.filter (dl i)
      simp only [Int.toNat_natCast, Nat.zero_add]
      cases hb : decide ((b : Int) < (s.length : Int)) with
      | false =>
        have hb := of_decide_eq_false hb
        have hbe : b = s.length := by omega
        rw [cond_false]
        have h7 : (0 : Int).toNat = 0 := rfl
        rw [h7, Nat.sub_zero]
        unfold clrL
        rw [List.append_assoc, List.take_append_of_le_length (by simp; omega), List.take_take, Nat.min_self, e1, hbe, List.take_length]
      | true =>
        have hb' := of_decide_eq_true hb
        have hbl : b < s.length := by omega
        have hg : List.getD l b Ti64D = List.getD s b Ti64D := by
          have h1 : (l.drop b)[0]? = (s.drop b)[0]? := by rw [e2]
          rw [List.getElem?_drop, List.getElem?_drop] at h1
          simp only [Nat.add_zero] at h1
          simp [List.getD, h1]
        have hdrop : l.drop (b + 1) = s.drop (b + 1) := by
          have := congrArg (List.drop 1) e2
          rwa [List.drop_drop, List.drop_drop] at this
        rw [cond_true, hg]
        obtain ⟨w1, w2⟩ := del_w hp hD hb
        simp only at w1 w2
        cases hk : g_minsat_Core_1 (List.getD s b Ti64D).1 (i, ()) with
        | false =>
          rw [Bool.not_false, cond_true]
          refine hnext _ ⟨del_p1 hp hD hb, ?_, ?_⟩
          · rw [w1, w2]
            have t1 : (((a : Int) + 1).toNat) = a + 1 := by omega
            have t2 : (((b : Int) + 1).toNat) = b + 1 := by omega
            simp only [t1, t2]
            have : List.getD s b Ti64D = s[b] := by simp [List.getD, hbl]
            rw [this, List.take_succ_eq_append_getElem (by rw [List.length_set]; omega), List.take_set_of_le (Nat.le_refl _), e1, List.take_succ_eq_append_getElem hbl, List.filter_append, List.filter_cons, del_keep hbl hk]
            simp
          · rw [w2]
            have t2 : (((b : Int) + 1).toNat) = b + 1 := by omega
            simp only [t2]
            rw [List.drop_set_of_lt (by omega)]
            exact hdrop
        | true =>
          rw [Bool.not_true, cond_false]
          refine hnext _ ⟨del_p2 hp hD hb, ?_, ?_⟩
          · rw [w2]
            have t2 : (((b : Int) + 1).toNat) = b + 1 := by omega
            simp only [t2, Int.toNat_natCast]
            rw [e1, List.take_succ_eq_append_getElem hbl, List.filter_append, List.filter_cons, del_drop hbl hk]
            simp
          · rw [w2]
            have t2 : (((b : Int) + 1).toNat) = b + 1 := by omega
            simp only [t2]
            exact hdrop
    · rcases fi_first (f := fun c => g_minsat_Core_1 (List.getD s c Ti64D).1 (i, ())) (s.length - 0) 0 with ⟨h2, _⟩ | ⟨c0, h2, _, h3, h4, h5⟩
      · have : g_slices_IndexFunc_int_minsat_Core_1 s i = -1 := h2
        rw [this] at h0; cases h0
      · have e : g_slices_IndexFunc_int_minsat_Core_1 s i = (c0 : Int) := h2
        have hc0 : c0 < s.length := by omega
        rw [e]
        have t2 : (IntKind.wrap .i64 ((c0 : Int) + 1)).toNat = c0 + 1 := by rw [w64 (by omega) (by omega)]; omega
        simp only [t2, Int.toNat_natCast]
        rw [List.take_succ_eq_append_getElem hc0, List.filter_append, filt_all c0 (by omega) (fun c hc => h5 c (Nat.zero_le _) hc), List.filter_cons, del_drop hc0 h4]
        simp
/-- A list of places. -/
structure Pl (cs : List ConstraintT) (v : List Ti64T) : Prop where
  len : v.length ≤ cs.length
  el : ∀ x ∈ v, 0 ≤ x.1 ∧ x.1 < (cs.length : Int)
theorem Pl.filt {cs : List ConstraintT} {v : List Ti64T} (h : Pl cs v) (f : Ti64T → Bool) : Pl cs (v.filter f) := ⟨Nat.le_trans (List.length_filter_le _ _) h.len, fun x hx => h.el x (List.mem_filter.1 hx).1⟩
theorem Pl.repl (cs : List ConstraintT) : (List.replicate cs.length Ti64D).length = cs.length ∧ ∀ x ∈ List.replicate cs.length Ti64D, 0 ≤ x.1 ∧ x.1 < (cs.length : Int) := by
  refine ⟨by simp, fun x hx => ?_⟩
  have h1 := List.eq_of_mem_replicate hx
  have h2 : cs.length ≠ 0 := fun e => by rw [e] at hx; cases hx
  rw [h1]
  exact ⟨Int.le_refl 0, by show (0 : Int) < _; omega⟩
theorem Pl.set {cs : List ConstraintT} {v : List Ti64T} (h : v.length = cs.length ∧ ∀ x ∈ v, 0 ≤ x.1 ∧ x.1 < (cs.length : Int)) {c : Nat} (hc : c < cs.length) : (v.set c ((c : Int), ())).length = cs.length ∧ ∀ x ∈ v.set c ((c : Int), ()), 0 ≤ x.1 ∧ x.1 < (cs.length : Int) := by
  refine ⟨by rw [List.length_set]; exact h.1, fun x hx => ?_⟩
  rcases List.mem_or_eq_of_mem_set hx with h1 | h1
  · exact h.2 x h1
  · subst h1; exact ⟨Int.natCast_nonneg _, by show (c : Int) < _; omega⟩
def CoI (cs : List ConstraintT) (c : Nat) (v : List clauseT) : Prop := v.length ≤ c ∧ ∀ x ∈ v, x ∈ g_minsat_clauses cs
theorem CoI.push {cs : List ConstraintT} {v9 : List Ti64T} (h9 : Pl cs v9) {c : Nat} (hc : c < v9.length) {v : List clauseT} (h : CoI cs c v) : CoI cs (c + 1) (v ++ [(List.getD (g_minsat_clauses cs) (Int.toNat (List.getD v9 c Ti64D).1) clauseD)]) := by
  refine ⟨by rw [List.length_append]; exact Nat.succ_le_succ h.1, fun x hx => ?_⟩
  rcases List.mem_append.1 hx with h1 | h1
  · exact h.2 x h1
  · have := h9.el _ (getD_mem hc Ti64D)
    rw [List.mem_singleton.1 h1]
    exact getD_mem (by rw [clauses_eq, List.length_map]; omega) _
theorem del_ok {n : Int} {cs : List ConstraintT} (hc : Chk n cs) {v : List Ti64T} (h : Pl cs v) (i : Int) : p_slices_Clone_int (segL v 0 v.length) = true ∧ p_slices_DeleteFunc_int (g_slices_Clone_int (segL v 0 v.length)) i = true ∧ Pl cs (g_slices_DeleteFunc_int (g_slices_Clone_int (segL v 0 v.length)) i) := by
  have h1 := h.len; have h2 := hc.len
  have hp : p_slices_DeleteFunc_int v i = true := by unfold p_slices_DeleteFunc_int; simp; omega
  rw [seg_all]
  refine ⟨by unfold p_slices_Clone_int; have hry : roomy = 1048576 := rfl; simp [hry]; omega, hp, ?_⟩
  show Pl cs (g_slices_DeleteFunc_int v i)
  rw [delete_eq hp]
  exact h.filt _
theorem cl_ix {cs : List ConstraintT} {v9 : List Ti64T} (h9 : Pl cs v9) {c : Nat} (hc : c < v9.length) : okIx (List.getD v9 c Ti64D).1 ((g_minsat_clauses cs).length : Int) = true := by
  have := h9.el _ (getD_mem hc Ti64D)
  rw [clauses_eq, List.length_map]
  exact okIx_of this.1 this.2
def S_minsat_Core_2 (n : Int) (cs : List ConstraintT) (_c1 : Nat) (v8 : List Ti64T) (v9 : List Ti64T) (next1 : (List Ti64T) → ((List Ti64T) × Int × Unit)) (v20 : List clauseT) : (List Ti64T) × Int × Unit := upS (fun c2 (v2 : List clauseT) => fun (next2 : (List clauseT) → ((List Ti64T) × Int × Unit)) => (next2 (v2 ++ [(List.getD (g_minsat_clauses cs) (Int.toNat (List.getD v9 c2 Ti64D).1) clauseD)]))) (fun (v2 : List clauseT) => cond (!(g_fn_22 (n, (segL v2 0 (List.length v2)), ()) 0 0 n).2.1) (next1 v9) (next1 v8)) (v9.length - 0) 0 v20
def S_minsat_Core_1 (n : Int) (cs : List ConstraintT) (v20 : List Ti64T) : (List Ti64T) × Int × Unit := upS (fun c1 (v2 : List Ti64T) => fun (next1 : (List Ti64T) → ((List Ti64T) × Int × Unit)) => (S_minsat_Core_2 n cs c1 v2 (g_slices_DeleteFunc_int (g_slices_Clone_int (segL v2 0 (List.length v2))) (c1 : Int)) next1 [])) (fun (v2 : List Ti64T) => ((segL v2 0 (List.length v2)), 0, ())) (cs.length - 0) 0 v20
def S_minsat_Core_0 (n : Int) (cs : List ConstraintT) (v10 : List Ti64T) : (List Ti64T) × Int × Unit := upS (fun c0 (v1 : List Ti64T) => fun (next0 : (List Ti64T) → ((List Ti64T) × Int × Unit)) => (next0 (List.set v1 c0 ((c0 : Int), ())))) (fun (v1 : List Ti64T) => (S_minsat_Core_1 n cs v1)) ((Int.toNat ((Int.toNat (cs.length : Int)) : Int)) - 0) 0 v10
def g_minsat_Core (n : Int) (cs : List ConstraintT) : (List Ti64T) × Int × Unit := cond ((g_minsat_Check n cs) != 0) ([], (g_minsat_Check n cs), ()) (cond (g_fn_22 (n, (g_minsat_clauses cs), ()) 0 0 n).2.1 ([], 8, ()) (S_minsat_Core_0 n cs (List.replicate (Int.toNat (cs.length : Int)) Ti64D)))
def e_minsat_Core : Ent := ⟨15, [.one (.int .i64), .one (.sl ConstraintS)], [.one (.sl Ti64S), .one (.int .i64)], fun _ => true, fun x => g_minsat_Core x.1 x.2.1⟩
theorem w64u {n : Int} (h0 : 0 ≤ n) (h1 : n ≤ 9223372036854775807) : IntKind.wrap .u64 n = n := IntWalk.u64_in _ (by omega)
theorem tm_ok (x : Int) {m : Int} (h0 : 0 < m) (h1 : m ≤ 1000000) : 0 ≤ IntKind.wrap .i64 (Int.tmod (IntKind.wrap .u64 x) m) ∧ IntKind.wrap .i64 (Int.tmod (IntKind.wrap .u64 x) m) < m := by
  have hx : 0 ≤ IntKind.wrap .u64 x := (show inR .u64 (IntKind.wrap .u64 x) from wrap_in .u64 x).1
  have e : Int.tmod (IntKind.wrap .u64 x) m = (IntKind.wrap .u64 x) % m := Int.tmod_eq_emod_of_nonneg hx
  rw [e]
  have h2 := Int.emod_nonneg (IntKind.wrap .u64 x) (show m ≠ 0 by omega)
  have h3 := Int.emod_lt_of_pos (IntKind.wrap .u64 x) h0
  rw [w64 (by omega) (by omega)]
  exact ⟨h2, h3⟩
theorem n1_ok (n : Int) : 1 ≤ (IntKind.wrap .i64 (1 + (IntKind.wrap .i64 (Int.tmod (IntKind.wrap .u64 n) 24)))) ∧ (IntKind.wrap .i64 (1 + (IntKind.wrap .i64 (Int.tmod (IntKind.wrap .u64 n) 24)))) ≤ 24 := by
  have := tm_ok n (m := 24) (by decide) (by decide)
  rw [w64 (x := 1 + _) (by omega) (by omega)]
  omega
theorem lg_mk (n : Int) : ((decide (0 ≤ (IntKind.wrap .i64 (1 + (IntKind.wrap .i64 (Int.tmod (IntKind.wrap .u64 n) 24)))))) && (decide ((IntKind.wrap .i64 (1 + (IntKind.wrap .i64 (Int.tmod (IntKind.wrap .u64 n) 24)))) ≤ (roomy : Int)))) = true := by
  have hN := n1_ok n
  have hry : roomy = 1048576 := rfl
  rw [hry, decide_eq_true (by omega), decide_eq_true (by omega)]
  rfl
theorem lg_set (n x : Int) : (!((IntKind.wrap .u64 (IntKind.wrap .i64 (1 + (IntKind.wrap .i64 (Int.tmod (IntKind.wrap .u64 n) 24))))) == 0)) = true ∧ okIx (IntKind.wrap .i64 (Int.tmod (IntKind.wrap .u64 x) (IntKind.wrap .u64 (IntKind.wrap .i64 (1 + (IntKind.wrap .i64 (Int.tmod (IntKind.wrap .u64 n) 24))))))) ((Int.toNat (IntKind.wrap .i64 (1 + (IntKind.wrap .i64 (Int.tmod (IntKind.wrap .u64 n) 24))))) : Int) = true := by
  have hN := n1_ok n
  generalize (IntKind.wrap .i64 (1 + (IntKind.wrap .i64 (Int.tmod (IntKind.wrap .u64 n) 24)))) = N at hN ⊢
  rw [w64u (by omega) (by omega)]
  have h2 := tm_ok x (m := N) (by omega) (by omega)
  refine ⟨?_, okIx_of h2.1 (by omega)⟩
  have : (N == 0) = false := by simp; omega
  rw [this]; rfl
def g_law43_awake : Bool := (((((g_minsat_Minimum 3 ([([(0, ()), (1, ())], [], ()), ([(1, ()), (2, ())], [], ()), ([(2, ())], [(1, ())], ())])).2.1 == 0) && (g_keep_Ints (g_minsat_Minimum 3 ([([(0, ()), (1, ())], [], ()), ([(1, ()), (2, ())], [], ()), ([(2, ())], [(1, ())], ())])).1 [(0, ()), (2, ())])) && ((g_minsat_Core 2 ([([(0, ())], [], ()), ([(1, ())], [], ()), ([], [(0, ())], ())])).2.1 == 0)) && (g_keep_Ints (g_minsat_Core 2 ([([(0, ())], [], ()), ([(1, ())], [], ()), ([], [(0, ())], ())])).1 [(0, ()), (2, ())]))
def e_law43_awake : Ent := ⟨8, [], [.one .bool], fun _ => true, fun _ => (g_law43_awake, ())⟩
def S_r42_elements_0 (l : List Ti64T) (n : Int) : Bool := upV (fun c0 next0 => cond ((decide ((List.getD l c0 Ti64D).1 < 0)) || (decide ((List.getD l c0 Ti64D).1 ≥ n))) false next0) (true) (l.length - 0) 0
def g_r42_elements (l : List Ti64T) (n : Int) : Bool := (S_r42_elements_0 l n)
def e_r42_elements : Ent := ⟨24, [.one (.sl Ti64S), .one (.int .i64)], [.one .bool], fun _ => true, fun x => (g_r42_elements x.1 x.2.1, ())⟩
def S_r42_Check_0 (n : Int) (cs : List ConstraintT) : Int := upV (fun c0 next0 => cond ((!(g_r42_elements (List.getD cs c0 ConstraintD).1 n)) || (!(g_r42_elements (List.getD cs c0 ConstraintD).2.1 n))) 1 next0) (0) (cs.length - 0) 0
def g_r42_Check (n : Int) (cs : List ConstraintT) : Int := cond (decide (n < 0)) 1 (cond ((decide (n > 24)) || (decide ((cs.length : Int) > 64))) 7 (S_r42_Check_0 n cs))
def e_r42_Check : Ent := ⟨12, [.one (.int .i64), .one (.sl ConstraintS)], [.one (.int .i64)], fun _ => true, fun x => (g_r42_Check x.1 x.2.1, ())⟩
def S_r42_has_0 (l : List Ti64T) (x0 : Int) : Bool := upV (fun c0 next0 => cond ((List.getD l c0 Ti64D).1 == x0) true next0) (false) (l.length - 0) 0
def g_r42_has (l : List Ti64T) (x0 : Int) : Bool := (S_r42_has_0 l x0)
def e_r42_has : Ent := ⟨39, [.one (.sl Ti64S), .one (.int .i64)], [.one .bool], fun _ => true, fun x => (g_r42_has x.1 x.2.1, ())⟩
def S_r42_Satisfied_1 (set : List Ti64T) (c : ConstraintT) : Bool := upV (fun c1 next1 => cond (!(g_r42_has set (List.getD c.2.1 c1 Ti64D).1)) true next1) (false) (c.2.1.length - 0) 0
def S_r42_Satisfied_0 (set : List Ti64T) (c : ConstraintT) : Bool := upV (fun c0 next0 => cond (g_r42_has set (List.getD c.1 c0 Ti64D).1) true next0) ((S_r42_Satisfied_1 set c)) (c.1.length - 0) 0
def g_r42_Satisfied (set : List Ti64T) (c : ConstraintT) : Bool := (S_r42_Satisfied_0 set c)
def e_r42_Satisfied : Ent := ⟨30, [.one (.sl Ti64S), .st ConstraintS], [.one .bool], fun _ => true, fun x => (g_r42_Satisfied x.1 x.2.1, ())⟩
def S_r42_Satisfies_0 (set : List Ti64T) (cs : List ConstraintT) : Bool := upV (fun c0 next0 => cond (!(g_r42_Satisfied set (List.getD cs c0 ConstraintD))) false next0) (true) (cs.length - 0) 0
def g_r42_Satisfies (set : List Ti64T) (cs : List ConstraintT) : Bool := (S_r42_Satisfies_0 set cs)
def e_r42_Satisfies : Ent := ⟨17, [.one (.sl Ti64S), .one (.sl ConstraintS)], [.one .bool], fun _ => true, fun x => (g_r42_Satisfies x.1 x.2.1, ())⟩
def S_minsat_Satisfies_1 (_set : List Ti64T) (cs : List ConstraintT) (v1 : List Int) : Bool := upV (fun c1 next1 => cond ((!(g_slices_ContainsFunc_int_minsat_Satisfies_1 (List.getD cs c1 ConstraintD).1 v1)) && (!(g_slices_ContainsFunc_int_minsat_Satisfies_2 (List.getD cs c1 ConstraintD).2.1 v1))) false next1) (true) (cs.length - 0) 0
def S_minsat_Satisfies_0 (set : List Ti64T) (cs : List ConstraintT) (v10 : List Int) : Bool := upS (fun c0 (v1 : List Int) => fun (next0 : (List Int) → Bool) => (next0 (v1 ++ [(List.getD set c0 Ti64D).1]))) (fun (v1 : List Int) => (S_minsat_Satisfies_1 set cs v1)) (set.length - 0) 0 v10
def g_minsat_Satisfies (set : List Ti64T) (cs : List ConstraintT) : Bool := (S_minsat_Satisfies_0 set cs [])
def e_minsat_Satisfies : Ent := ⟨20, [.one (.sl Ti64S), .one (.sl ConstraintS)], [.one .bool], fun _ => true, fun x => (g_minsat_Satisfies x.1 x.2.1, ())⟩
def S_law43_MinsatChecks_0 (n : Int) (cs : List ConstraintT) (set : List Ti64T) : Bool := upV (fun c0 next0 => cond ((decide (((List.getD cs c0 ConstraintD).1.length : Int) > 40)) || (decide (((List.getD cs c0 ConstraintD).2.1.length : Int) > 40))) true next0) ((((g_minsat_Check n cs) == (g_r42_Check n cs)) && ((g_minsat_Satisfies (segL set 0 set.length) cs) == (g_r42_Satisfies set cs)))) (cs.length - 0) 0
def g_law43_MinsatChecks (n : Int) (cs : List ConstraintT) (set : List Ti64T) : Bool := cond (!g_law43_awake) false (cond ((decide ((cs.length : Int) > 100)) || (decide ((set.length : Int) > 40))) true (S_law43_MinsatChecks_0 n cs set))
def e_law43_MinsatChecks : Ent := ⟨7, [.one (.int .i64), .one (.sl ConstraintS), .one (.sl Ti64S)], [.one .bool], fun _ => true, fun x => (g_law43_MinsatChecks x.1 x.2.1 x.2.2.1, ())⟩
end Go.Proofs.YtilbcgklkdkkdaaDoor
