/-
  Minsat, in plain Lean: lists of elements, the reference's tests, the least set.
-/
import Derived.Test.YtilbcgklkdkkdaaDoorAmG
import Derived.KernelRfl
namespace Go.Proofs.YtilbcgklkdkkdaaDoor
open Go Go.AM
set_option maxRecDepth 100000
theorem awake_true : g_law43_awake = true := by kernel_rfl

theorem any_go {α : Type} {f : α → Bool} {d : α} {r : Bool} (l : List α) : ∀ (m s : Nat), s + m = l.length → upV (fun c x => cond (f (List.getD l c d)) true x) r m s = ((l.drop s).any f || r)
  | 0, s, h => by rw [List.drop_eq_nil_of_le (by omega)]; simp [upV]
  | m + 1, s, h => by
    simp only [upV]
    rw [any_go l m (s + 1) (by omega), drop_at (show s < l.length by omega) d, List.any_cons]
    cases f (List.getD l s d) <;> simp
theorem any_eq {α : Type} {f : α → Bool} {d : α} {r : Bool} (l : List α) : upV (fun c x => cond (f (List.getD l c d)) true x) r (l.length - 0) 0 = (l.any f || r) := by
  rw [any_go l _ 0 (by omega)]; rfl
theorem all_go {α : Type} {f : α → Bool} {d : α} (l : List α) : ∀ (m s : Nat), s + m = l.length → upV (fun c x => cond (f (List.getD l c d)) false x) true m s = ((l.drop s).all fun x => !(f x))
  | 0, s, h => by rw [List.drop_eq_nil_of_le (by omega)]; simp [upV]
  | m + 1, s, h => by
    simp only [upV]
    rw [all_go l m (s + 1) (by omega), drop_at (show s < l.length by omega) d, List.all_cons]
    cases f (List.getD l s d) <;> simp
theorem all_eq {α : Type} {f : α → Bool} {d : α} (l : List α) : upV (fun c x => cond (f (List.getD l c d)) false x) true (l.length - 0) 0 = (l.all fun x => !(f x)) := by
  rw [all_go l _ 0 (by omega)]; rfl
theorem has_eq (l : List Ti64T) (y : Int) : g_r42_has l y = l.any fun x => x.1 == y := by
  unfold g_r42_has S_r42_has_0
  rw [any_eq (f := fun x : Ti64T => x.1 == y) (d := Ti64D), Bool.or_false]
theorem satisfied_eq (set : List Ti64T) (c : ConstraintT) : g_r42_Satisfied set c = ((c.1.any fun x => g_r42_has set x.1) || c.2.1.any fun x => !(g_r42_has set x.1)) := by
  unfold g_r42_Satisfied S_r42_Satisfied_0 S_r42_Satisfied_1
  rw [any_eq (f := fun x : Ti64T => g_r42_has set x.1) (d := Ti64D), any_eq (f := fun x : Ti64T => !(g_r42_has set x.1)) (d := Ti64D), Bool.or_false]
theorem satisfies_eq (set : List Ti64T) (cs : List ConstraintT) : g_r42_Satisfies set cs = cs.all fun c => g_r42_Satisfied set c := by
  unfold g_r42_Satisfies S_r42_Satisfies_0
  rw [all_eq (f := fun c : ConstraintT => !(g_r42_Satisfied set c)) (d := ConstraintD)]
  simp only [Bool.not_not]

def el (i : Nat) : Ti64T := ((i : Int), ())
/-- The elements of a set, ascending. -/
def lst (X : Nat → Bool) (k : Nat) : List Ti64T := ((List.range k).filter X).map el
theorem lst_mem {X : Nat → Bool} {k : Nat} {x : Ti64T} : x ∈ lst X k ↔ ∃ i : Nat, i < k ∧ X i = true ∧ x.1 = (i : Int) := by
  unfold lst
  rw [List.mem_map]
  constructor
  · rintro ⟨i, hi, rfl⟩
    rw [List.mem_filter, List.mem_range] at hi
    exact ⟨i, hi.1, hi.2, rfl⟩
  · rintro ⟨i, h1, h2, h3⟩
    exact ⟨i, List.mem_filter.2 ⟨List.mem_range.2 h1, h2⟩, by obtain ⟨a, u⟩ := x; simp only at h3; rw [h3]; rfl⟩
theorem lst_has {X : Nat → Bool} {k : Nat} (i : Nat) (hk : i < k) : g_r42_has (lst X k) (i : Int) = X i := by
  rw [has_eq]
  cases hx : X i with
  | true => exact List.any_eq_true.2 ⟨((i : Int), ()), lst_mem.2 ⟨i, hk, hx, rfl⟩, by simp⟩
  | false =>
    cases hb : (lst X k).any fun x => x.1 == (i : Int) with
    | false => rfl
    | true =>
      obtain ⟨x, h1, h2⟩ := List.any_eq_true.1 hb
      obtain ⟨j, _, h3, h4⟩ := lst_mem.1 h1
      have : x.1 = (i : Int) := eq_of_beq h2
      have : i = j := by omega
      subst this; rw [h3] at hx; cases hx
theorem lst_cut {X : Nat → Bool} {k m : Nat} (hkm : k ≤ m) (h : ∀ i, X i = true → i < k) : lst X m = lst X k := by
  unfold lst
  congr 1
  have : List.range m = List.range k ++ (List.range (m - k)).map (k + ·) := by
    rw [← List.range_add]; congr 1; omega
  rw [this, List.filter_append]
  have : ((List.range (m - k)).map (k + ·)).filter X = [] := by
    rw [List.filter_eq_nil_iff]
    intro x hx
    obtain ⟨i, _, rfl⟩ := List.mem_map.1 hx
    intro h2
    have := h _ h2
    omega
  rw [this, List.append_nil]
theorem lst_congr {X Y : Nat → Bool} {k : Nat} (h : ∀ i, i < k → X i = Y i) : lst X k = lst Y k := by
  unfold lst
  congr 1
  exact List.filter_congr fun i hi => h i (List.mem_range.1 hi)
theorem lst_len {X : Nat → Bool} : (lst X 32).length = card X := by
  unfold lst card
  rw [List.length_map, List.countP_eq_length_filter]
theorem lst_len_n {X : Nat → Bool} {n : Nat} (hn : n ≤ 32) (h : ∀ i, X i = true → i < n) : (lst X n).length = card X := by rw [← lst_cut hn h, lst_len]

/-- A list up to its i-th place. -/
theorem lst_at {X : Nat → Bool} {i k : Nat} (hk : i < k) : lst X k = lst X i ++ (bif X i then [((i : Int), ())] else []) ++ ((((List.range (k - (i + 1))).map (i + 1 + ·)).filter X).map el) := by
  unfold lst
  have : List.range k = List.range i ++ [i] ++ (List.range (k - (i + 1))).map (i + 1 + ·) := by
    have h1 : List.range k = List.range (i + 1) ++ (List.range (k - (i + 1))).map (i + 1 + ·) := by
      rw [← List.range_add]; congr 1; omega
    rw [h1, List.range_succ]
  rw [this, List.filter_append, List.filter_append, List.map_append, List.map_append]
  congr 2
  rw [List.filter_cons]
  cases X i <;> simp [el]
theorem elements_list {x : Int} (hx : u32 x) : g_minsat_elements x = lst (bt x) 32 := by
  unfold g_minsat_elements S_minsat_elements_0
  refine upS_ind (P := fun r => r = lst (bt x) 32) (I := fun c (v : Int × List Ti64T) => ElI c v ∧ v.2 ++ lst (bt v.1) 32 = lst (bt x) 32) (33 - 0) 0 (fun v hI => ?_) (fun c _ hc next hnext v hI => ?_) (x, []) ⟨⟨hx, by have := pc_le x; show pc x + 0 ≤ 32; omega, Nat.zero_le _⟩, rfl⟩
  · have := hI.1.2.1; omega
  · obtain ⟨hE, e⟩ := hI
    show cond (v.1 != 0) (next ((iand .u32 v.1 (IntKind.wrap .u32 (v.1 - 1))), (v.2 ++ [((g_bits_TrailingZeros32 v.1), ())]))) (segL v.2 0 (List.length v.2)) = lst (bt x) 32
    cases h0 : v.1 != 0 with
    | false =>
      rw [cond_false, seg_all]
      have h1 : v.1 = 0 := by simpa using h0
      rw [← e, h1]
      have : lst (bt 0) 32 = [] := by
        unfold lst
        rw [List.filter_eq_nil_iff.2 fun i _ h => by rw [bt_zero] at h; cases h]
        rfl
      rw [this, List.append_nil]
    | true =>
      rw [cond_true]
      refine hnext _ ⟨el_p hE h0, ?_⟩
      obtain ⟨i, hi, h1, h2⟩ := least_ex hE.1 (by simpa using h0)
      rw [tz_eq h1 h2, ← e]
      show v.2 ++ [((i : Int), ())] ++ lst (bt (iand .u32 v.1 (IntKind.wrap .u32 (v.1 - 1)))) 32 = v.2 ++ lst (bt v.1) 32
      rw [List.append_assoc]
      congr 1
      rw [lst_at (X := bt v.1) hi, lst_at (X := bt (iand .u32 v.1 (IntKind.wrap .u32 (v.1 - 1)))) hi]
      have n1 : ∀ {Y : Nat → Bool}, (∀ j, j < i → Y j = false) → lst Y i = [] := fun {Y} hY => by
        unfold lst
        rw [List.filter_eq_nil_iff.2 fun j hj h => by rw [hY j (List.mem_range.1 hj)] at h; cases h]
        rfl
      rw [n1 (Y := bt v.1) h2, n1 (Y := bt (iand .u32 v.1 (IntKind.wrap .u32 (v.1 - 1)))) (fun j hj => by rw [low_off h1 h2, h2 j hj]; rfl)]
      have h3 : bt (iand .u32 v.1 (IntKind.wrap .u32 (v.1 - 1))) i = false := by rw [low_off h1 h2]; simp
      rw [h1, h3]
      simp only [cond_true, cond_false, List.nil_append]
      show ((i : Int), ()) :: _ = ((i : Int), ()) :: _
      congr 2
      refine congrArg (List.map el) (List.filter_congr fun j hj => ?_)
      obtain ⟨k, _, rfl⟩ := List.mem_map.1 hj
      rw [low_off h1 h2]
      have : i + 1 + k ≠ i := by omega
      simp [this]

/-! ### The reference's order -/
/-- Two sets of one size: the one that has the first element in which they differ is less. -/
theorem less_at {X Y : Nat → Bool} {n : Nat} (hn : n ≤ 32) (hX : ∀ i, X i = true → i < n) (hY : ∀ i, Y i = true → i < n) (hc : card X = card Y) (hb : Before X Y) : g_r42_Less (lst X n) (lst Y n) = true ∧ g_r42_Less (lst Y n) (lst X n) = false := by
  obtain ⟨i, h1, h2, h3⟩ := hb
  have hi := hX i h1
  have lX := lst_at (X := X) hi
  have lY := lst_at (X := Y) hi
  rw [h1] at lX
  rw [h2, ← lst_congr (X := X) (Y := Y) h3] at lY
  simp only [cond_true, cond_false, List.append_nil] at lX lY
  have len : (lst X n).length = (lst Y n).length := by rw [lst_len_n hn hX, lst_len_n hn hY, hc]
  generalize hR : ((((List.range (n - (i + 1))).map (i + 1 + ·)).filter X).map el) = RX at lX
  generalize hR2 : ((((List.range (n - (i + 1))).map (i + 1 + ·)).filter Y).map el) = RY at lY
  generalize lst X i = P at lX lY
  have hl := len
  rw [lX, lY] at hl
  simp only [List.length_append, List.length_cons, List.length_nil] at hl
  cases RY with
  | nil => simp at hl; omega
  | cons y RY =>
    have hy : (i : Int) < y.1 := by
      have : y ∈ ((((List.range (n - (i + 1))).map (i + 1 + ·)).filter Y).map el) := by rw [hR2]; exact List.mem_cons_self ..
      obtain ⟨j, hj, rfl⟩ := List.mem_map.1 this
      obtain ⟨k, _, rfl⟩ := List.mem_map.1 (List.mem_filter.1 hj).1
      show (i : Int) < ((i + 1 + k : Nat) : Int)
      omega
    have gP : ∀ (A B : List Ti64T) (c : Nat), c < P.length → List.getD (P ++ A) c Ti64D = List.getD (P ++ B) c Ti64D := fun A B c hc => by simp [List.getD, List.getElem?_append_left hc]
    have gA : ∀ (a : Ti64T) (A : List Ti64T), List.getD (P ++ a :: A) P.length Ti64D = a := fun a A => by simp [List.getD]
    have key : ∀ (a b : Ti64T) (A B : List Ti64T), A.length = B.length → a.1 ≠ b.1 → g_r42_Less (P ++ a :: A) (P ++ b :: B) = decide (a.1 < b.1) := fun a b A B hAB hne => by
      have hlen : (P ++ a :: A).length = (P ++ b :: B).length := by simp [hAB]
      unfold g_r42_Less S_r42_Less_0
      have : (((P ++ a :: A).length : Int) != ((P ++ b :: B).length : Int)) = false := by rw [hlen]; simp
      rw [this, cond_false]
      rw [upV_hit (f := fun c0 => (List.getD (P ++ a :: A) c0 Ti64D).1 != (List.getD (P ++ b :: B) c0 Ti64D).1) (v := fun c0 => decide ((List.getD (P ++ a :: A) c0 Ti64D).1 < (List.getD (P ++ b :: B) c0 Ti64D).1)) _ 0 P.length (Nat.zero_le _) (by simp) (by rw [gA, gA]; simpa using hne) (fun c _ hc => by rw [gP (a :: A) (b :: B) c hc]; simp), gA, gA]
    rw [lX, lY, List.append_assoc]
    refine ⟨?_, ?_⟩
    · rw [show P ++ ([((i : Int), ())] ++ RX) = P ++ (((i : Int), ()) : Ti64T) :: RX from rfl, key _ _ _ _ (by simp at hl; omega) (by show (i : Int) ≠ y.1; omega)]
      exact decide_eq_true hy
    · rw [show P ++ ([((i : Int), ())] ++ RX) = P ++ (((i : Int), ()) : Ti64T) :: RX from rfl, key _ _ _ _ (by simp at hl; omega) (by show y.1 ≠ (i : Int); omega)]
      exact decide_eq_false (by show ¬ y.1 < (i : Int); omega)
theorem less_len {a b : List Ti64T} (h : a.length < b.length) : g_r42_Less a b = true ∧ g_r42_Less b a = false := by
  unfold g_r42_Less
  have h1 : ((a.length : Int) != (b.length : Int)) = true := by
    have : (a.length : Int) ≠ (b.length : Int) := by omega
    simpa using this
  have h2 : ((b.length : Int) != (a.length : Int)) = true := by
    have : (b.length : Int) ≠ (a.length : Int) := by omega
    simpa using this
  rw [h1, h2, cond_true, cond_true]
  exact ⟨decide_eq_true (by omega), decide_eq_false (by omega)⟩
theorem less_self (a : List Ti64T) : g_r42_Less a a = false := by
  unfold g_r42_Less S_r42_Less_0
  have : ((a.length : Int) != (a.length : Int)) = false := by simp
  rw [this, cond_false]
  exact upV_none (f := fun c0 => (List.getD a c0 Ti64D).1 != (List.getD a c0 Ti64D).1) (v := fun c0 => decide ((List.getD a c0 Ti64D).1 < (List.getD a c0 Ti64D).1)) _ 0 fun c _ _ => by simp
theorem ints_self (a : List Ti64T) : g_keep_Ints a a = true := by
  unfold g_keep_Ints S_keep_Ints_0
  have : ((a.length : Int) != (a.length : Int)) = false := by simp
  rw [this, cond_false, upV_all (f := fun c0 => (List.getD a c0 Ti64D).1 != (List.getD a c0 Ti64D).1)]
  intro c _; simp

theorem lst_succ {X : Nat → Bool} {c : Nat} : lst X (c + 1) = lst X c ++ (bif X c then [el c] else []) := by
  unfold lst
  rw [List.range_succ, List.filter_append, List.map_append]
  congr 1
  rw [List.filter_cons]
  cases X c <;> rfl
/-! ### The least set -/
def Sat (cs : List ConstraintT) (X : Nat → Bool) : Prop := ∀ c ∈ cs, (∃ x ∈ c.1, X x.1.toNat = true) ∨ ∃ x ∈ c.2.1, X x.1.toNat = false
def Low (n : Int) (X : Nat → Bool) : Prop := ∀ i : Nat, X i = true → (i : Int) < n
theorem sol_sat {n : Int} {cs : List ConstraintT} (h : Chk n cs) (X : Nat → Bool) (most : Int) : Sol (n, g_minsat_clauses cs, ()) X 0 0 most ↔ Low n X ∧ (card X : Int) ≤ most ∧ Sat cs X := by
  have n1 := h.n1
  have hb : ∀ c ∈ cs, (∀ x ∈ c.1, 0 ≤ x.1 ∧ x.1 < 32) ∧ ∀ x ∈ c.2.1, 0 ≤ x.1 ∧ x.1 < 32 := fun c hc => by
    obtain ⟨k1, k2⟩ := h.el c hc
    exact ⟨fun x hx => ⟨(k1 x hx).1, by have := (k1 x hx).2; omega⟩, fun x hx => ⟨(k2 x hx).1, by have := (k2 x hx).2; omega⟩⟩
  constructor
  · intro hs
    refine ⟨hs.lt, hs.c, fun c hc => ?_⟩
    obtain ⟨b1, b2⟩ := hb c hc
    have := hs.cl (g_minsat_mask c.1, g_minsat_mask c.2.1, ()) (by show _ ∈ g_minsat_clauses cs; rw [clauses_eq]; exact List.mem_map.2 ⟨c, hc, rfl⟩)
    rcases this with ⟨i, h1, h2⟩ | ⟨i, h1, h2⟩
    · obtain ⟨x, hx, he⟩ := (mask_bt b1 i).1 h1
      exact .inl ⟨x, hx, by rw [he, Int.toNat_natCast]; exact h2⟩
    · obtain ⟨x, hx, he⟩ := (mask_bt b2 i).1 h1
      exact .inr ⟨x, hx, by rw [he, Int.toNat_natCast]; exact h2⟩
  · rintro ⟨h1, h2, h3⟩
    refine ⟨fun i hi => (by rw [bt_zero] at hi; cases hi), fun i hi => (by rw [bt_zero] at hi; cases hi), h1, h2, fun c hc => ?_⟩
    have hc : c ∈ g_minsat_clauses cs := hc
    rw [clauses_eq] at hc
    obtain ⟨d, hd, rfl⟩ := List.mem_map.1 hc
    obtain ⟨b1, b2⟩ := hb d hd
    rcases h3 d hd with ⟨x, hx, he⟩ | ⟨x, hx, he⟩
    · obtain ⟨k, hk⟩ := Int.eq_ofNat_of_zero_le (b1 x hx).1
      rw [hk, Int.toNat_natCast] at he
      exact .inl ⟨k, (mask_bt b1 k).2 ⟨x, hx, hk⟩, he⟩
    · obtain ⟨k, hk⟩ := Int.eq_ofNat_of_zero_le (b2 x hx).1
      rw [hk, Int.toNat_natCast] at he
      exact .inr ⟨k, (mask_bt b2 k).2 ⟨x, hx, hk⟩, he⟩
theorem satisfies_sat {n : Int} {cs : List ConstraintT} (h : Chk n cs) {X : Nat → Bool} {k : Nat} (hk : n ≤ (k : Int)) : g_r42_Satisfies (lst X k) cs = true ↔ Sat cs X := by
  rw [satisfies_eq, List.all_eq_true]
  have one : ∀ (x : Ti64T), 0 ≤ x.1 ∧ x.1 < n → g_r42_has (lst X k) x.1 = X x.1.toNat := fun x hx => by
    obtain ⟨i, hi⟩ := Int.eq_ofNat_of_zero_le hx.1
    rw [hi, Int.toNat_natCast]
    exact lst_has i (by omega)
  constructor
  · intro hs c hc
    have := hs c hc
    rw [satisfied_eq, Bool.or_eq_true, List.any_eq_true, List.any_eq_true] at this
    rcases this with ⟨x, hx, he⟩ | ⟨x, hx, he⟩
    · exact .inl ⟨x, hx, by rw [← one x ((h.el c hc).1 x hx)]; exact he⟩
    · exact .inr ⟨x, hx, by rw [← one x ((h.el c hc).2 x hx)]; simpa using he⟩
  · intro hs c hc
    rw [satisfied_eq, Bool.or_eq_true, List.any_eq_true, List.any_eq_true]
    rcases hs c hc with ⟨x, hx, he⟩ | ⟨x, hx, he⟩
    · exact .inl ⟨x, hx, by rw [one x ((h.el c hc).1 x hx)]; exact he⟩
    · exact .inr ⟨x, hx, by rw [one x ((h.el c hc).2 x hx), he]; rfl⟩
theorem found_at {n : Int} {cs : List ConstraintT} (h : Chk n cs) {l : List clauseT} (hl : ∀ c ∈ l, c ∈ g_minsat_clauses cs) (most : Int) : Found (n, l, ()) 0 0 most (g_fn_22 (n, l, ()) 0 0 most) :=
  find_spec 33 (pk_of_fn_22 (h.pfind hl most)) u32_zero u32_zero
theorem card_low {n : Int} {X : Nat → Bool} (h0 : 0 ≤ n) (h1 : n ≤ 24) (hX : Low n X) : (card X : Int) ≤ n := by
  obtain ⟨k, rfl⟩ := Int.eq_ofNat_of_zero_le h0
  have h2 : ∀ i, X i = true → i < k := fun i hi => by have := hX i hi; omega
  rw [← lst_len_n (n := k) (by omega) h2]
  unfold lst
  rw [List.length_map]
  have := List.length_filter_le X (List.range k)
  rw [List.length_range] at this
  omega
/-- The least satisfying set. -/
structure Least (n : Int) (cs : List ConstraintT) (r : Int) : Prop where
  u : u32 r
  low : Low n (bt r)
  sat : Sat cs (bt r)
  le : ∀ X, Low n X → Sat cs X → card (bt r) < card X ∨ (card (bt r) = card X ∧ ((∀ i, X i = bt r i) ∨ Before (bt r) X))
theorem min_spec {n : Int} {cs : List ConstraintT} (h : Chk n cs) : ((∀ X, Low n X → ¬ Sat cs X) ∧ g_minsat_Minimum n cs = ([], 8, ())) ∨ ∃ r, Least n cs r ∧ g_minsat_Minimum n cs = (lst (bt r) n.toNat, 0, ()) := by
  have n0 := h.n0; have n1 := h.n1
  have F := fun most => found_at h (l := g_minsat_clauses cs) (fun _ h => h) most
  have hz : ((g_minsat_Check n cs) != 0) = false := by rw [check_iff.2 h]; rfl
  unfold g_minsat_Minimum
  rw [hz, cond_false]
  cases hok : (g_fn_22 (n, g_minsat_clauses cs, ()) 0 0 n).2.1 with
  | false =>
    exact .inl ⟨fun X h1 h2 => (F n).1 hok X ((sol_sat h X n).2 ⟨h1, card_low n0 n1 h1, h2⟩), rfl⟩
  | true =>
    right
    rw [Bool.not_true, cond_false]
    unfold S_minsat_Minimum_0
    have e1 : Int.toNat (IntKind.wrap .i64 (n + 1)) = n.toNat + 1 := by rw [w64 (by omega) (by omega)]; omega
    rw [e1]
    -- the first size
    have hex : ∃ c0 : Nat, c0 ≤ n.toNat ∧ (g_fn_22 (n, g_minsat_clauses cs, ()) 0 0 (c0 : Int)).2.1 = true ∧ ∀ c : Nat, c < c0 → (g_fn_22 (n, g_minsat_clauses cs, ()) 0 0 (c : Int)).2.1 = false := by
      rcases first_or (f := fun c : Nat => (g_fn_22 (n, g_minsat_clauses cs, ()) 0 0 (c : Int)).2.1) (n.toNat + 1) 0 with hn | ⟨c0, h1, h2, h3, h4⟩
      · have := hn n.toNat (Nat.zero_le _) (by omega)
        rw [show ((n.toNat : Nat) : Int) = n by omega, hok] at this; cases this
      · exact ⟨c0, by omega, h3, fun c hc => h4 c (Nat.zero_le _) hc⟩
    obtain ⟨c0, hc0, h1, h2⟩ := hex
    obtain ⟨g1, g2, g3⟩ := (F c0).2 h1
    have g4 := (sol_sat h _ _).1 g2
    have size : ∀ X, Low n X → Sat cs X → c0 ≤ card X := fun X hX hs => by
      rcases Nat.lt_or_ge (card X) c0 with hlt | hge
      · exact ((F (card X)).1 (h2 _ hlt) X ((sol_sat h X _).2 ⟨hX, Int.le_refl _, hs⟩)).elim
      · exact hge
    have hr := size _ g4.1 g4.2.2
    have hr2 := g4.2.1
    refine ⟨(g_fn_22 (n, g_minsat_clauses cs, ()) 0 0 (c0 : Int)).1, ⟨g1, g4.1, g4.2.2, fun X hX hs => ?_⟩, ?_⟩
    · have := size X hX hs
      rcases Nat.eq_or_lt_of_le this with he | hl
      · exact .inr ⟨by omega, g3 X ((sol_sat h X _).2 ⟨hX, by omega, hs⟩)⟩
      · exact .inl (by omega)
    · rw [upV_hit (f := fun c0 : Nat => (g_fn_22 (n, g_minsat_clauses cs, ()) 0 0 (c0 : Int)).2.1) (v := fun c0 : Nat => (((g_minsat_elements (g_fn_22 (n, g_minsat_clauses cs, ()) 0 0 (c0 : Int)).1), 0, ()) : (List Ti64T) × Int × Unit)) _ 0 c0 (Nat.zero_le _) (by omega) h1 (fun c _ hc => h2 c hc), elements_list g1, lst_cut (k := n.toNat) (by omega) fun i hi => by have := g4.1 i hi; omega]

theorem least_unique {n : Int} {cs : List ConstraintT} {r q : Int} (hr : Least n cs r) (hq : Least n cs q) : ∀ i, bt r i = bt q i := by
  have asym : ∀ {X Y : Nat → Bool}, Before X Y → Before Y X → False := fun {X Y} ⟨i, h1, h2, h3⟩ ⟨j, g1, g2, g3⟩ => by
    rcases Nat.lt_trichotomy i j with h | h | h
    · have := g3 i h; rw [h1, h2] at this; cases this
    · subst h; rw [h1] at g2; cases g2
    · have := h3 j h; rw [g1, g2] at this; cases this
  rcases hr.le _ hq.low hq.sat with h1 | ⟨h1, h2 | h2⟩
  · rcases hq.le _ hr.low hr.sat with h3 | ⟨h3, _⟩ <;> omega
  · exact fun i => (h2 i).symm
  · rcases hq.le _ hr.low hr.sat with h3 | ⟨h3, h4 | h4⟩
    · omega
    · exact h4
    · exact (asym h2 h4).elim
end Go.Proofs.YtilbcgklkdkkdaaDoor
