/-
  Minsat: the law MinsatUnits, in plain Lean.
-/
import Derived.Test.YtilbcgklkdkkdaaDoorPlainB
namespace Go.Proofs.YtilbcgklkdkkdaaDoor
open Go Go.AM
set_option maxRecDepth 100000
/-- A set that lies in all that satisfy, and satisfies, is the least. -/
theorem least_in {n : Int} {cs : List ConstraintT} {V : Nat → Bool} (hV : Low n V) (hs : Sat cs V) (hin : ∀ X, Sat cs X → ∀ i, V i = true → X i = true) {r : Int} (hr : Least n cs r) : ∀ i, bt r i = V i := by
  have sub := hin _ hr.sat
  have low32 : ∀ i, bt r i = true → i < 32 := fun i => bt_lt
  have strict : ∀ i, bt r i = true → V i = false → card V < card (bt r) := fun i h1 h2 => countP_lt (fun j _ => sub j) ⟨i, by simpa using low32 i h1, h2, h1⟩
  rcases hr.le V hV hs with h | ⟨h, h2 | ⟨i, h2, h3, _⟩⟩
  · have : card V ≤ card (bt r) := countP_mono fun j _ => sub j
    omega
  · exact fun i => (h2 i).symm
  · have := strict i h2 h3
    omega
theorem min_val {n : Int} {cs : List ConstraintT} (h : Chk n cs) {V : Nat → Bool} (hV : Low n V) (hs : Sat cs V) (hin : ∀ X, Sat cs X → ∀ i, V i = true → X i = true) : g_minsat_Minimum n cs = (lst V n.toNat, 0, ()) := by
  rcases min_spec h with ⟨h1, _⟩ | ⟨r, h1, h2⟩
  · exact (h1 _ hV hs).elim
  · rw [h2, lst_congr (X := bt r) (Y := V) fun i _ => least_in hV hs hin h1 i]
def fx (n : Int) (x : Ti64T) : Int := IntKind.wrap .i64 (Int.tmod (IntKind.wrap .u64 x.1) (IntKind.wrap .u64 n))
theorem fx_ok {n : Int} (h0 : 1 ≤ n) (h1 : n ≤ 24) (x : Ti64T) : 0 ≤ fx n x ∧ fx n x < n := by
  unfold fx
  rw [w64u (n := n) (by omega) (by omega)]
  exact tm_ok x.1 (by omega) (by omega)
def unit (n : Int) (x : Ti64T) : ConstraintT := ([(fx n x, ())], [], ())
theorem unit_sat {n : Int} {l : List Ti64T} {X : Nat → Bool} : Sat (l.map (unit n)) X ↔ ∀ x ∈ l, X (fx n x).toNat = true := by
  constructor
  · intro h x hx
    rcases h (unit n x) (List.mem_map.2 ⟨x, hx, rfl⟩) with ⟨y, hy, he⟩ | ⟨y, hy, _⟩
    · rw [List.mem_singleton.1 hy] at he; exact he
    · cases hy
  · intro h c hc
    obtain ⟨x, hx, rfl⟩ := List.mem_map.1 hc
    exact .inl ⟨(fx n x, ()), List.mem_singleton.2 rfl, h x hx⟩
theorem unit_chk {n : Int} {l : List Ti64T} (h0 : 1 ≤ n) (h1 : n ≤ 24) (hl : l.length ≤ 64) : Chk n (l.map (unit n)) := by
  refine ⟨by omega, h1, by simpa using hl, fun c hc => ?_⟩
  obtain ⟨x, _, rfl⟩ := List.mem_map.1 hc
  refine ⟨fun y hy => ?_, fun y hy => by cases hy⟩
  rw [List.mem_singleton.1 hy]
  exact fx_ok h0 h1 x
def outC (k : Int) : ConstraintT := ([], [(k, ())], ())
theorem out_sat {cs : List ConstraintT} {k : Int} {X : Nat → Bool} : Sat (cs ++ [outC k]) X ↔ Sat cs X ∧ X k.toNat = false := by
  constructor
  · intro h
    refine ⟨fun c hc => h c (List.mem_append_left _ hc), ?_⟩
    rcases h (outC k) (List.mem_append_right _ (List.mem_singleton.2 rfl)) with ⟨y, hy, _⟩ | ⟨y, hy, he⟩
    · cases hy
    · rw [List.mem_singleton.1 hy] at he; exact he
  · rintro ⟨h1, h2⟩ c hc
    rcases List.mem_append.1 hc with h | h
    · exact h1 c h
    · rw [List.mem_singleton.1 h]
      exact .inr ⟨(k, ()), List.mem_singleton.2 rfl, h2⟩
theorem ints_of {a b : List Ti64T} (h : a = b) : g_keep_Ints (segL a 0 a.length) (segL b 0 (List.length b)) = true := by
  rw [seg_all, seg_all, h]; exact ints_self _
theorem units_end {n : Nat} {l : List Ti64T} (h0 : 1 ≤ n) (h1 : n ≤ 24) (hl : l.length ≤ 30) (v4 : List BooT) (hv : ∀ i : Nat, i < n → ((List.getD v4 i BooD).1 = true ↔ ∃ x ∈ l, fx (n : Int) x = (i : Int))) (v5 : List ConstraintT) (h5 : v5 = l.map (unit (n : Int))) (v2 : List Ti64T) (h2 : v2 = lst (fun i => (List.getD v4 i BooD).1) n) (out : Int) :
    cond (((g_minsat_Minimum (n : Int) (segL v5 0 (List.length v5))).2.1 != 0) || (!(g_keep_Ints (segL (g_minsat_Minimum (n : Int) (segL v5 0 (List.length v5))).1 0 (g_minsat_Minimum (n : Int) (segL v5 0 (List.length v5))).1.length) (segL v2 0 (List.length v2))))) false (cond (List.getD v4 (0 + (Int.toNat (IntKind.wrap .i64 (Int.tmod (IntKind.wrap .u64 out) (IntKind.wrap .u64 (n : Int)))))) BooD).1 (((g_minsat_Minimum (n : Int) (segL (v5 ++ [(([], [((IntKind.wrap .i64 (Int.tmod (IntKind.wrap .u64 out) (IntKind.wrap .u64 (n : Int)))), ())], ()) : ConstraintT)]) 0 ((List.length v5) + 1))).2.1 == 8) && (((g_minsat_Minimum (n : Int) (segL (v5 ++ [(([], [((IntKind.wrap .i64 (Int.tmod (IntKind.wrap .u64 out) (IntKind.wrap .u64 (n : Int)))), ())], ()) : ConstraintT)]) 0 ((List.length v5) + 1))).1.length : Int) == 0)) (((g_minsat_Minimum (n : Int) (segL (v5 ++ [(([], [((IntKind.wrap .i64 (Int.tmod (IntKind.wrap .u64 out) (IntKind.wrap .u64 (n : Int)))), ())], ()) : ConstraintT)]) 0 ((List.length v5) + 1))).2.1 == 0) && (g_keep_Ints (segL (g_minsat_Minimum (n : Int) (segL (v5 ++ [(([], [((IntKind.wrap .i64 (Int.tmod (IntKind.wrap .u64 out) (IntKind.wrap .u64 (n : Int)))), ())], ()) : ConstraintT)]) 0 ((List.length v5) + 1))).1 0 (g_minsat_Minimum (n : Int) (segL (v5 ++ [(([], [((IntKind.wrap .i64 (Int.tmod (IntKind.wrap .u64 out) (IntKind.wrap .u64 (n : Int)))), ())], ()) : ConstraintT)]) 0 ((List.length v5) + 1))).1.length) (segL v2 0 (List.length v2))))) = true := by
  have hk := fx_ok (n := (n : Int)) (by omega) (by omega) (out, ())
  have ek : IntKind.wrap .i64 (Int.tmod (IntKind.wrap .u64 out) (IntKind.wrap .u64 (n : Int))) = fx (n : Int) (out, ()) := rfl
  rw [ek]
  generalize fx (n : Int) (out, ()) = k at hk
  obtain ⟨k, rfl⟩ := Int.eq_ofNat_of_zero_le hk.1
  have hkn : k < n := by omega
  have e1 : segL (v5 ++ [(([], [((k : Int), ())], ()) : ConstraintT)]) 0 ((List.length v5) + 1) = v5 ++ [outC (k : Int)] := by
    have : (List.length v5) + 1 = (v5 ++ [outC (k : Int)]).length := by simp
    rw [this]; exact seg_all _
  rw [seg_all, e1, Nat.zero_add, Int.toNat_natCast]
  -- the forced set
  have W : ∃ V : Nat → Bool, (∀ i, V i = (decide (i < n) && (List.getD v4 i BooD).1)) := ⟨_, fun _ => rfl⟩
  obtain ⟨V, hW⟩ := W
  have hV : Low (n : Int) V := fun i hi => by rw [hW] at hi; simp only [Bool.and_eq_true, decide_eq_true_eq] at hi; omega
  have hVv : ∀ i, i < n → V i = (List.getD v4 i BooD).1 := fun i hi => by rw [hW]; simp [hi]
  have hVi : ∀ i, V i = true ↔ ∃ x ∈ l, fx (n : Int) x = (i : Int) := fun i => by
    constructor
    · intro h
      have h3 := hV i h
      rw [hVv i (by omega)] at h
      exact (hv i (by omega)).1 h
    · rintro ⟨x, hx, he⟩
      have := fx_ok (n := (n : Int)) (by omega) (by omega) x
      have hi : i < n := by omega
      rw [hVv i hi]
      exact (hv i hi).2 ⟨x, hx, he⟩
  have hs : Sat v5 V := by
    rw [h5, unit_sat]
    intro x hx
    have := fx_ok (n := (n : Int)) (by omega) (by omega) x
    exact (hVi _).2 ⟨x, hx, by omega⟩
  have hin : ∀ X, Sat v5 X → ∀ i, V i = true → X i = true := fun X hX i hi => by
    rw [h5, unit_sat] at hX
    obtain ⟨x, hx, he⟩ := (hVi i).1 hi
    have := hX x hx
    rw [he, Int.toNat_natCast] at this
    exact this
  have hchk : Chk (n : Int) v5 := by rw [h5]; exact unit_chk (by omega) (by omega) (by omega)
  have hw : v2 = lst V n := by rw [h2]; exact lst_congr fun i hi => (hVv i hi).symm
  have m1 := min_val hchk hV hs hin
  rw [Int.toNat_natCast] at m1
  have hchk2 : Chk (n : Int) (v5 ++ [outC (k : Int)]) := by
    refine ⟨hchk.n0, hchk.n1, by rw [h5]; simp; omega, fun c hc => ?_⟩
    rcases List.mem_append.1 hc with h | h
    · exact hchk.el c h
    · rw [List.mem_singleton.1 h]
      refine ⟨fun y hy => (by cases hy), fun y hy => ?_⟩
      rw [List.mem_singleton.1 hy]
      exact hk
  rw [m1]
  show cond (((0 : Int) != 0) || (!(g_keep_Ints (segL (lst V n) 0 (lst V n).length) (segL v2 0 (List.length v2))))) false _ = true
  rw [ints_of hw.symm]
  show cond (List.getD v4 k BooD).1 _ _ = true
  cases hb : (List.getD v4 k BooD).1 with
  | true =>
    have hno : ∀ X, Low (n : Int) X → ¬ Sat (v5 ++ [outC (k : Int)]) X := fun X _ hX => by
      obtain ⟨h3, h4⟩ := out_sat.1 hX
      rw [Int.toNat_natCast, hin X h3 k (by rw [hVv k hkn]; exact hb)] at h4
      cases h4
    rcases min_spec hchk2 with ⟨_, h3⟩ | ⟨r, h3, _⟩
    · rw [h3]; rfl
    · exact (hno _ h3.low h3.sat).elim
  | false =>
    have hs2 : Sat (v5 ++ [outC (k : Int)]) V := out_sat.2 ⟨hs, by rw [Int.toNat_natCast, hVv k hkn]; exact hb⟩
    have m2 := min_val hchk2 hV hs2 fun X hX => hin X (out_sat.1 hX).1
    rw [Int.toNat_natCast] at m2
    rw [m2]
    show (((0 : Int) == 0) && g_keep_Ints (segL (lst V n) 0 (lst V n).length) (segL v2 0 (List.length v2))) = true
    rw [ints_of hw.symm]; rfl
theorem true_law43_MinsatUnits (n : Int) (force : List Ti64T) (out : Int) (_hw : VSs.wf e_law43_MinsatUnits.A (n, force, out, ())) : g_law43_MinsatUnits n force out = true := by
  unfold g_law43_MinsatUnits
  rw [awake_true, Bool.not_true, cond_false]
  cases hg : decide ((force.length : Int) > 30) with
  | true => rfl
  | false =>
    have hg := of_decide_eq_false hg
    rw [cond_false]
    have hN := n1_ok n
    unfold S_law43_MinsatUnits_0 S_law43_MinsatUnits_1
    generalize IntKind.wrap .i64 (1 + (IntKind.wrap .i64 (Int.tmod (IntKind.wrap .u64 n) 24))) = N at hN
    obtain ⟨k, rfl⟩ := Int.eq_ofNat_of_zero_le (show 0 ≤ N by omega)
    rw [Int.toNat_natCast]
    refine upS_ind (P := fun b : Bool => b = true) (I := fun c (s : List BooT × List ConstraintT) => s.1.length = k ∧ s.2 = (force.take c).map (unit (k : Int)) ∧ ∀ i : Nat, i < k → ((List.getD s.1 i BooD).1 = true ↔ ∃ x ∈ force.take c, fx (k : Int) x = (i : Int))) _ 0 (fun s hI => ?_) (fun c _ hc next hnext s hI => ?_) _ ⟨by simp, rfl, fun i hi => ?_⟩
    · obtain ⟨_, i2, i3⟩ := hI
      rw [Nat.sub_zero, Nat.zero_add, List.take_length] at i2 i3
      refine upS_ind (P := fun b : Bool => b = true) (I := fun c (w : List Ti64T) => w = lst (fun i => (List.getD s.1 i BooD).1) c) _ 0 (fun w hw => ?_) (fun c _ _ next hnext w hw => ?_) [] rfl
      · rw [Nat.sub_zero, Nat.zero_add] at hw
        exact units_end (by omega) (by omega) (by omega) s.1 i3 s.2 i2 w hw out
      · cases hb : (List.getD s.1 c BooD).1 with
        | true => exact hnext _ (by rw [hw, lst_succ, hb]; rfl)
        | false => exact hnext _ (by rw [hw, lst_succ, hb]; exact (List.append_nil _).symm)
    · obtain ⟨i1, i2, i3⟩ := hI
      have hcl : c < force.length := by omega
      have hf := fx_ok (n := (k : Int)) (by omega) (by omega) (List.getD force c Ti64D)
      have ef : IntKind.wrap .i64 (Int.tmod (IntKind.wrap .u64 (List.getD force c Ti64D).1) (IntKind.wrap .u64 (k : Int))) = fx (k : Int) (List.getD force c Ti64D) := rfl
      have eg : List.getD force c Ti64D = force[c] := by simp [List.getD, hcl]
      have et : force.take (c + 1) = force.take c ++ [List.getD force c Ti64D] := by rw [List.take_succ_eq_append_getElem hcl, eg]
      refine hnext _ ⟨?_, ?_, fun i hi => ?_⟩
      · show (List.set s.1 _ _).length = k
        rw [List.length_set]; exact i1
      · show s.2 ++ [_] = _
        rw [et, List.map_append, i2]; rfl
      · show (List.getD (List.set s.1 (0 + (Int.toNat (IntKind.wrap .i64 (Int.tmod (IntKind.wrap .u64 (List.getD force c Ti64D).1) (IntKind.wrap .u64 (k : Int)))))) (true, ())) i BooD).1 = true ↔ _
        rw [ef, et, Nat.zero_add]
        obtain ⟨q, hq⟩ := Int.eq_ofNat_of_zero_le hf.1
        rw [hq, Int.toNat_natCast]
        have hql : q < s.1.length := by omega
        have key : (List.getD (List.set s.1 q ((true, ()) : BooT)) i BooD).1 = (if q = i then true else (List.getD s.1 i BooD).1) := by
          unfold List.getD
          rw [List.getElem?_set]
          by_cases h : q = i
          · subst h; simp [hql]
          · simp [h]
        rw [key]
        constructor
        · intro h
          by_cases hqi : q = i
          · exact ⟨_, List.mem_append_right _ (List.mem_singleton.2 rfl), by rw [hq, hqi]⟩
          · rw [if_neg hqi] at h
            obtain ⟨x, hx, he⟩ := (i3 i hi).1 h
            exact ⟨x, List.mem_append_left _ hx, he⟩
        · rintro ⟨x, hx, he⟩
          by_cases hqi : q = i
          · rw [if_pos hqi]
          · rw [if_neg hqi]
            rcases List.mem_append.1 hx with h | h
            · exact (i3 i hi).2 ⟨x, h, he⟩
            · rw [List.mem_singleton.1 h, hq] at he
              exact (hqi (by omega)).elim
    · have e1 : List.getD (List.replicate k BooD) i BooD = BooD := by
        unfold List.getD
        rw [List.getElem?_replicate]
        split <;> rfl
      rw [e1]
      exact ⟨fun h => (by cases h), fun ⟨x, hx, _⟩ => (by simp at hx)⟩
end Go.Proofs.YtilbcgklkdkkdaaDoor
