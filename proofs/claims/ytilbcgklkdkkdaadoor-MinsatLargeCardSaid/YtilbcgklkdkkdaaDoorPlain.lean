/-
  Minsat: the law MinsatLarge, in plain Lean.
-/
import Derived.Test.YtilbcgklkdkkdaaDoorPlainB
namespace Go.Proofs.YtilbcgklkdkkdaaDoor
open Go Go.AM
set_option maxRecDepth 100000
theorem sat_congr {cs ds : List ConstraintT} {X : Nat → Bool} (h : ∀ c, c ∈ ds → (c ∈ cs ∨ ∀ Y : Nat → Bool, Sat [c] Y)) (hs : Sat cs X) : Sat ds X := fun c hc => by
  rcases h c hc with h1 | h1
  · exact hs c h1
  · exact h1 X c (List.mem_singleton.2 rfl)
theorem least_congr {n : Int} {cs ds : List ConstraintT} (h : ∀ X, Sat cs X ↔ Sat ds X) {r : Int} (hr : Least n cs r) : Least n ds r :=
  ⟨hr.u, hr.low, (h _).1 hr.sat, fun X h1 h2 => hr.le X h1 ((h X).2 h2)⟩
theorem min_of_least {n : Int} {cs : List ConstraintT} (h : Chk n cs) {r : Int} (hr : Least n cs r) : g_minsat_Minimum n cs = (lst (bt r) n.toNat, 0, ()) := by
  rcases min_spec h with ⟨h1, _⟩ | ⟨q, h1, h2⟩
  · exact (h1 _ hr.low hr.sat).elim
  · rw [h2, lst_congr (X := bt q) (Y := bt r) fun i _ => least_unique h1 hr i]
def taut : ConstraintT := ([(0, ())], [(0, ())], ())
theorem taut_sat (Y : Nat → Bool) : Sat [taut] Y := fun c hc => by
  rw [List.mem_singleton.1 hc]
  cases hy : Y 0 with
  | true => exact .inl ⟨(0, ()), List.mem_singleton.2 rfl, hy⟩
  | false => exact .inr ⟨(0, ()), List.mem_singleton.2 rfl, hy⟩
theorem more_min {n : Int} {f : List ConstraintT} {K : Int} (h : Chk n f) (hn : 1 ≤ n) (hl : f.length ≤ 20) (h0 : 0 ≤ K) (h1 : K ≤ (f.length : Int)) {r : Int} (hr : Least n f r) :
    g_minsat_Minimum n (segL (((slcL f K (f.length : Int)) ++ (slcL f 0 K)) ++ [(([(0, ())], [(0, ())], ()) : ConstraintT)]) 0 (((slcL f K (f.length : Int)).length + (slcL f 0 K).length) + 1)) = (lst (bt r) n.toNat, 0, ()) := by
  obtain ⟨k, rfl⟩ := Int.eq_ofNat_of_zero_le h0
  have e1 : slcL f (k : Int) (f.length : Int) = f.drop k := by
    unfold slcL
    rw [Int.toNat_natCast, Int.toNat_natCast, List.take_of_length_le (by simp)]
  have e2 : slcL f 0 (k : Int) = f.take k := by
    unfold slcL
    rw [Int.toNat_natCast]
    show (f.drop 0).take (k - 0) = f.take k
    simp
  rw [e1, e2]
  have e3 : segL ((f.drop k ++ f.take k) ++ [taut]) 0 (((f.drop k).length + (f.take k).length) + 1) = (f.drop k ++ f.take k) ++ [taut] := by
    have : ((f.drop k).length + (f.take k).length) + 1 = ((f.drop k ++ f.take k) ++ [taut]).length := by simp only [List.length_append, List.length_cons, List.length_nil]
    rw [this, seg_all]
  have e4 : (([(0, ())], [(0, ())], ()) : ConstraintT) = taut := rfl
  rw [e4, e3]
  have mem : ∀ c, c ∈ (f.drop k ++ f.take k) ++ [taut] ↔ c ∈ f ∨ c = taut := fun c => by
    rw [List.mem_append, List.mem_append, List.mem_singleton]
    constructor
    · rintro ((h | h) | h)
      · exact .inl (List.mem_of_mem_drop h)
      · exact .inl (List.mem_of_mem_take h)
      · exact .inr h
    · rintro (h | h)
      · rw [← List.take_append_drop k f, List.mem_append] at h
        rcases h with h | h
        · exact .inl (.inr h)
        · exact .inl (.inl h)
      · exact .inr h
  have hs : ∀ X, Sat f X ↔ Sat ((f.drop k ++ f.take k) ++ [taut]) X := fun X => by
    constructor
    · intro hX
      refine sat_congr (fun c hc => ?_) hX
      rcases (mem c).1 hc with h2 | h2
      · exact .inl h2
      · subst h2; exact .inr taut_sat
    · intro hX c hc
      exact hX c ((mem c).2 (.inl hc))
  refine min_of_least ⟨h.n0, h.n1, by simp; omega, fun c hc => ?_⟩ (least_congr hs hr)
  rcases (mem c).1 hc with h2 | h2
  · exact h.el c h2
  · subst h2
    refine ⟨fun x hx => ?_, fun x hx => ?_⟩
    · rw [List.mem_singleton.1 hx]; exact ⟨Int.le_refl 0, by show (0 : Int) < n; omega⟩
    · rw [List.mem_singleton.1 hx]; exact ⟨Int.le_refl 0, by show (0 : Int) < n; omega⟩
theorem fit_chk {n : Int} {cs : List ConstraintT} (h0 : 1 ≤ n) (h1 : n ≤ 24) (hl : cs.length ≤ 64) : Chk n (g_law43_fit n cs) := by
  have one : ∀ x : Ti64T, 0 ≤ (fitx n x).1 ∧ (fitx n x).1 < n := fun x => by
    unfold fitx
    rw [w64u (n := n) (by omega) (by omega)]
    exact tm_ok x.1 (by omega) (by omega)
  rw [fit_eq]
  refine ⟨by omega, h1, by simpa using hl, fun c hc => ?_⟩
  obtain ⟨d, _, rfl⟩ := List.mem_map.1 hc
  refine ⟨fun x hx => ?_, fun x hx => ?_⟩
  · obtain ⟨y, _, rfl⟩ := List.mem_map.1 hx; exact one y
  · obtain ⟨y, _, rfl⟩ := List.mem_map.1 hx; exact one y
/-- No set that is given and satisfies the constraints is less. -/
theorem not_less {n : Nat} {cs : List ConstraintT} (hn : n ≤ 24) {r : Int} (hr : Least (n : Int) cs r) {X : Nat → Bool} (hX : Low (n : Int) X) (hs : Sat cs X) : g_r42_Less (lst X n) (lst (bt r) n) = false := by
  have lx : ∀ i, X i = true → i < n := fun i hi => by have := hX i hi; omega
  have lr : ∀ i, bt r i = true → i < n := fun i hi => by have := hr.low i hi; omega
  rcases hr.le X hX hs with h | ⟨h, h2 | h2⟩
  · exact (less_len (by rw [lst_len_n (by omega) lr, lst_len_n (by omega) lx]; exact h)).2
  · rw [lst_congr (X := X) (Y := bt r) fun i _ => h2 i]; exact less_self _
  · exact (less_at (by omega) lr lx h h2).2
theorem large_end {n : Nat} {f : List ConstraintT} (h : Chk (n : Int) f) (hn : 1 ≤ n) (hl : f.length ≤ 20) (X : Nat → Bool) (turn : Int) (v2 : List Ti64T) (hv : v2 = lst X n) :
    cond ((g_r42_Satisfies (segL v2 0 (List.length v2)) f) && (((g_minsat_Minimum (n : Int) f).2.1 != 0) || (g_r42_Less (segL v2 0 (List.length v2)) (g_minsat_Minimum (n : Int) f).1))) false (cond ((g_minsat_Minimum (n : Int) f).2.1 != 0) (((g_minsat_Minimum (n : Int) f).2.1 == 8) && (((g_minsat_Minimum (n : Int) f).1.length : Int) == 0)) (cond (!(g_r42_Satisfies (g_minsat_Minimum (n : Int) f).1 f)) false
      (cond (decide ((f.length : Int) > 0))
        (((g_minsat_Minimum (n : Int) (segL (((slcL f (IntKind.wrap .i64 (Int.tmod (IntKind.wrap .u64 turn) (IntKind.wrap .u64 (f.length : Int)))) (f.length : Int)) ++ (slcL f 0 (IntKind.wrap .i64 (Int.tmod (IntKind.wrap .u64 turn) (IntKind.wrap .u64 (f.length : Int)))))) ++ [(([(0, ())], [(0, ())], ()) : ConstraintT)]) 0 (((slcL f (IntKind.wrap .i64 (Int.tmod (IntKind.wrap .u64 turn) (IntKind.wrap .u64 (f.length : Int)))) (f.length : Int)).length + (slcL f 0 (IntKind.wrap .i64 (Int.tmod (IntKind.wrap .u64 turn) (IntKind.wrap .u64 (f.length : Int))))).length) + 1))).2.1 == 0) && (g_keep_Ints (g_minsat_Minimum (n : Int) f).1 (g_minsat_Minimum (n : Int) (segL (((slcL f (IntKind.wrap .i64 (Int.tmod (IntKind.wrap .u64 turn) (IntKind.wrap .u64 (f.length : Int)))) (f.length : Int)) ++ (slcL f 0 (IntKind.wrap .i64 (Int.tmod (IntKind.wrap .u64 turn) (IntKind.wrap .u64 (f.length : Int)))))) ++ [(([(0, ())], [(0, ())], ()) : ConstraintT)]) 0 (((slcL f (IntKind.wrap .i64 (Int.tmod (IntKind.wrap .u64 turn) (IntKind.wrap .u64 (f.length : Int)))) (f.length : Int)).length + (slcL f 0 (IntKind.wrap .i64 (Int.tmod (IntKind.wrap .u64 turn) (IntKind.wrap .u64 (f.length : Int))))).length) + 1))).1))
        (((g_minsat_Minimum (n : Int) (segL (((slcL f 0 (f.length : Int)) ++ (slcL f 0 0)) ++ [(([(0, ())], [(0, ())], ()) : ConstraintT)]) 0 (((slcL f 0 (f.length : Int)).length + (slcL f 0 0).length) + 1))).2.1 == 0) && (g_keep_Ints (g_minsat_Minimum (n : Int) f).1 (g_minsat_Minimum (n : Int) (segL (((slcL f 0 (f.length : Int)) ++ (slcL f 0 0)) ++ [(([(0, ())], [(0, ())], ()) : ConstraintT)]) 0 (((slcL f 0 (f.length : Int)).length + (slcL f 0 0).length) + 1))).1))))) = true := by
  have n1 := h.n1
  rw [seg_all, hv]
  -- the set below n
  have hY : lst X n = lst (fun i => X i && decide (i < n)) n := lst_congr fun i hi => by simp [hi]
  have lowY : Low (n : Int) (fun i => X i && decide (i < n)) := fun i hi => by
    simp only [Bool.and_eq_true, decide_eq_true_eq] at hi; omega
  rw [hY]
  rcases min_spec h with ⟨h1, h2⟩ | ⟨r, h1, h2⟩
  · rw [h2]
    have : g_r42_Satisfies (lst (fun i => X i && decide (i < n)) n) f = false := by
      cases hb : g_r42_Satisfies (lst (fun i => X i && decide (i < n)) n) f with
      | false => rfl
      | true => exact (h1 _ lowY ((satisfies_sat h (Int.le_refl _)).1 hb)).elim
    rw [this]; rfl
  · rw [Int.toNat_natCast] at h2
    have hsr : g_r42_Satisfies (lst (bt r) n) f = true := (satisfies_sat h (Int.le_refl _)).2 h1.sat
    have e0 : ((g_r42_Satisfies (lst (fun i => X i && decide (i < n)) n) f) && (((g_minsat_Minimum (n : Int) f).2.1 != 0) || (g_r42_Less (lst (fun i => X i && decide (i < n)) n) (g_minsat_Minimum (n : Int) f).1))) = false := by
      cases hb : g_r42_Satisfies (lst (fun i => X i && decide (i < n)) n) f with
      | false => rfl
      | true =>
        have := not_less (by omega) h1 lowY ((satisfies_sat h (Int.le_refl _)).1 hb)
        rw [h2]
        show (true && (((0 : Int) != 0) || g_r42_Less (lst (fun i => X i && decide (i < n)) n) (lst (bt r) n))) = false
        rw [this]; rfl
    rw [e0, cond_false]
    have m2 : g_minsat_Minimum (n : Int) (segL (((slcL f 0 (f.length : Int)) ++ (slcL f 0 0)) ++ [(([(0, ())], [(0, ())], ()) : ConstraintT)]) 0 (((slcL f 0 (f.length : Int)).length + (slcL f 0 0).length) + 1)) = (lst (bt r) n, 0, ()) := by
      have := more_min h (by omega) hl (Int.le_refl 0) (Int.natCast_nonneg _) h1
      rw [Int.toNat_natCast] at this
      exact this
    rw [m2]
    cases hd : decide ((f.length : Int) > 0) with
    | false =>
      rw [h2]
      show cond ((0 : Int) != 0) _ (cond (!(g_r42_Satisfies (lst (bt r) n) f)) false (((0 : Int) == 0) && g_keep_Ints (lst (bt r) n) (lst (bt r) n))) = true
      rw [hsr, ints_self]; rfl
    | true =>
      have hk := lg_k turn hd hl
      have m3 := more_min h (by omega) hl hk.1 hk.2 h1
      rw [Int.toNat_natCast] at m3
      rw [m3, h2]
      show cond ((0 : Int) != 0) _ (cond (!(g_r42_Satisfies (lst (bt r) n) f)) false (((0 : Int) == 0) && g_keep_Ints (lst (bt r) n) (lst (bt r) n))) = true
      rw [hsr, ints_self]; rfl
theorem true_law43_MinsatLarge (n : Int) (cs : List ConstraintT) (set : List Ti64T) (turn : Int) (_hw : VSs.wf e_law43_MinsatLarge.A (n, cs, set, turn, ())) : g_law43_MinsatLarge n cs set turn = true := by
  unfold g_law43_MinsatLarge
  rw [awake_true, Bool.not_true, cond_false]
  cases hg : (decide ((cs.length : Int) > 20)) || (decide ((set.length : Int) > 30)) with
  | true => rfl
  | false =>
    rw [cond_false]
    have hN := n1_ok n
    unfold S_law43_MinsatLarge_0
    refine upV_ind (P := fun b : Bool => b = true) ?_ _ _ fun c _ _ x hx => ?_
    · unfold S_law43_MinsatLarge_1
      refine upS_ind (P := fun b : Bool => b = true) (I := fun _ _ => True) _ 0 (fun v _ => ?_) (fun c _ _ next hnext v _ => hnext _ trivial) _ trivial
      unfold S_law43_MinsatLarge_2
      generalize IntKind.wrap .i64 (1 + (IntKind.wrap .i64 (Int.tmod (IntKind.wrap .u64 n) 24))) = N at hN
      obtain ⟨k, rfl⟩ := Int.eq_ofNat_of_zero_le (show 0 ≤ N by omega)
      refine upS_ind (P := fun b : Bool => b = true) (I := fun c (w : List Ti64T) => w = lst (fun i => (List.getD v i BooD).1) c) _ 0 (fun w hI => ?_) (fun c _ _ next hnext w hI => ?_) [] rfl
      · have hl := fit_small (n := (k : Int)) hg
        simp only [Bool.or_eq_false_iff, decide_eq_false_iff_not] at hg
        rw [Int.toNat_natCast, Nat.sub_zero, Nat.zero_add] at hI
        exact large_end (fit_chk (by omega) (by omega) (by omega)) (by omega) hl _ turn w hI
      · cases hb : (List.getD v c BooD).1 with
        | true => exact hnext _ (by rw [hI, lst_succ, hb]; rfl)
        | false => exact hnext _ (by rw [hI, lst_succ, hb]; exact (List.append_nil _).symm)
    · show cond _ true x = true
      rw [hx]
      cases ((decide (((List.getD cs c ConstraintD).1.length : Int) > 10)) || (decide (((List.getD cs c ConstraintD).2.1.length : Int) > 10))) <;> rfl
end Go.Proofs.YtilbcgklkdkkdaaDoor
