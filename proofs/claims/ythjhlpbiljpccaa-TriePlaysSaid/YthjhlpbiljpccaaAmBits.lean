/-
  Numbers of 32 bits as bit vectors; loops in plain Lean.
-/
import Derived.Test.YthjhlpbiljpccaaAmLib
namespace Go.AM

abbrev B (x : Int) : BitVec 32 := BitVec.ofInt 32 x
theorem wrap_u32_nat {n : Nat} (h : n < 4294967296) : IntKind.wrap .u32 (n : Int) = (n : Int) := IntWalk.u32_in _ (by omega)
theorem wrap_bv (v : BitVec 32) : IntKind.wrap .u32 (v.toNat : Int) = (v.toNat : Int) := wrap_u32_nat v.isLt
theorem B_nat (v : BitVec 32) : B (v.toNat : Int) = v := by
  rw [B, BitVec.ofInt_natCast, BitVec.ofNat_toNat, BitVec.setWidth_eq]
theorem iand_eq (x y : Int) : iand .u32 x y = ((B x &&& B y).toNat : Int) := wrap_bv _
theorem ior_eq (x y : Int) : ior .u32 x y = ((B x ||| B y).toNat : Int) := wrap_bv _
theorem ixor_eq (x y : Int) : ixor .u32 x y = ((B x ^^^ B y).toNat : Int) := wrap_bv _
theorem iandnot_eq (x y : Int) : iandnot .u32 x y = ((B x &&& ~~~ B y).toNat : Int) := wrap_bv _
theorem B_iand (x y : Int) : B (iand .u32 x y) = B x &&& B y := by rw [iand_eq, B_nat]
theorem B_ior (x y : Int) : B (ior .u32 x y) = B x ||| B y := by rw [ior_eq, B_nat]
theorem B_ixor (x y : Int) : B (ixor .u32 x y) = B x ^^^ B y := by rw [ixor_eq, B_nat]
theorem B_iandnot (x y : Int) : B (iandnot .u32 x y) = B x &&& ~~~ B y := by rw [iandnot_eq, B_nat]

/-- A number of 32 bits. -/
def u32 (x : Int) : Prop := 0 ≤ x ∧ x < 4294967296
theorem u32_bv (v : BitVec 32) : u32 (v.toNat : Int) := ⟨by omega, by have := v.isLt; omega⟩
theorem u32_of {x : Int} (h : inR .u32 x) : u32 x := ⟨h.1, by have : x ≤ 4294967295 := h.2; omega⟩
theorem u32_toNat {x : Int} (h : u32 x) : ((B x).toNat : Int) = x := by
  rw [B, BitVec.toNat_ofInt]
  obtain ⟨h1, h2⟩ := h
  have : x % ((2 ^ 32 : Nat) : Int) = x := Int.emod_eq_of_lt h1 (by simpa using h2)
  rw [this]; omega
theorem B_inj {x y : Int} (hx : u32 x) (hy : u32 y) (h : B x = B y) : x = y := by
  rw [← u32_toNat hx, ← u32_toNat hy, h]
theorem eq_B {x y : Int} (hx : u32 x) (hy : u32 y) : (x == y) = (B x == B y) := by
  rw [Bool.eq_iff_iff, beq_iff_eq, beq_iff_eq]
  exact ⟨fun h => by rw [h], B_inj hx hy⟩
theorem u32_iand (x y : Int) : u32 (iand .u32 x y) := by rw [iand_eq]; exact u32_bv _
theorem u32_ior (x y : Int) : u32 (ior .u32 x y) := by rw [ior_eq]; exact u32_bv _
theorem u32_ixor (x y : Int) : u32 (ixor .u32 x y) := by rw [ixor_eq]; exact u32_bv _
theorem u32_iandnot (x y : Int) : u32 (iandnot .u32 x y) := by rw [iandnot_eq]; exact u32_bv _
theorem u32_lit {n : Nat} (h : n < 4294967296) : u32 (n : Int) := ⟨by omega, by omega⟩
theorem u32_zero : u32 0 := ⟨by decide, by decide⟩
theorem B_zero : B 0 = 0#32 := rfl

/-- The bit at a place. -/
theorem ishr_nat {n c : Nat} (hc : c ≤ 32) : ishr .u32 (n : Int) (c : Int) = ((n >>> c : Nat) : Int) := by
  unfold ishr
  rw [Int.toNat_natCast, Nat.min_eq_left (show c ≤ IntKind.bits .u32 from hc), Int.fdiv_eq_ediv_of_nonneg _ (by exact Int.pow_nonneg (by decide)), Nat.shiftRight_eq_div_pow]
  norm_cast
theorem bit_at {x : Int} (h : u32 x) {c : Nat} (hc : c < 32) : iand .u32 (ishr .u32 x (c : Int)) 1 = if (B x).getLsbD c then 1 else 0 := by
  rw [iand_eq]
  have hx := u32_toNat h
  generalize hv : B x = v at *
  rw [← hx, ishr_nat (Nat.le_of_lt hc)]
  have h1 : B ((v.toNat >>> c : Nat) : Int) = v >>> c := by
    rw [B, BitVec.ofInt_natCast]
    apply BitVec.eq_of_toNat_eq
    rw [BitVec.toNat_ofNat, BitVec.toNat_ushiftRight]
    apply Nat.mod_eq_of_lt
    exact Nat.lt_of_le_of_lt (Nat.shiftRight_le _ _) v.isLt
  rw [h1]
  have h2 : (v >>> c) &&& B 1 = if v.getLsbD c then 1#32 else 0#32 := by
    apply BitVec.eq_of_getLsbD_eq
    intro i hi
    have : B 1 = 1#32 := rfl
    rw [this, BitVec.getLsbD_and, BitVec.getLsbD_ushiftRight]
    by_cases h0 : i = 0
    · subst h0; cases v.getLsbD c <;> simp
    · have : (1#32).getLsbD i = false := by simp [BitVec.getLsbD_one]; omega
      rw [this]; cases v.getLsbD c <;> simp [BitVec.getLsbD_one]; omega
  rw [h2]
  cases v.getLsbD c <;> rfl
theorem bv_zero {v : BitVec 32} : v = 0#32 ↔ ∀ i, i < 32 → v.getLsbD i = false := by
  constructor
  · intro h i _; rw [h]; simp
  · intro h; apply BitVec.eq_of_getLsbD_eq; intro i hi; rw [h i hi]; simp

theorem B_wrap (y : Int) : B (IntKind.wrap .u32 y) = B y := by
  apply BitVec.eq_of_toNat_eq
  rw [BitVec.toNat_ofInt, BitVec.toNat_ofInt, IntKind.wrap_u32]
  simp
theorem B_ishl (x : Int) {k : Nat} (hk : k ≤ 32) : B (ishl .u32 x (k : Int)) = B x <<< k := by
  unfold ishl
  rw [B_wrap, Int.toNat_natCast, Nat.min_eq_left (show k ≤ IntKind.bits .u32 from hk)]
  apply BitVec.eq_of_toNat_eq
  rw [BitVec.toNat_ofInt, BitVec.toNat_shiftLeft, BitVec.toNat_ofInt, Nat.shiftLeft_eq]
  obtain ⟨a, ha⟩ : ∃ a : Nat, x % ((2 ^ 32 : Nat) : Int) = (a : Int) := ⟨(x % ((2 ^ 32 : Nat) : Int)).toNat, by
    have := Int.emod_nonneg x (show ((2 ^ 32 : Nat) : Int) ≠ 0 by decide)
    omega⟩
  rw [ha, Int.toNat_natCast]
  have hx : x = (a : Int) + ((2 ^ 32 : Nat) : Int) * (x / ((2 ^ 32 : Nat) : Int)) := by
    have := Int.emod_add_mul_ediv x ((2 ^ 32 : Nat) : Int)
    omega
  have h2 : x * 2 ^ k = ((a * 2 ^ k : Nat) : Int) + ((2 ^ 32 : Nat) : Int) * ((x / ((2 ^ 32 : Nat) : Int)) * 2 ^ k) := by
    conv => lhs; rw [hx]
    rw [Int.add_mul, Int.mul_assoc]
    norm_cast
  rw [h2, Int.add_mul_emod_self_left]
  norm_cast
theorem u32_ishl (x k : Int) : u32 (ishl .u32 x k) := by
  unfold ishl
  generalize x * 2 ^ (min k.toNat (IntKind.bits .u32)) = y
  rw [IntKind.wrap_u32]
  exact ⟨by omega, by omega⟩

/-! ### Loops -/
section
variable {R : Type}
theorem upV_congr {b b' : Nat → R → R} {r r' : R} (hr : r = r') : ∀ (m s : Nat), (∀ c, s ≤ c → c < s + m → ∀ x, b c x = b' c x) → upV b r m s = upV b' r' m s
  | 0, _, _ => hr
  | m + 1, s, h => by
    simp only [upV]
    rw [h s (Nat.le_refl _) (by omega), upV_congr hr m (s + 1) fun c h1 h2 => h c (by omega) (by omega)]
theorem upV_ind {P : R → Prop} {b : Nat → R → R} {r : R} (hr : P r) : ∀ (m s : Nat), (∀ c, s ≤ c → c < s + m → ∀ x, P x → P (b c x)) → P (upV b r m s)
  | 0, _, _ => hr
  | m + 1, s, h => by
    simp only [upV]
    exact h s (Nat.le_refl _) (by omega) _ (upV_ind hr m (s + 1) fun c h1 h2 => h c (by omega) (by omega))
theorem upV_none {f : Nat → Bool} {v : Nat → R} {r : R} : ∀ (m s : Nat), (∀ c, s ≤ c → c < s + m → f c = false) → upV (fun c x => cond (f c) (v c) x) r m s = r
  | 0, _, _ => rfl
  | m + 1, s, h => by
    simp only [upV]
    rw [h s (Nat.le_refl _) (by omega), cond_false, upV_none m (s + 1) fun c h1 h2 => h c (by omega) (by omega)]
theorem upV_hit {f : Nat → Bool} {v : Nat → R} {r : R} : ∀ (m s c0 : Nat), s ≤ c0 → c0 < s + m → f c0 = true → (∀ c, s ≤ c → c < c0 → f c = false) → upV (fun c x => cond (f c) (v c) x) r m s = v c0
  | 0, s, c0, h1, h2, _, _ => by omega
  | m + 1, s, c0, h1, h2, h3, h4 => by
    simp only [upV]
    by_cases h : s = c0
    · subst h; rw [h3, cond_true]
    · rw [h4 s (Nat.le_refl _) (by omega), cond_false, upV_hit m (s + 1) c0 (by omega) (by omega) h3 fun c h5 h6 => h4 c (by omega) h6]
/-- Either no place, or a first one. -/
theorem first_or {f : Nat → Bool} : ∀ (m s : Nat), (∀ c, s ≤ c → c < s + m → f c = false) ∨ ∃ c0, s ≤ c0 ∧ c0 < s + m ∧ f c0 = true ∧ ∀ c, s ≤ c → c < c0 → f c = false
  | 0, s => Or.inl fun c _ _ => by omega
  | m + 1, s => by
    cases hs : f s with
    | true => exact Or.inr ⟨s, Nat.le_refl _, by omega, hs, fun c _ _ => by omega⟩
    | false =>
      rcases first_or (f := f) m (s + 1) with h | ⟨c0, h1, h2, h3, h4⟩
      · refine Or.inl fun c h1 h2 => ?_
        by_cases h5 : c = s
        · rw [h5, hs]
        · exact h c (by omega) (by omega)
      · refine Or.inr ⟨c0, by omega, by omega, h3, fun c h5 h6 => ?_⟩
        by_cases h7 : c = s
        · rw [h7, hs]
        · exact h4 c (by omega) h6
/-- A test at each place, all in one. -/
theorem upV_all {f : Nat → Bool} {m : Nat} : upV (fun c x => cond (f c) false x) true (m - 0) 0 = true ↔ ∀ c, c < m → f c = false := by
  rcases first_or (f := f) (m - 0) 0 with h | ⟨c0, h1, h2, h3, h4⟩
  · rw [upV_none _ _ h]
    exact ⟨fun _ c hc => h c (by omega) (by omega), fun _ => rfl⟩
  · rw [upV_hit (v := fun _ => false) _ _ c0 h1 h2 h3 h4]
    refine ⟨fun h => (Bool.noConfusion h), fun h => ?_⟩
    rw [h c0 (by omega)] at h3; cases h3
/-- A loop over a list. -/
def goL {α : Type} (b : α → Nat → R → R) (r : R) : List α → Nat → R
  | [], _ => r
  | x :: t, c => b x c (goL b r t (c + 1))
theorem upV_goL {α : Type} {b : α → Nat → R → R} {r : R} {d : α} : ∀ (l : List α) (p : List α), upV (fun c x => b ((p ++ l).getD c d) c x) r l.length p.length = goL b r l p.length
  | [], p => rfl
  | a :: t, p => by
    simp only [List.length_cons, upV, goL]
    have h := upV_goL (b := b) (r := r) (d := d) t (p ++ [a])
    simp only [List.append_assoc, List.singleton_append, List.length_append, List.length_singleton] at h
    rw [h]
    congr 1
    simp [List.getD]
theorem upV_list {α : Type} {b : α → Nat → R → R} {r : R} {d : α} (l : List α) : upV (fun c x => b (l.getD c d) c x) r (l.length - 0) 0 = goL b r l 0 := by
  simpa using upV_goL (b := b) (r := r) (d := d) l []
end
end Go.AM
