/-
  Numbers of 32 bits as sets: the bit at a place, how many there are, the least one.
-/
import Derived.Test.YthjhlpbiljpccaaAmBits
namespace Go.AM

def bt (x : Int) (i : Nat) : Bool := (B x).getLsbD i
theorem bt_ior (x y : Int) (i : Nat) : bt (ior .u32 x y) i = (bt x i || bt y i) := by simp [bt, B_ior]
theorem bt_iand (x y : Int) (i : Nat) : bt (iand .u32 x y) i = (bt x i && bt y i) := by simp [bt, B_iand]
theorem bt_big {x : Int} {i : Nat} (h : 32 ≤ i) : bt x i = false := BitVec.getLsbD_of_ge _ _ h
theorem bt_lt {x : Int} {i : Nat} (h : bt x i = true) : i < 32 := by
  rcases Nat.lt_or_ge i 32 with h1 | h1
  · exact h1
  · rw [bt_big h1] at h; cases h
theorem bt_iandnot (x y : Int) (i : Nat) : bt (iandnot .u32 x y) i = (bt x i && !bt y i) := by
  rcases Nat.lt_or_ge i 32 with h | h
  · simp [bt, B_iandnot, h]
  · rw [bt_big h, bt_big h]; rfl
theorem bt_zero (i : Nat) : bt 0 i = false := by simp [bt, B_zero]
theorem bt_wrap (x : Int) (i : Nat) : bt (IntKind.wrap .u32 x) i = bt x i := by unfold bt; rw [B_wrap]
theorem u32_inot (x : Int) : u32 (inot .u32 x) := by
  unfold inot
  rw [IntKind.wrap_u32]
  exact ⟨by omega, by omega⟩
theorem B_inot (x : Int) : B (inot .u32 x) = ~~~ B x := by
  have : inot .u32 x = IntKind.wrap .u32 ((B 4294967295 ^^^ B x).toNat : Int) := rfl
  rw [this, B_wrap, B_nat]
  have h2 : B 4294967295 = BitVec.allOnes 32 := by decide
  rw [h2, BitVec.allOnes_xor]
theorem bt_inot (x : Int) (i : Nat) : bt (inot .u32 x) i = (decide (i < 32) && !bt x i) := by
  unfold bt; rw [B_inot, BitVec.getLsbD_not]
theorem bt_shl {k : Nat} (hk : k < 32) (i : Nat) : bt (ishl .u32 1 (k : Int)) i = decide (i = k) := by
  unfold bt
  rw [B_ishl 1 (Nat.le_of_lt hk), BitVec.getLsbD_shiftLeft]
  have h1 : B 1 = 1#32 := rfl
  rw [h1, BitVec.getLsbD_one]
  by_cases h : i = k
  · subst h; simp [hk]
  · simp [h]; omega
theorem bt_ext {x y : Int} (hx : u32 x) (hy : u32 y) (h : ∀ i, i < 32 → bt x i = bt y i) : x = y := B_inj hx hy (BitVec.eq_of_getLsbD_eq fun i hi => h i hi)
theorem bt_none {x : Int} (hx : u32 x) : x = 0 ↔ ∀ i, bt x i = false := by
  constructor
  · intro h i; rw [h]; exact bt_zero i
  · intro h; exact bt_ext hx u32_zero fun i _ => by rw [h, bt_zero]
theorem bt_some {x : Int} (hx : u32 x) : (x != 0) = true ↔ ∃ i, bt x i = true := by
  constructor
  · intro h
    apply Classical.byContradiction
    intro hn
    have : x = 0 := (bt_none hx).2 fun i => by
      cases hb : bt x i with
      | false => rfl
      | true => exact (hn ⟨i, hb⟩).elim
    simp [this] at h
  · rintro ⟨i, hi⟩
    have : x ≠ 0 := fun e => by rw [e, bt_zero] at hi; cases hi
    simpa using this
theorem bt_nat {n : Nat} (h : n < 4294967296) (i : Nat) : bt (n : Int) i = n.testBit i := by
  unfold bt
  have : B (n : Int) = BitVec.ofNat 32 n := BitVec.ofInt_natCast ..
  rw [this, ← BitVec.testBit_toNat, BitVec.toNat_ofNat, Nat.mod_eq_of_lt h]
/-- The first n bits. -/
theorem bt_all {n : Nat} (hn : n ≤ 31) (i : Nat) : bt (IntKind.wrap .u32 (ishl .u32 1 (n : Int) - 1)) i = decide (i < n) := by
  have h1 : ishl .u32 1 (n : Int) = ((2 ^ n : Nat) : Int) := by
    unfold ishl
    rw [Int.toNat_natCast, Nat.min_eq_left (show n ≤ IntKind.bits .u32 by show n ≤ 32; omega), IntKind.wrap_u32, Int.one_mul]
    have h2 : 2 ^ n ≤ 2 ^ 31 := Nat.pow_le_pow_right (by decide) hn
    have h3 : ((2 : Int) ^ n) = ((2 ^ n : Nat) : Int) := by norm_cast
    have hp : 0 < 2 ^ n := Nat.pow_pos (by decide)
    rw [h3]
    omega
  have hp : 0 < 2 ^ n := Nat.pow_pos (by decide)
  have h2 : 2 ^ n ≤ 2 ^ 31 := Nat.pow_le_pow_right (by decide) hn
  have h4 : ishl .u32 1 (n : Int) - 1 = ((2 ^ n - 1 : Nat) : Int) := by rw [h1]; omega
  rw [bt_wrap, h4, bt_nat (by omega), Nat.testBit_two_pow_sub_one]

/-! ### How many -/
def pc (x : Int) : Nat := (List.range 32).countP (bt x)
theorem pc_le (x : Int) : pc x ≤ 32 := by
  have := List.countP_le_length (p := bt x) (l := List.range 32)
  simpa [pc] using this
theorem countP_mono {α : Type} {p q : α → Bool} {l : List α} (h : ∀ x ∈ l, p x = true → q x = true) : l.countP p ≤ l.countP q := List.countP_mono_left h
theorem countP_lt {α : Type} {p q : α → Bool} : ∀ {l : List α}, (∀ x ∈ l, p x = true → q x = true) → (∃ x ∈ l, p x = false ∧ q x = true) → l.countP p < l.countP q
  | [], _, h => by obtain ⟨x, hx, _⟩ := h; cases hx
  | a :: l, h, ⟨x, hx, hp, hq⟩ => by
    rw [List.countP_cons, List.countP_cons]
    rcases List.mem_cons.1 hx with rfl | hx
    · have := countP_mono (l := l) fun y hy => h y (List.mem_cons_of_mem _ hy)
      rw [hp, hq]
      simp; omega
    · have := countP_lt (l := l) (fun y hy => h y (List.mem_cons_of_mem _ hy)) ⟨x, hx, hp, hq⟩
      have h2 := h a (List.mem_cons_self ..)
      by_cases hpa : p a = true
      · rw [if_pos hpa, if_pos (h2 hpa)]; omega
      · rw [if_neg hpa]; split <;> omega
theorem pc_mono {x y : Int} (h : ∀ i, bt x i = true → bt y i = true) : pc x ≤ pc y := countP_mono fun i _ => h i
theorem pc_lt {x y : Int} (h : ∀ i, bt x i = true → bt y i = true) {i : Nat} (h1 : bt x i = false) (h2 : bt y i = true) : pc x < pc y := countP_lt (fun i _ => h i) ⟨i, by simpa using bt_lt h2, h1, h2⟩
theorem pc_congr {x y : Int} (h : ∀ i, bt x i = bt y i) : pc x = pc y := by unfold pc; congr 1; funext i; exact h i

def pc8 (b : Nat) : Nat := (List.range 8).countP b.testBit
/-- The table of the counts of the bytes. -/
def pcTab : List UInt8 := [0, 1, 1, 2, 1, 2, 2, 3, 1, 2, 2, 3, 2, 3, 3, 4, 1, 2, 2, 3, 2, 3, 3, 4, 2, 3, 3, 4, 3, 4, 4, 5, 1, 2, 2, 3, 2, 3, 3, 4, 2, 3, 3, 4, 3, 4, 4, 5, 2, 3, 3, 4, 3, 4, 4, 5, 3, 4, 4, 5, 4, 5, 5, 6, 1, 2, 2, 3, 2, 3, 3, 4, 2, 3, 3, 4, 3, 4, 4, 5, 2, 3, 3, 4, 3, 4, 4, 5, 3, 4, 4, 5, 4, 5, 5, 6, 2, 3, 3, 4, 3, 4, 4, 5, 3, 4, 4, 5, 4, 5, 5, 6, 3, 4, 4, 5, 4, 5, 5, 6, 4, 5, 5, 6, 5, 6, 6, 7, 1, 2, 2, 3, 2, 3, 3, 4, 2, 3, 3, 4, 3, 4, 4, 5, 2, 3, 3, 4, 3, 4, 4, 5, 3, 4, 4, 5, 4, 5, 5, 6, 2, 3, 3, 4, 3, 4, 4, 5, 3, 4, 4, 5, 4, 5, 5, 6, 3, 4, 4, 5, 4, 5, 5, 6, 4, 5, 5, 6, 5, 6, 6, 7, 2, 3, 3, 4, 3, 4, 4, 5, 3, 4, 4, 5, 4, 5, 5, 6, 3, 4, 4, 5, 4, 5, 5, 6, 4, 5, 5, 6, 5, 6, 6, 7, 3, 4, 4, 5, 4, 5, 5, 6, 4, 5, 5, 6, 5, 6, 6, 7, 4, 5, 5, 6, 5, 6, 6, 7, 5, 6, 6, 7, 6, 7, 7, 8]
theorem pcTab_at : ∀ b, b < 256 → (pcTab.getD b 0).toNat = pc8 b := by decide +kernel
theorem byte_at {b : Nat} (h : b < 256) : byteAt pcTab (b : Int) = (pc8 b : Int) := by
  unfold byteAt
  rw [Int.toNat_natCast, pcTab_at b h]
theorem pc8_le (b : Nat) : pc8 b ≤ 8 := by
  have := List.countP_le_length (p := b.testBit) (l := List.range 8)
  simpa [pc8] using this
theorem pc_bytes {n : Nat} (h : n < 4294967296) : pc (n : Int) = pc8 (n >>> 24) + pc8 (n >>> 16 &&& 255) + pc8 (n >>> 8 &&& 255) + pc8 (n &&& 255) := by
  have e255 : (255 : Nat) = 2 ^ 8 - 1 := rfl
  have hf : bt (n : Int) = fun i => n.testBit i := funext fun i => bt_nat h i
  have hr : List.range 32 = List.range 8 ++ (List.range 8).map (8 + ·) ++ (List.range 8).map (16 + ·) ++ (List.range 8).map (24 + ·) := by decide
  unfold pc pc8
  rw [hf, hr, List.countP_append, List.countP_append, List.countP_append, List.countP_map, List.countP_map, List.countP_map]
  have k0 : (List.range 8).countP (fun i => n.testBit i) = (List.range 8).countP (n &&& 255).testBit := List.countP_congr fun i hi => by
    have := List.mem_range.1 hi
    rw [Nat.testBit_and, e255, Nat.testBit_two_pow_sub_one]; simp [this]
  have k1 : (List.range 8).countP ((fun i => n.testBit i) ∘ (8 + ·)) = (List.range 8).countP (n >>> 8 &&& 255).testBit := List.countP_congr fun i hi => by
    have := List.mem_range.1 hi
    rw [Nat.testBit_and, e255, Nat.testBit_two_pow_sub_one, Nat.testBit_shiftRight]; simp [this]
  have k2 : (List.range 8).countP ((fun i => n.testBit i) ∘ (16 + ·)) = (List.range 8).countP (n >>> 16 &&& 255).testBit := List.countP_congr fun i hi => by
    have := List.mem_range.1 hi
    rw [Nat.testBit_and, e255, Nat.testBit_two_pow_sub_one, Nat.testBit_shiftRight]; simp [this]
  have k3 : (List.range 8).countP ((fun i => n.testBit i) ∘ (24 + ·)) = (List.range 8).countP (n >>> 24).testBit := List.countP_congr fun i hi => by
    rw [Nat.testBit_shiftRight]; simp
  rw [k0, k1, k2, k3]
  omega
theorem iand_nat {a b : Nat} (ha : a < 4294967296) (hb : b < 4294967296) : iand .u32 (a : Int) (b : Int) = ((a &&& b : Nat) : Int) := by
  rw [iand_eq]
  have h1 : B (a : Int) = BitVec.ofNat 32 a := BitVec.ofInt_natCast ..
  have h2 : B (b : Int) = BitVec.ofNat 32 b := BitVec.ofInt_natCast ..
  rw [h1, h2, BitVec.toNat_and, BitVec.toNat_ofNat, BitVec.toNat_ofNat, Nat.mod_eq_of_lt ha, Nat.mod_eq_of_lt hb]
theorem and255 (n : Nat) : n &&& 255 < 256 := by
  have := Nat.and_le_right (n := n) (m := 255); omega
theorem shr_lt {n : Nat} (h : n < 4294967296) (k : Nat) : n >>> k < 4294967296 := Nat.lt_of_le_of_lt (Nat.shiftRight_le ..) h
theorem shr24 {n : Nat} (h : n < 4294967296) : n >>> 24 < 256 := by
  rw [Nat.shiftRight_eq_div_pow]; omega
theorem oc_eq {x : Int} (h : u32 x) : IntKind.wrap .i64 (IntKind.wrap .u8 ((IntKind.wrap .u8 ((IntKind.wrap .u8 ((byteAt pcTab (ishr .u32 x 24)) + (byteAt pcTab (iand .u32 (ishr .u32 x 16) 255)))) + (byteAt pcTab (iand .u32 (ishr .u32 x 8) 255)))) + (byteAt pcTab (iand .u32 x 255)))) = (pc x : Int) := by
  obtain ⟨n, rfl⟩ := Int.eq_ofNat_of_zero_le h.1
  have hn : n < 4294967296 := by have := h.2; omega
  have e24 : ishr .u32 (n : Int) 24 = ((n >>> 24 : Nat) : Int) := ishr_nat (c := 24) (by decide)
  have e16 : ishr .u32 (n : Int) 16 = ((n >>> 16 : Nat) : Int) := ishr_nat (c := 16) (by decide)
  have e8 : ishr .u32 (n : Int) 8 = ((n >>> 8 : Nat) : Int) := ishr_nat (c := 8) (by decide)
  have d : (255 : Int) = ((255 : Nat) : Int) := rfl
  rw [e24, e16, e8, d, iand_nat (shr_lt hn _) (by decide), iand_nat (shr_lt hn _) (by decide), iand_nat hn (by decide), byte_at (shr24 hn), byte_at (and255 _), byte_at (and255 _), byte_at (and255 _), pc_bytes hn]
  have h1 := pc8_le (n >>> 24); have h2 := pc8_le (n >>> 16 &&& 255); have h3 := pc8_le (n >>> 8 &&& 255); have h4 := pc8_le (n &&& 255)
  simp only [IntKind.wrap_u8, IntKind.wrap_i64]
  omega
theorem oc_ix {x : Int} (h : u32 x) : okIx (ishr .u32 x 24) 256 = true ∧ okIx (iand .u32 (ishr .u32 x 16) 255) 256 = true ∧ okIx (iand .u32 (ishr .u32 x 8) 255) 256 = true ∧ okIx (iand .u32 x 255) 256 = true := by
  obtain ⟨n, rfl⟩ := Int.eq_ofNat_of_zero_le h.1
  have hn : n < 4294967296 := by have := h.2; omega
  have e24 : ishr .u32 (n : Int) 24 = ((n >>> 24 : Nat) : Int) := ishr_nat (c := 24) (by decide)
  have e16 : ishr .u32 (n : Int) 16 = ((n >>> 16 : Nat) : Int) := ishr_nat (c := 16) (by decide)
  have e8 : ishr .u32 (n : Int) 8 = ((n >>> 8 : Nat) : Int) := ishr_nat (c := 8) (by decide)
  have d : (255 : Int) = ((255 : Nat) : Int) := rfl
  have d2 : (256 : Int) = ((256 : Nat) : Int) := rfl
  rw [e24, e16, e8, d, d2, iand_nat (shr_lt hn _) (by decide), iand_nat (shr_lt hn _) (by decide), iand_nat hn (by decide)]
  exact ⟨okIx_nat (shr24 hn), okIx_nat (and255 _), okIx_nat (and255 _), okIx_nat (and255 _)⟩

/-! ### The least -/
/-- The least bit, alone. -/
theorem low_bit {x : Int} {i : Nat} (h : bt x i = true) (hl : ∀ j, j < i → bt x j = false) : iand .u32 x (IntKind.wrap .u32 (0 - x)) = ((2 ^ i : Nat) : Int) := by
  have hi := bt_lt h
  have hp : 2 ^ i < 4294967296 := by
    have := Nat.pow_lt_pow_right (a := 2) (by decide) hi
    exact this
  refine bt_ext (u32_iand _ _) (u32_lit hp) fun j hj => ?_
  rw [bt_iand, bt_wrap, bt_nat hp, Nat.testBit_two_pow]
  have e : B (0 - x) = - B x := by
    rw [Int.zero_sub]
    exact BitVec.ofInt_neg
  have hn : bt (0 - x) j = (decide (j < 32) && (bt x j ^^ decide (∃ k, k < j ∧ bt x k = true))) := by
    unfold bt
    rw [e, BitVec.getLsbD_neg]
    simp [hj]
  rw [hn]
  simp only [hj, decide_true, Bool.true_and]
  rcases Nat.lt_trichotomy j i with h1 | h1 | h1
  · rw [hl j h1]; simp; omega
  · subst h1
    rw [h]
    have : ¬ ∃ k, k < j ∧ bt x k = true := fun ⟨k, h2, h3⟩ => by rw [hl k h2] at h3; cases h3
    simp [this]
  · have : ∃ k, k < j ∧ bt x k = true := ⟨i, h1, h⟩
    simp [this]; omega
theorem least_ex {x : Int} (hx : u32 x) (h : x ≠ 0) : ∃ i, i < 32 ∧ bt x i = true ∧ ∀ j, j < i → bt x j = false := by
  obtain ⟨i, hi⟩ := (bt_some hx).1 (by simpa using h)
  have key : ∀ n i, i ≤ n → bt x i = true → ∃ i, bt x i = true ∧ ∀ j, j < i → bt x j = false := fun n => by
    induction n with
    | zero => intro i h0 hi; exact ⟨i, hi, fun j hj => by omega⟩
    | succ n ih =>
      intro i h0 hi
      by_cases hex : ∃ j, j < i ∧ bt x j = true
      · obtain ⟨j, h1, h2⟩ := hex
        exact ih j (by omega) h2
      · refine ⟨i, hi, fun j hj => ?_⟩
        cases hb : bt x j with
        | false => rfl
        | true => exact (hex ⟨j, hj, hb⟩).elim
  obtain ⟨k, h1, h2⟩ := key i i (Nat.le_refl _) hi
  exact ⟨k, bt_lt h1, h1, h2⟩
end Go.AM
