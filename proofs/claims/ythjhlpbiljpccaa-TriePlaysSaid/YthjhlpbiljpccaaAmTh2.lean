/-
  The table's entries in their order, and the reference's table: it holds just these.
-/
import Derived.Test.YthjhlpbiljpccaaAmTh
namespace Go.Proofs.Ythjhlpbiljpccaa
open Go Go.AM
set_option maxRecDepth 100000

/-! ### Numbers by their bits, the first one on the left -/
theorem bt_nat {n i : Nat} (hn : n < 4294967296) : bt (n : Int) i = n.testBit i := by
  unfold bt B
  rw [BitVec.ofInt_natCast, BitVec.getLsbD_ofNat]
  by_cases hi : i < 32
  · simp [hi]
  · have : n.testBit i = false := Nat.testBit_lt_two_pow (Nat.lt_of_lt_of_le hn (by
      have : (2 : Nat) ^ 32 ≤ 2 ^ i := Nat.pow_le_pow_right (by decide) (by omega)
      simpa using this))
    simp [hi, this]
theorem lt_of_bit {n m : Nat} (i : Nat) (hn : n.testBit i = false) (hm : m.testBit i = true) (h : ∀ j, i < j → n.testBit j = m.testBit j) : n < m := by
  have e : n / 2 ^ (i + 1) = m / 2 ^ (i + 1) := Nat.eq_of_testBit_eq fun j => by
    rw [Nat.testBit_div_two_pow, Nat.testBit_div_two_pow]
    exact h _ (by omega)
  rw [Nat.testBit_eq_decide_div_mod_eq] at hn hm
  have hn := of_decide_eq_false hn
  have hm := of_decide_eq_true hm
  have e1 : n / 2 ^ (i + 1) = n / 2 ^ i / 2 := by rw [Nat.pow_succ, Nat.div_div_eq_div_mul]
  have e2 : m / 2 ^ (i + 1) = m / 2 ^ i / 2 := by rw [Nat.pow_succ, Nat.div_div_eq_div_mul]
  rw [e1, e2] at e
  have hlt : n / 2 ^ i < m / 2 ^ i := by omega
  have := Nat.mul_le_of_le_div (2 ^ i) (n / 2 ^ i + 1) m hlt
  have h3 := Nat.lt_mul_div_succ n (show 0 < 2 ^ i from Nat.pow_pos (by decide))
  rw [Nat.mul_comm] at h3
  omega
theorem lt_of_ab {x y : Int} (hx : u32 x) (hy : u32 y) {d : Nat} (hd : d < 32) (h0 : ∀ i, i < d → ab x i = ab y i) (h1 : ab x d = false) (h2 : ab y d = true) : x < y := by
  obtain ⟨n, rfl⟩ := Int.eq_ofNat_of_zero_le hx.1
  obtain ⟨k, rfl⟩ := Int.eq_ofNat_of_zero_le hy.1
  have hn : n < 4294967296 := by have := hx.2; omega
  have hk : k < 4294967296 := by have := hy.2; omega
  unfold ab at h0 h1 h2
  rw [bt_nat hn] at h1
  rw [bt_nat hk] at h2
  refine Int.ofNat_lt.2 (lt_of_bit (31 - d) h1 h2 fun j hj => ?_)
  by_cases hj32 : j < 32
  · have := h0 (31 - j) (by omega)
    rwa [bt_nat hn, bt_nat hk, show 31 - (31 - j) = j by omega] at this
  · have e1 := bt_nat (i := j) hn
    have e2 := bt_nat (i := j) hk
    rw [bt_big (by omega)] at e1 e2
    rw [← e1, ← e2]
theorem le_of_ab {x y : Int} (hx : u32 x) (hy : u32 y) (h : ∀ i, i < 32 → ab x i = true → ab y i = true) : x ≤ y := by
  obtain ⟨n, rfl⟩ := Int.eq_ofNat_of_zero_le hx.1
  obtain ⟨k, rfl⟩ := Int.eq_ofNat_of_zero_le hy.1
  have hn : n < 4294967296 := by have := hx.2; omega
  have hk : k < 4294967296 := by have := hy.2; omega
  have e : n &&& k = n := Nat.eq_of_testBit_eq fun j => by
    rw [Nat.testBit_and]
    by_cases hj : j < 32
    · have := h (31 - j) (by omega)
      unfold ab at this
      rw [bt_nat hn, bt_nat hk, show 31 - (31 - j) = j by omega] at this
      cases hb : n.testBit j with
      | false => rfl
      | true => rw [this hb]; rfl
    · have e1 := bt_nat (i := j) hn
      rw [bt_big (by omega)] at e1
      rw [← e1]; rfl
  exact Int.ofNat_le.2 (by rw [← e]; exact Nat.and_le_right)

/-! ### The order of entries -/
def Lt (e f : TableEntryT) : Prop := e.1 < f.1 ∨ (e.1 = f.1 ∧ e.2.1 < f.2.1)
theorem Lt.trans {e f g : TableEntryT} (h : Lt e f) (k : Lt f g) : Lt e g := by
  unfold Lt at *; omega
theorem Lt.ne {e f : TableEntryT} (h : Lt e f) (h1 : e.1 = f.1) (h2 : e.2.1 = f.2.1) : False := by
  unfold Lt at h; omega
theorem lt_or {e f : TableEntryT} (h : ¬ Lt e f) (hne : ¬ (e.1 = f.1 ∧ e.2.1 = f.2.1)) : Lt f e := by
  unfold Lt at *; omega
theorem sorted_eq : ∀ {L K : List TableEntryT}, L.Pairwise Lt → K.Pairwise Lt → (∀ e, e ∈ L ↔ e ∈ K) → L = K
  | [], [], _, _, _ => rfl
  | [], x :: K, _, _, h => absurd ((h x).2 (List.mem_cons_self ..)) (by simp)
  | x :: L, [], _, _, h => absurd ((h x).1 (List.mem_cons_self ..)) (by simp)
  | x :: L, y :: K, hL, hK, h => by
    rw [List.pairwise_cons] at hL hK
    have hxy : x = y := by
      rcases List.mem_cons.1 ((h x).1 (List.mem_cons_self ..)) with e | hx
      · exact e
      · rcases List.mem_cons.1 ((h y).2 (List.mem_cons_self ..)) with e | hy
        · exact e.symm
        · exact ((hK.1 x hx).trans (hL.1 y hy)).ne rfl rfl |>.elim
    subst hxy
    rw [sorted_eq hL.2 hK.2 fun e => ?_]
    constructor
    · intro he
      rcases List.mem_cons.1 ((h e).1 (List.mem_cons_of_mem _ he)) with rfl | h1
      · exact ((hL.1 e he).ne rfl rfl).elim
      · exact h1
    · intro he
      rcases List.mem_cons.1 ((h e).2 (List.mem_cons_of_mem _ he)) with rfl | h1
      · exact ((hK.1 e he).ne rfl rfl).elim
      · exact h1
theorem sorted_lt {L : List TableEntryT} (h : L.Pairwise Lt) {i j : Nat} {e f : TableEntryT} (hi : L[i]? = some e) (hj : L[j]? = some f) (hij : i < j) : Lt e f := by
  obtain ⟨h1, rfl⟩ := List.getElem?_eq_some_iff.1 hi
  obtain ⟨h2, rfl⟩ := List.getElem?_eq_some_iff.1 hj
  exact List.pairwise_iff_getElem.1 h i j h1 h2 hij
theorem sorted_inj {L : List TableEntryT} (h : L.Pairwise Lt) {i j : Nat} {e f : TableEntryT} (hi : L[i]? = some e) (hj : L[j]? = some f) (h1 : e.1 = f.1) (h2 : e.2.1 = f.2.1) : i = j := by
  rcases Nat.lt_trichotomy i j with hij | hij | hij
  · exact ((sorted_lt h hi hj hij).ne h1 h2).elim
  · exact hij
  · exact ((sorted_lt h hj hi hij).ne h1.symm h2.symm).elim

/-! ### The entries of a table -/
def Mem (m : Mp) (e : TableEntryT) : Prop := ∃ j : Nat, e.2.1 = (j : Int) ∧ Vp e.1 j ∧ m (kp e.1 j) = some e.2.2.1
theorem En_loc {m : Mp} : ∀ (k : Nat) (a : Int) (n : Nat), Vp a n → n + k ≤ 32 → ∀ e ∈ En m k (kp a n) a n, (∀ i, i < n → ab e.1 i = ab a i) ∧ (n : Int) ≤ e.2.1 ∧ u32 e.1
  | k, a, n, h, hk, e, he0 => by
    have here : e ∈ he m (kp a n) a n → (∀ i, i < n → ab e.1 i = ab a i) ∧ (n : Int) ≤ e.2.1 ∧ u32 e.1 := fun hm => by
      unfold he at hm
      cases hv : m (kp a n) with
      | none => rw [hv] at hm; cases hm
      | some v =>
        rw [hv] at hm
        simp only [List.mem_singleton] at hm
        subst hm
        exact ⟨fun _ _ => rfl, Int.le_refl _, h.u⟩
    cases k with
    | zero => exact here he0
    | succ k =>
      simp only [En, List.mem_append] at he0
      have h32 : n < 32 := by omega
      rcases he0 with (h1 | h1) | h1
      · exact here h1
      · rw [kp_lo h h32] at h1
        obtain ⟨g1, g2, g3⟩ := En_loc k a (n + 1) (h.lo h32) (by omega) e h1
        exact ⟨fun i hi => g1 i (by omega), by omega, g3⟩
      · rw [kp_hi h32] at h1
        obtain ⟨g1, g2, g3⟩ := En_loc k (hi32 a n) (n + 1) (h.hi h32) (by omega) e h1
        exact ⟨fun i hi => by rw [g1 i (by omega), ab_hi h32 (by omega)]; simp [show ¬ i = n by omega], by omega, g3⟩
theorem En_sorted {m : Mp} : ∀ (k : Nat) (a : Int) (n : Nat), Vp a n → n + k ≤ 32 → (En m k (kp a n) a n).Pairwise Lt
  | k, a, n, h, hk => by
    have here : (he m (kp a n) a n).Pairwise Lt := by
      unfold he
      cases m (kp a n) with
      | none => exact .nil
      | some v => exact List.pairwise_singleton ..
    have hhe : ∀ f ∈ he m (kp a n) a n, f.1 = a ∧ f.2.1 = (n : Int) := fun f hf => by
      unfold he at hf
      cases hv : m (kp a n) with
      | none => rw [hv] at hf; cases hf
      | some v => rw [hv] at hf; simp only [List.mem_singleton] at hf; subst hf; exact ⟨rfl, rfl⟩
    cases k with
    | zero => exact here
    | succ k =>
      have h32 : n < 32 := by omega
      have lo : ∀ e ∈ En m k (false :: kp a n) a (n + 1), (∀ i, i < n + 1 → ab e.1 i = ab a i) ∧ ((n + 1 : Nat) : Int) ≤ e.2.1 ∧ u32 e.1 := fun e hm => by
        rw [kp_lo h h32] at hm
        exact En_loc k a (n + 1) (h.lo h32) (by omega) e hm
      have hi : ∀ e ∈ En m k (true :: kp a n) (hi32 a n) (n + 1), (∀ i, i < n → ab e.1 i = ab a i) ∧ ab e.1 n = true ∧ u32 e.1 := fun e hm => by
        rw [kp_hi h32] at hm
        obtain ⟨g1, g2, g3⟩ := En_loc k (hi32 a n) (n + 1) (h.hi h32) (by omega) e hm
        exact ⟨fun i hi => by rw [g1 i (by omega), ab_hi h32 (by omega)]; simp [show ¬ i = n by omega], by rw [g1 n (by omega), ab_hi h32 h32]; simp, g3⟩
      simp only [En]
      rw [List.pairwise_append, List.pairwise_append]
      refine ⟨⟨here, by rw [kp_lo h h32]; exact En_sorted k a (n + 1) (h.lo h32) (by omega), fun f hf e he => ?_⟩, by rw [kp_hi h32]; exact En_sorted k _ (n + 1) (h.hi h32) (by omega), fun f hf e he => ?_⟩
      · obtain ⟨f1, f2⟩ := hhe f hf
        obtain ⟨g1, g2, g3⟩ := lo e he
        have : a ≤ e.1 := le_of_ab h.u g3 fun i hi hb => by
          by_cases hin : i < n + 1
          · rw [g1 i hin]; exact hb
          · rw [h.z i (by omega) hi] at hb; cases hb
        unfold Lt
        omega
      · obtain ⟨g1, g2, g3⟩ := hi e he
        rcases List.mem_append.1 hf with hf | hf
        · obtain ⟨f1, f2⟩ := hhe f hf
          exact .inl (by rw [f1]; exact lt_of_ab h.u g3 h32 (fun i hi => (g1 i hi).symm) (h.z n (Nat.le_refl _) h32) g2)
        · obtain ⟨k1, k2, k3⟩ := lo f hf
          exact .inl (lt_of_ab k3 g3 h32 (fun i hi => by rw [k1 i (by omega), g1 i hi]) (by rw [k1 n (by omega)]; exact h.z n (Nat.le_refl _) h32) g2)
theorem En_has {m : Mp} : ∀ (k : Nat) (a : Int) (n : Nat), Vp a n → n + k ≤ 32 → ∀ (b : Int) (j : Nat) (v : Int), Vp b j → n ≤ j → j ≤ n + k → (∀ i, i < n → ab b i = ab a i) → m (kp b j) = some v → (b, (j : Int), v, ()) ∈ En m k (kp a n) a n
  | k, a, n, h, hk, b, j, v, hb, h1, h2, hab, hv => by
    have here : j = n → (b, (j : Int), v, ()) ∈ he m (kp a n) a n := fun e => by
      subst e
      have e1 : b = a := ab_ext hb.u h.u fun i hi => by
        by_cases hij : i < j
        · exact hab i hij
        · rw [hb.z i (by omega) hi, h.z i (by omega) hi]
      subst e1
      unfold he
      rw [hv]
      exact List.mem_singleton.2 rfl
    cases k with
    | zero => exact here (by omega)
    | succ k =>
      have h32 : n < 32 := by omega
      simp only [En, List.mem_append]
      by_cases hjn : j = n
      · exact .inl (.inl (here hjn))
      · cases hbn : ab b n with
        | false =>
          refine .inl (.inr ?_)
          rw [kp_lo h h32]
          exact En_has k a (n + 1) (h.lo h32) (by omega) b j v hb (by omega) (by omega) (fun i hi => by
            by_cases hin : i = n
            · subst hin; rw [hbn, h.z i (Nat.le_refl _) h32]
            · exact hab i (by omega)) hv
        | true =>
          refine .inr ?_
          rw [kp_hi h32]
          exact En_has k (hi32 a n) (n + 1) (h.hi h32) (by omega) b j v hb (by omega) (by omega) (fun i hi => by
            rw [ab_hi h32 (by omega)]
            by_cases hin : i = n
            · subst hin; rw [hbn]; simp
            · rw [hab i (by omega)]; simp [hin]) hv
/-- Just these entries, ascending. -/
structure IsEn (m : Mp) (L : List TableEntryT) : Prop where
  so : L.Pairwise Lt
  mem : ∀ e, e ∈ L ↔ Mem m e
theorem en_is (m : Mp) : IsEn m (En m 32 [] 0 0) := by
  refine ⟨En_sorted 32 0 0 vp0 (by omega), fun e => ⟨fun h => En_mem 32 0 0 vp0 (by omega) e h, ?_⟩⟩
  rintro ⟨j, h1, h2, h3⟩
  have := En_has 32 0 0 vp0 (by omega) e.1 j e.2.2.1 h2 (Nat.zero_le _) (by have := h2.le; omega) (fun i hi => absurd hi (Nat.not_lt_zero _)) h3
  have e2 : e = (e.1, (j : Int), e.2.2.1, ()) := by rw [← h1]
  rw [e2]; exact this
theorem IsEn.eq {m : Mp} {L K : List TableEntryT} (h : IsEn m L) (k : IsEn m K) : L = K := sorted_eq h.so k.so fun e => (h.mem e).trans (k.mem e).symm
theorem IsEn.en {m : Mp} {L : List TableEntryT} (h : IsEn m L) : L = En m 32 [] 0 0 := h.eq (en_is m)

/-! ### The entry of a prefix -/
/-- The table has a prefix: a value. -/
def Has (m : Mp) (p : PrefixT) (v : Int) : Prop := g_addr_Valid p = true ∧ m (key p) = some v
theorem Has.mem {m : Mp} {p : PrefixT} {v : Int} (hu : u32 p.1) (h : Has m p v) : Mem m (p.1, p.2.1, v, ()) := by
  obtain ⟨h0, hv⟩ := key_vp hu h.1
  exact ⟨p.2.1.toNat, by show p.2.1 = _; omega, hv, h.2⟩
theorem Mem.has {m : Mp} {e : TableEntryT} (h : Mem m e) : Has m (e.1, e.2.1, ()) e.2.2.1 := by
  obtain ⟨j, h1, h2, h3⟩ := h
  have hj : e.2.1.toNat = j := by omega
  exact ⟨(valid_iff h2.u).2 ⟨by show 0 ≤ e.2.1; omega, by show Vp e.1 e.2.1.toNat; rw [hj]; exact h2⟩, by show m (kp e.1 e.2.1.toNat) = _; rw [hj]; exact h3⟩
theorem at_spec (L : List TableEntryT) (p : PrefixT) :
    (∃ (i : Nat) (e : TableEntryT), L[i]? = some e ∧ e.1 = p.1 ∧ e.2.1 = p.2.1 ∧ g_fn_34 (L, ()) p = (i : Int)) ∨ (g_fn_34 (L, ()) p = -1 ∧ ∀ e ∈ L, ¬ (e.1 = p.1 ∧ e.2.1 = p.2.1)) := by
  have go : ∀ (m s : Nat), s + m = L.length → (∀ c e, c < s → L[c]? = some e → ¬ (e.1 = p.1 ∧ e.2.1 = p.2.1)) →
      (∃ (i : Nat) (e : TableEntryT), L[i]? = some e ∧ e.1 = p.1 ∧ e.2.1 = p.2.1 ∧ upV (fun c0 next0 => cond (((List.getD L c0 TableEntryD).1 == p.1) && ((List.getD L c0 TableEntryD).2.1 == p.2.1)) (c0 : Int) next0) (-1) m s = (i : Int)) ∨
      (upV (fun c0 next0 => cond (((List.getD L c0 TableEntryD).1 == p.1) && ((List.getD L c0 TableEntryD).2.1 == p.2.1)) (c0 : Int) next0) (-1) m s = -1 ∧ ∀ e ∈ L, ¬ (e.1 = p.1 ∧ e.2.1 = p.2.1)) := fun m => by
    induction m with
    | zero =>
      intro s hs h
      refine .inr ⟨rfl, fun e he => ?_⟩
      obtain ⟨c, hc⟩ := List.getElem?_of_mem he
      exact h c e (by have := (List.getElem?_eq_some_iff.1 hc).1; omega) hc
    | succ m ih =>
      intro s hs h
      have hlt : s < L.length := by omega
      have hg : L[s]? = some (List.getD L s TableEntryD) := by simp [List.getD, hlt]
      unfold upV
      cases hb : (((List.getD L s TableEntryD).1 == p.1) && ((List.getD L s TableEntryD).2.1 == p.2.1)) with
      | true =>
        simp only [Bool.and_eq_true, beq_iff_eq] at hb
        exact .inl ⟨s, _, hg, hb.1, hb.2, rfl⟩
      | false =>
        rw [cond_false]
        refine ih (s + 1) (by omega) fun c e hc he => ?_
        by_cases hcs : c = s
        · subst hcs
          rw [hg] at he; cases he
          intro hh
          rw [hh.1, hh.2] at hb
          simp at hb
        · exact h c e (by omega) he
  exact go L.length 0 (by omega) fun c e hc => absurd hc (Nat.not_lt_zero _)
/-- Is the prefix there? Where? -/
theorem at_has {m : Mp} {L : List TableEntryT} (h : IsEn m L) {p : PrefixT} (hu : u32 p.1) {v : Int} (hv : Has m p v) : ∃ i : Nat, L[i]? = some (p.1, p.2.1, v, ()) ∧ g_fn_34 (L, ()) p = (i : Int) := by
  have hm := (h.mem _).2 (hv.mem hu)
  rcases at_spec L p with ⟨i, e, h1, h2, h3, h4⟩ | ⟨_, h2⟩
  · obtain ⟨j, hj⟩ := List.getElem?_of_mem hm
    have := sorted_inj h.so h1 hj h2 h3
    subst this
    exact ⟨i, hj, h4⟩
  · exact (h2 _ hm ⟨rfl, rfl⟩).elim
theorem at_not {m : Mp} {L : List TableEntryT} (h : IsEn m L) {p : PrefixT} (hv : ∀ v, ¬ Has m p v) : g_fn_34 (L, ()) p = -1 ∧ ∀ e ∈ L, ¬ (e.1 = p.1 ∧ e.2.1 = p.2.1) := by
  rcases at_spec L p with ⟨i, e, h1, h2, h3, h4⟩ | h
  · have := ((h.mem e).1 (List.mem_of_getElem? h1)).has
    rw [h2, h3] at this
    exact (hv _ this).elim
  · exact h
theorem has_or (m : Mp) (p : PrefixT) : (∃ v, Has m p v) ∨ ∀ v, ¬ Has m p v := by
  by_cases h : ∃ v, Has m p v
  · exact .inl h
  · exact .inr fun v hv => h ⟨v, hv⟩
theorem not_has {m : Mp} {p : PrefixT} (h : ∀ v, ¬ Has m p v) (hv : g_addr_Valid p = true) : m (key p) = none := by
  cases hm : m (key p) with
  | none => rfl
  | some v => exact (h v ⟨hv, hm⟩).elim
theorem seg_self (L : List TableEntryT) : segL L 0 L.length = L := by simp [segL]

/-! ### The reference's changes -/
theorem mem_upd {m : Mp} {p : PrefixT} (hu : u32 p.1) (hv : g_addr_Valid p = true) {o : Option Int} {e : TableEntryT} (hne : ¬ (e.1 = p.1 ∧ e.2.1 = p.2.1)) : Mem (upd m (key p) o) e ↔ Mem m e := by
  obtain ⟨h0, hp⟩ := key_vp hu hv
  constructor
  · rintro ⟨j, h1, h2, h3⟩
    refine ⟨j, h1, h2, ?_⟩
    rw [← h3]
    unfold upd
    rw [if_neg fun hk => hne ?_]
    obtain ⟨g1, g2⟩ := h2.inj hp hk
    exact ⟨g1, by omega⟩
  · rintro ⟨j, h1, h2, h3⟩
    refine ⟨j, h1, h2, ?_⟩
    rw [← h3]
    unfold upd
    rw [if_neg fun hk => hne ?_]
    obtain ⟨g1, g2⟩ := h2.inj hp hk
    exact ⟨g1, by omega⟩
theorem mem_upd_at {m : Mp} {p : PrefixT} (hu : u32 p.1) (hv : g_addr_Valid p = true) {o : Option Int} {e : TableEntryT} (h1 : e.1 = p.1) (h2 : e.2.1 = p.2.1) : Mem (upd m (key p) o) e ↔ o = some e.2.2.1 := by
  obtain ⟨h0, hp⟩ := key_vp hu hv
  have hk : kp e.1 p.2.1.toNat = key p := by rw [h1]
  constructor
  · rintro ⟨j, g1, g2, g3⟩
    have hj : j = p.2.1.toNat := by omega
    subst hj
    rw [hk] at g3
    unfold upd at g3
    rwa [if_pos rfl] at g3
  · intro ho
    refine ⟨p.2.1.toNat, by omega, by rw [h1]; exact hp, ?_⟩
    rw [hk]
    unfold upd
    rw [if_pos rfl, ho]

theorem ref_set {m : Mp} {L : List TableEntryT} (h : IsEn m L) {p : PrefixT} (hu : u32 p.1) {v w : Int} (hv : Has m p v) {i : Nat} (hi : L[i]? = some (p.1, p.2.1, v, ())) : IsEn (upd m (key p) (some w)) (L.set i (p.1, p.2.1, w, ())) := by
  have hlt := (List.getElem?_eq_some_iff.1 hi).1
  refine ⟨?_, fun e => ?_⟩
  · rw [List.pairwise_iff_getElem]
    intro a b ha hb hab
    simp only [List.length_set] at ha hb
    have key : ∀ {c : Nat} (hc : c < L.length), ((L.set i (p.1, p.2.1, w, ()))[c]'(by simpa using hc)).1 = (L[c]).1 ∧ ((L.set i (p.1, p.2.1, w, ()))[c]'(by simpa using hc)).2.1 = (L[c]).2.1 := fun {c} hc => by
      rw [List.getElem_set]
      split
      · rename_i hic
        subst hic
        have := (List.getElem?_eq_some_iff.1 hi).2
        rw [this]; exact ⟨rfl, rfl⟩
      · exact ⟨rfl, rfl⟩
    have := List.pairwise_iff_getElem.1 h.so a b ha hb hab
    unfold Lt at this ⊢
    rw [(key ha).1, (key ha).2, (key hb).1, (key hb).2]
    exact this
  · by_cases he : e.1 = p.1 ∧ e.2.1 = p.2.1
    · rw [mem_upd_at hu hv.1 he.1 he.2]
      constructor
      · intro hm
        obtain ⟨j, hj⟩ := List.getElem?_of_mem hm
        rw [List.getElem?_set] at hj
        split at hj
        · cases hj; rfl
        · rename_i hij
          exact (hij (sorted_inj h.so hi hj he.1.symm he.2.symm)).elim
      · intro hw
        have e2 : e = (p.1, p.2.1, w, ()) := by
          obtain ⟨e1, e2, e3, e4⟩ := e
          simp only at he hw
          cases hw
          rw [he.1, he.2]
        rw [e2]
        exact List.mem_of_getElem? (i := i) (by rw [List.getElem?_set_self hlt])
    · rw [mem_upd hu hv.1 he, ← h.mem e]
      constructor
      · intro hm
        obtain ⟨j, hj⟩ := List.getElem?_of_mem hm
        rw [List.getElem?_set] at hj
        split at hj
        · cases hj; exact (he ⟨rfl, rfl⟩).elim
        · exact List.mem_of_getElem? hj
      · intro hm
        obtain ⟨j, hj⟩ := List.getElem?_of_mem hm
        refine List.mem_of_getElem? (i := j) ?_
        rw [List.getElem?_set_ne fun hij => he ?_]
        · exact hj
        · subst hij
          rw [hi] at hj; cases hj
          exact ⟨rfl, rfl⟩
theorem ref_put {m : Mp} {L : List TableEntryT} (h : IsEn m L) {p : PrefixT} (hu : u32 p.1) {w : Int} (hv : g_addr_Valid p = true) (hn : ∀ v, ¬ Has m p v) {k : Nat} (hk : k ≤ L.length)
    (h1 : ∀ j e, j < k → L[j]? = some e → Lt e (p.1, p.2.1, w, ())) (h2 : ∀ e, L[k]? = some e → ¬ Lt e (p.1, p.2.1, w, ())) : IsEn (upd m (key p) (some w)) (L.take k ++ [(p.1, p.2.1, w, ())] ++ L.drop k) := by
  have hne := (at_not h hn).2
  have hgt : ∀ j e, k ≤ j → L[j]? = some e → Lt (p.1, p.2.1, w, ()) e := fun j e hkj hj => by
    have hlt := (List.getElem?_eq_some_iff.1 hj).1
    have hk2 : L[k]? = some (L[k]'(by omega)) := List.getElem?_eq_getElem _
    have hx : Lt (p.1, p.2.1, w, ()) (L[k]'(by omega)) := lt_or (h2 _ hk2) fun he => hne _ (List.mem_of_getElem? hk2) he
    rcases Nat.lt_or_ge k j with hlt' | hge
    · exact hx.trans (sorted_lt h.so hk2 hj hlt')
    · obtain rfl : k = j := by omega
      rw [hk2] at hj; cases hj; exact hx
  refine ⟨?_, fun e => ?_⟩
  · rw [List.pairwise_append, List.pairwise_append]
    refine ⟨⟨h.so.sublist (List.take_sublist ..), List.pairwise_singleton .., fun a ha b hb => ?_⟩, h.so.sublist (List.drop_sublist ..), fun a ha b hb => ?_⟩
    · rw [List.mem_singleton] at hb; subst hb
      obtain ⟨j, hj⟩ := List.getElem?_of_mem ha
      rw [List.getElem?_take] at hj
      split at hj
      · exact h1 j a (by assumption) hj
      · cases hj
    · obtain ⟨i, hi⟩ := List.getElem?_of_mem hb
      rw [List.getElem?_drop] at hi
      rcases List.mem_append.1 ha with ha | ha
      · obtain ⟨j, hj⟩ := List.getElem?_of_mem ha
        rw [List.getElem?_take] at hj
        split at hj
        · exact sorted_lt h.so hj hi (by omega)
        · cases hj
      · rw [List.mem_singleton] at ha; subst ha
        exact hgt _ b (by omega) hi
  · have hsplit : e ∈ L.take k ++ [(p.1, p.2.1, w, ())] ++ L.drop k ↔ (e ∈ L ∨ e = (p.1, p.2.1, w, ())) := by
      have : e ∈ L ↔ e ∈ L.take k ∨ e ∈ L.drop k := by
        conv => lhs; rw [← List.take_append_drop k L]
        exact List.mem_append
      simp only [List.mem_append, List.mem_singleton, this]
      constructor
      · rintro ((h | h) | h)
        · exact .inl (.inl h)
        · exact .inr h
        · exact .inl (.inr h)
      · rintro ((h | h) | h)
        · exact .inl (.inl h)
        · exact .inr h
        · exact .inl (.inr h)
    rw [hsplit]
    by_cases he : e.1 = p.1 ∧ e.2.1 = p.2.1
    · rw [mem_upd_at hu hv he.1 he.2]
      constructor
      · rintro (hm | rfl)
        · exact (hne e hm he).elim
        · rfl
      · intro hw
        refine .inr ?_
        obtain ⟨e1, e2, e3, e4⟩ := e
        simp only at he hw
        cases hw
        rw [he.1, he.2]
    · rw [mem_upd hu hv he, ← h.mem e]
      constructor
      · rintro (hm | rfl)
        · exact hm
        · exact (he ⟨rfl, rfl⟩).elim
      · exact .inl
theorem cmp_neg {p q : PrefixT} : (decide (g_r4_Compare p q < 0)) = true ↔ (p.1 < q.1 ∨ (p.1 = q.1 ∧ p.2.1 < q.2.1)) := by
  unfold g_r4_Compare
  cases h1 : (decide (p.1 < q.1)) || ((p.1 == q.1) && (decide (p.2.1 < q.2.1))) with
  | true => simp at h1 ⊢; exact h1
  | false =>
    have h2 : ¬ (p.1 < q.1 ∨ (p.1 = q.1 ∧ p.2.1 < q.2.1)) := by simpa using h1
    simp only [cond_false]
    cases (p.1 == q.1) && (p.2.1 == q.2.1) <;> simp <;> omega
/-- Insert. -/
theorem ref_ins {m : Mp} {L : List TableEntryT} (h : IsEn m L) (hL : L.length ≤ 1000) {p : PrefixT} (hu : u32 p.1) (v : Int) :
    (g_addr_Valid p = false → g_fn_27 L p v = (false, L)) ∧ (g_addr_Valid p = true → ∃ K, g_fn_27 L p v = (true, K) ∧ IsEn (upd m (key p) (some v)) K) := by
  unfold g_fn_27
  rw [rvalid_eq, seg_self, List.take_length]
  refine ⟨fun hv => by rw [hv]; rfl, fun hv => ?_⟩
  rw [hv]
  simp only [Bool.not_true, cond_false]
  rcases has_or m p with ⟨w, hw⟩ | hn
  · obtain ⟨i, h1, h2⟩ := at_has h hu hw
    have hlt := (List.getElem?_eq_some_iff.1 h1).1
    rw [h2, decide_eq_true (show (i : Int) ≥ 0 by omega), cond_true]
    refine ⟨_, rfl, ?_⟩
    have e1 : List.getD L (0 + Int.toNat (i : Int)) TableEntryD = (p.1, p.2.1, w, ()) := by
      rw [Nat.zero_add, Int.toNat_natCast]
      simp [List.getD, h1]
    rw [e1, Nat.zero_add, Int.toNat_natCast]
    have e2 : List.take L.length (L.set i (p.1, p.2.1, v, ())) = L.set i (p.1, p.2.1, v, ()) := List.take_of_length_le (by simp)
    rw [e2]
    exact ref_set h hu hw h1
  · rw [(at_not h hn).1]
    simp only [show decide ((-1 : Int) ≥ 0) = false from rfl, cond_false]
    unfold S_fn_27_0
    refine upS_fin (S := Int) (R := Bool × List TableEntryT) (N := L.length + 1) (P := fun r => ∃ K, r = (true, K) ∧ IsEn (upd m (key p) (some v)) K)
      (I := fun c s => s = (c : Int) ∧ c ≤ L.length ∧ ∀ j e, j < c → L[j]? = some e → Lt e (p.1, p.2.1, v, ()))
      (fun c s hc hI => ?_) (fun s hI => ?_) (L.length + 1) 0 (by omega) 0 ⟨rfl, Nat.zero_le _, fun j e hj => absurd hj (Nat.not_lt_zero _)⟩
    · obtain ⟨rfl, h1, h2⟩ := hI
      simp only [Nat.zero_add, Int.toNat_natCast]
      cases hb : (decide ((c : Int) < (L.length : Int))) && (decide ((g_r4_Compare ((List.getD L c TableEntryD).1, (List.getD L c TableEntryD).2.1, ()) p) < 0)) with
      | true =>
        simp only [Bool.and_eq_true] at hb
        have hlt : c < L.length := by have := of_decide_eq_true hb.1; omega
        have hc2 := cmp_neg.1 hb.2
        refine .inr ⟨_, ⟨?_, by omega, fun j e hj hje => ?_⟩, fun next => rfl⟩
        · rw [w64 (by omega) (by omega)]; omega
        · by_cases hjc : j = c
          · subst hjc
            have : List.getD L j TableEntryD = e := by simp [List.getD, hje]
            rw [this] at hc2
            exact hc2
          · exact h2 j e (by omega) hje
      | false =>
        refine .inl ⟨_, ⟨_, rfl, ?_⟩, fun next => rfl⟩
        have e1 : List.take (((segL L 0 (c - Int.toNat 0)).length + 1) + (segL L c (L.length - c)).length) (((segL L 0 (c - Int.toNat 0)) ++ [(p.1, p.2.1, v, ())]) ++ (segL L c (L.length - c))) = L.take c ++ [(p.1, p.2.1, v, ())] ++ L.drop c := by
          have s1 : segL L 0 (c - Int.toNat 0) = L.take c := by simp [segL]
          have s2 : segL L c (L.length - c) = L.drop c := by
            unfold segL
            exact List.take_of_length_le (by simp)
          rw [s1, s2]
          exact List.take_of_length_le (by simp; omega)
        rw [e1]
        refine ref_put h hu hv hn h1 h2 fun e he => ?_
        have hlt := (List.getElem?_eq_some_iff.1 he).1
        have hge : List.getD L c TableEntryD = e := by simp [List.getD, he]
        rw [hge, decide_eq_true (show (c : Int) < (L.length : Int) by omega), Bool.true_and] at hb
        intro hl
        rw [cmp_neg (p := (e.1, e.2.1, ())) (q := p) |>.2 hl] at hb
        cases hb
    · obtain ⟨rfl, h1, _⟩ := hI
      omega
/-- Delete. -/
theorem ref_del {m : Mp} {L : List TableEntryT} (h : IsEn m L) (hL : L.length ≤ 1000) {p : PrefixT} (hu : u32 p.1) :
    (∀ v, Has m p v → ∃ K, g_fn_22 L p = (true, K) ∧ IsEn (upd m (key p) none) K) ∧ ((∀ v, ¬ Has m p v) → g_fn_22 L p = (false, L)) := by
  unfold g_fn_22
  rw [seg_self, List.take_length]
  refine ⟨fun v hv => ?_, fun hn => by rw [(at_not h hn).1]; rfl⟩
  obtain ⟨i, h1, h2⟩ := at_has h hu hv
  have hlt := (List.getElem?_eq_some_iff.1 h1).1
  rw [h2, decide_eq_false (show ¬ (i : Int) < 0 by omega), cond_false]
  refine ⟨_, rfl, ?_⟩
  have w : IntKind.wrap .i64 ((i : Int) + 1) = ((i + 1 : Nat) : Int) := by rw [w64 (by omega) (by omega)]; omega
  have e1 : List.take ((segL L 0 (Int.toNat (i : Int) - Int.toNat 0)).length + (segL L (0 + (Int.toNat (IntKind.wrap .i64 ((i : Int) + 1)))) (Int.toNat (L.length : Int) - Int.toNat (IntKind.wrap .i64 ((i : Int) + 1)))).length)
      ((segL L 0 (Int.toNat (i : Int) - Int.toNat 0)) ++ (segL L (0 + (Int.toNat (IntKind.wrap .i64 ((i : Int) + 1)))) (Int.toNat (L.length : Int) - Int.toNat (IntKind.wrap .i64 ((i : Int) + 1))))) = L.eraseIdx i := by
    rw [w]
    simp only [Nat.zero_add, Int.toNat_natCast]
    have s1 : segL L 0 (i - Int.toNat 0) = L.take i := by simp [segL]
    have s2 : segL L (i + 1) (L.length - (i + 1)) = L.drop (i + 1) := by
      unfold segL
      exact List.take_of_length_le (by simp)
    rw [s1, s2, List.eraseIdx_eq_take_drop_succ]
    exact List.take_of_length_le (by simp)
  rw [e1]
  refine ⟨h.so.sublist (List.eraseIdx_sublist ..), fun e => ?_⟩
  by_cases he : e.1 = p.1 ∧ e.2.1 = p.2.1
  · rw [mem_upd_at hu hv.1 he.1 he.2]
    constructor
    · intro hm
      obtain ⟨j, hj, hne, rfl⟩ := List.mem_eraseIdx_iff_getElem.1 hm
      exact (hne (sorted_inj h.so (List.getElem?_eq_getElem hj) h1 he.1 he.2)).elim
    · intro hw; cases hw
  · rw [mem_upd hu hv.1 he, ← h.mem e]
    constructor
    · intro hm
      exact (List.eraseIdx_sublist ..).mem hm
    · intro hm
      obtain ⟨j, hj, rfl⟩ := List.mem_iff_getElem.1 hm
      refine List.mem_eraseIdx_iff_getElem.2 ⟨j, hj, fun hji => he ?_, rfl⟩
      subst hji
      have := (List.getElem?_eq_some_iff.1 h1).2
      rw [this]; exact ⟨rfl, rfl⟩

/-! ### The reference's answers -/
theorem ref_get {m : Mp} {L : List TableEntryT} (h : IsEn m L) {p : PrefixT} (hu : u32 p.1) : (∀ v, Has m p v → g_fn_23 (L, ()) p = (v, true, ())) ∧ ((∀ v, ¬ Has m p v) → g_fn_23 (L, ()) p = (0, false, ())) := by
  unfold g_fn_23
  refine ⟨fun v hv => ?_, fun hn => by rw [(at_not h hn).1]; rfl⟩
  obtain ⟨i, h1, h2⟩ := at_has h hu hv
  rw [h2, decide_eq_false (show ¬ (i : Int) < 0 by omega), cond_false, Int.toNat_natCast]
  have : List.getD L i TableEntryD = (p.1, p.2.1, v, ()) := by simp [List.getD, h1]
  rw [this]
/-- Does an entry contain an address? -/
def Con (a : Int) (e : TableEntryT) : Prop := g_r4_Contains (e.1, e.2.1, ()) a = true
theorem con_key {m : Mp} {e : TableEntryT} (h : Mem m e) {a : Int} : ∃ j : Nat, e.2.1 = (j : Int) ∧ Vp e.1 j ∧ m (kp e.1 j) = some e.2.2.1 ∧ (Con a e ↔ kp e.1 j = kp a j) := by
  obtain ⟨j, h1, h2, h3⟩ := h
  refine ⟨j, h1, h2, h3, ?_⟩
  have hj : e.2.1.toNat = j := by omega
  have := contains_iff (p := (e.1, e.2.1, ())) (a := a) (by show 0 ≤ e.2.1; omega) (by show Vp e.1 e.2.1.toNat; rw [hj]; exact h2)
  unfold Con
  rw [this]
  show kp e.1 e.2.1.toNat = kp a e.2.1.toNat ↔ _
  rw [hj]
theorem cut_mem {m : Mp} {a : Int} {n : Nat} (hn : n ≤ 32) {v : Int} (h : m (kp a n) = some v) : Mem m (cut32 a n, (n : Int), v, ()) ∧ Con a (cut32 a n, (n : Int), v, ()) := by
  have hm : Mem m (cut32 a n, (n : Int), v, ()) := ⟨n, rfl, vp_cut a hn, by show m (kp (cut32 a n) n) = _; rw [kp_cut a hn]; exact h⟩
  refine ⟨hm, ?_⟩
  obtain ⟨j, h1, h2, h3, h4⟩ := con_key hm (a := a)
  have h1 : (n : Int) = (j : Int) := h1
  have : j = n := by omega
  subst this
  exact h4.2 (kp_cut a hn)
theorem best_none {m : Mp} {a : Int} : ∀ (c : Nat), (∀ n, n < c → m (kp a n) = none) → best m a c = none
  | 0, _ => rfl
  | c + 1, h => by simp only [best, h c (by omega)]; exact best_none c fun n hn => h n (by omega)
theorem best_at {m : Mp} {a : Int} {j : Nat} {v : Int} (hj : m (kp a j) = some v) : ∀ (c : Nat), j < c → (∀ n, j < n → n < c → m (kp a n) = none) → best m a c = some (j, v)
  | 0, h, _ => absurd h (Nat.not_lt_zero _)
  | c + 1, h, hn => by
    by_cases hc : j = c
    · subst hc; simp only [best, hj]
    · simp only [best, hn c (by omega) (by omega)]
      exact best_at hj c (by omega) fun n h1 h2 => hn n h1 (by omega)
theorem mem_at {m : Mp} {L : List TableEntryT} (h : IsEn m L) {c : Nat} (hc : c < L.length) : Mem m (List.getD L c TableEntryD) := (h.mem _).1 (getD_mem hc _)
theorem ref_look {m : Mp} {L : List TableEntryT} (h : IsEn m L) (a : Int) : g_fn_24 (L, ()) a = resL a (best m a 33) := by
  unfold g_fn_24 S_fn_24_0
  obtain ⟨s, hI, e⟩ := upS_inv (S := Int) (R := PrefixT × Int × Bool × Unit) (n := L.length)
    (body := fun c0 (v0 : Int) => fun (next0 : Int → (PrefixT × Int × Bool × Unit)) => cond ((g_r4_Contains ((List.getD L c0 TableEntryD).1, (List.getD L c0 TableEntryD).2.1, ()) a) && ((decide (v0 < 0)) || (decide ((List.getD L c0 TableEntryD).2.1 > (List.getD L (Int.toNat v0) TableEntryD).2.1)))) (next0 (c0 : Int)) (next0 v0))
    (rest := fun (v0 : Int) => cond (decide (v0 < 0)) ((0, 0, ()), 0, false, ()) (((List.getD L (Int.toNat v0) TableEntryD).1, (List.getD L (Int.toNat v0) TableEntryD).2.1, ()), (List.getD L (Int.toNat v0) TableEntryD).2.2.1, true, ()))
    (I := fun c v => (v = -1 ∧ ∀ j, j < c → ¬ Con a (List.getD L j TableEntryD)) ∨ ∃ i : Nat, v = (i : Int) ∧ i < c ∧ i < L.length ∧ Con a (List.getD L i TableEntryD) ∧ ∀ j, j < c → Con a (List.getD L j TableEntryD) → (List.getD L j TableEntryD).2.1 ≤ (List.getD L i TableEntryD).2.1)
    (fun c hc v hI => by
      by_cases hcon : Con a (List.getD L c TableEntryD)
      · have hcb : g_r4_Contains ((List.getD L c TableEntryD).1, (List.getD L c TableEntryD).2.1, ()) a = true := hcon
        rcases hI with ⟨rfl, hI⟩ | ⟨i, rfl, h1, h2, h3, h4⟩
        · refine ⟨(c : Int), .inr ⟨c, rfl, Nat.lt_succ_self c, hc, hcon, fun j hj hjc => ?_⟩, fun next => by rw [hcb]; rfl⟩
          by_cases hjc2 : j = c
          · subst hjc2; exact Int.le_refl _
          · exact (hI j (by omega) hjc).elim
        · by_cases hgt : (List.getD L c TableEntryD).2.1 > (List.getD L i TableEntryD).2.1
          · refine ⟨(c : Int), .inr ⟨c, rfl, Nat.lt_succ_self c, hc, hcon, fun j hj hjc => ?_⟩, fun next => by rw [hcb, Int.toNat_natCast, decide_eq_true hgt, Bool.or_true]; rfl⟩
            by_cases hjc2 : j = c
            · subst hjc2; exact Int.le_refl _
            · have := h4 j (by omega) hjc; omega
          · refine ⟨(i : Int), .inr ⟨i, rfl, by omega, h2, h3, fun j hj hjc => ?_⟩, fun next => by rw [hcb, Int.toNat_natCast, decide_eq_false hgt, decide_eq_false (show ¬ (i : Int) < 0 by omega)]; rfl⟩
            by_cases hjc2 : j = c
            · subst hjc2; omega
            · exact h4 j (by omega) hjc
      · have hcb : g_r4_Contains ((List.getD L c TableEntryD).1, (List.getD L c TableEntryD).2.1, ()) a = false := by simpa [Con] using hcon
        refine ⟨v, ?_, fun next => by rw [hcb]; rfl⟩
        rcases hI with ⟨rfl, hI⟩ | ⟨i, rfl, h1, h2, h3, h4⟩
        · refine .inl ⟨rfl, fun j hj hjc => ?_⟩
          by_cases hjc2 : j = c
          · subst hjc2; exact hcon hjc
          · exact hI j (by omega) hjc
        · refine .inr ⟨i, rfl, by omega, h2, h3, fun j hj hjc => ?_⟩
          by_cases hjc2 : j = c
          · subst hjc2; exact (hcon hjc).elim
          · exact h4 j (by omega) hjc)
    L.length 0 (by omega) (-1) (.inl ⟨rfl, fun j hj => absurd hj (Nat.not_lt_zero _)⟩)
  have e' := e
  show upS _ _ (L.length - 0) 0 (-1) = _
  rw [Nat.sub_zero]
  refine e'.trans ?_
  -- an entry that the table holds and that contains a
  have idx : ∀ {n : Nat} {v : Int}, n ≤ 32 → m (kp a n) = some v → ∃ j, j < L.length ∧ Con a (List.getD L j TableEntryD) ∧ (List.getD L j TableEntryD).2.1 = (n : Int) := fun {n v} hn hv => by
    obtain ⟨g1, g2⟩ := cut_mem hn hv
    obtain ⟨j, hj⟩ := List.getElem?_of_mem ((h.mem _).2 g1)
    have hlt := (List.getElem?_eq_some_iff.1 hj).1
    have : List.getD L j TableEntryD = (cut32 a n, (n : Int), v, ()) := by simp [List.getD, hj]
    exact ⟨j, hlt, by rw [this]; exact g2, by rw [this]⟩
  rcases hI with ⟨rfl, hI⟩ | ⟨i, rfl, h1, h2, h3, h4⟩
  · rw [best_none 33 fun n hn => ?_]
    · rfl
    · cases hv : m (kp a n) with
      | none => rfl
      | some v =>
        obtain ⟨j, hj, hc, _⟩ := idx (show n ≤ 32 by omega) hv
        exact (hI j hj hc).elim
  · obtain ⟨j, g1, g2, g3, g4⟩ := con_key (mem_at h h2) (a := a)
    have hk := g4.1 h3
    have hle := g2.le
    have hka : m (kp a j) = some (List.getD L i TableEntryD).2.2.1 := by rw [← hk]; exact g3
    rw [best_at hka 33 (by omega) fun n hn1 hn2 => ?_]
    · rw [decide_eq_false (show ¬ (i : Int) < 0 by omega), cond_false, Int.toNat_natCast]
      show _ = (g_addr_Network a (j : Int), (List.getD L i TableEntryD).2.2.1, true, ())
      rw [net_eq a hle, g1, (g2.inj (vp_cut a hle) (by rw [kp_cut a hle]; exact hk)).1]
    · cases hv : m (kp a n) with
      | none => rfl
      | some v =>
        obtain ⟨q, hq, hc, hl⟩ := idx (show n ≤ 32 by omega) hv
        have := h4 q hq hc
        rw [hl, g1] at this
        omega
/-! ### The prefixes that cover one -/
def pfx (e : TableEntryT) : PrefixT := (e.1, e.2.1, ())
theorem upS_filter {R : Type} {f : Nat → Bool} {g : Nat → PrefixT} {r : List PrefixT → R} : ∀ (k c : Nat) (v : List PrefixT), upS (fun c (v : List PrefixT) (next : List PrefixT → R) => cond (f c) (next (v ++ [g c])) (next v)) r k c v = r (v ++ ((List.range' c k).filter f).map g)
  | 0, c, v => by simp [upS]
  | k + 1, c, v => by
    unfold upS
    rw [List.range'_succ, List.filter_cons]
    cases h : f c with
    | true => simp only [cond_true]; rw [upS_filter k]; simp
    | false => simp only [cond_false]; rw [upS_filter k]; simp
theorem range_getD {α : Type} (d : α) : ∀ (l : List α), (List.range' 0 l.length).map (fun c => l.getD c d) = l := fun l => by
  rw [← List.range_eq_range']
  refine List.ext_getElem (by simp) fun i h1 h2 => ?_
  simp only [List.getElem_map, List.getElem_range]
  simp [List.getD, h2]
theorem filter_at {α β : Type} (d : α) (f : α → Bool) (g : α → β) (l : List α) : ((List.range' 0 l.length).filter fun c => f (l.getD c d)).map (fun c => g (l.getD c d)) = (l.filter f).map g := by
  conv => rhs; rw [← range_getD d l]
  rw [List.filter_map, List.map_map]
  rfl
theorem filter_one {L : List TableEntryT} (h : L.Pairwise Lt) {f : TableEntryT → Bool} {a n : Int} (hf : ∀ e ∈ L, f e = true → e.1 = a ∧ e.2.1 = n) : ∀ e ∈ L, f e = true → L.filter f = [e] := by
  induction L with
  | nil => intro e he; cases he
  | cons x L ih =>
    intro e he hfe
    rw [List.pairwise_cons] at h
    rw [List.filter_cons]
    rcases List.mem_cons.1 he with rfl | he
    · rw [if_pos hfe]
      have hnone : L.filter f = [] := List.filter_eq_nil_iff.2 fun y hy hfy => by
        have h1 := hf e (List.mem_cons_self ..) hfe
        have h2 := hf y (List.mem_cons_of_mem _ hy) hfy
        exact (h.1 y hy).ne (by rw [h1.1, h2.1]) (by rw [h1.2, h2.2])
      rw [hnone]
    · have hx : ¬ f x = true := fun hfx => by
        have h1 := hf x (List.mem_cons_self ..) hfx
        have h2 := hf e (List.mem_cons_of_mem _ he) hfe
        exact (h.1 e he).ne (by rw [h1.1, h2.1]) (by rw [h1.2, h2.2])
      rw [if_neg hx]
      exact ih h.2 (fun y hy => hf y (List.mem_cons_of_mem _ hy)) e he hfe
/-- The entries of one length that cover a prefix. -/
theorem cov_one {m : Mp} {L : List TableEntryT} (h : IsEn m L) {p : PrefixT} {n : Nat} (hn : n ≤ 32) :
    (L.filter fun e => (e.2.1 == (n : Int)) && g_r4_Covers (e.1, e.2.1, ()) p).map pfx = bif decide ((n : Int) ≤ p.2.1) then (match m (kp p.1 n) with | some _ => [g_addr_Network p.1 (n : Int)] | none => []) else [] := by
  have hcov : ∀ e : TableEntryT, g_r4_Covers (e.1, e.2.1, ()) p = ((decide (e.2.1 ≤ p.2.1)) && g_r4_Contains (e.1, e.2.1, ()) p.1) := fun e => rfl
  have key : ∀ e ∈ L, ((e.2.1 == (n : Int)) && g_r4_Covers (e.1, e.2.1, ()) p) = true → e.1 = cut32 p.1 n ∧ e.2.1 = (n : Int) ∧ (n : Int) ≤ p.2.1 ∧ m (kp p.1 n) = some e.2.2.1 := fun e he hf => by
    rw [hcov] at hf
    simp only [Bool.and_eq_true, beq_iff_eq, decide_eq_true_eq] at hf
    obtain ⟨h1, h2, h3⟩ := hf
    obtain ⟨j, g1, g2, g3, g4⟩ := con_key ((h.mem e).1 he) (a := p.1)
    have hj : j = n := by omega
    subst hj
    have hk := g4.1 h3
    exact ⟨(g2.inj (vp_cut _ hn) (by rw [kp_cut _ hn]; exact hk)).1, h1, by omega, by rw [← hk]; exact g3⟩
  have nil : (∀ e ∈ L, ¬ ((e.2.1 == (n : Int)) && g_r4_Covers (e.1, e.2.1, ()) p) = true) → (L.filter fun e => (e.2.1 == (n : Int)) && g_r4_Covers (e.1, e.2.1, ()) p).map pfx = [] := fun hh => by
    rw [List.filter_eq_nil_iff.2 hh]; rfl
  by_cases hp : (n : Int) ≤ p.2.1
  · rw [decide_eq_true hp, cond_true]
    cases hv : m (kp p.1 n) with
    | none =>
      refine nil fun e he hf => ?_
      have := (key e he hf).2.2.2
      rw [hv] at this; cases this
    | some v =>
      obtain ⟨g1, g2⟩ := cut_mem hn hv
      have hm := (h.mem _).2 g1
      have hf : (((cut32 p.1 n, (n : Int), v, ()) : TableEntryT).2.1 == (n : Int) && g_r4_Covers (((cut32 p.1 n, (n : Int), v, ()) : TableEntryT).1, ((cut32 p.1 n, (n : Int), v, ()) : TableEntryT).2.1, ()) p) = true := by
        rw [hcov]
        simp only [Bool.and_eq_true, beq_iff_eq, decide_eq_true_eq, true_and]
        exact ⟨hp, g2⟩
      rw [filter_one h.so (a := cut32 p.1 n) (n := (n : Int)) (fun e he hf => ⟨(key e he hf).1, (key e he hf).2.1⟩) _ hm hf]
      show [pfx _] = [g_addr_Network p.1 (n : Int)]
      rw [net_eq _ hn]
      rfl
  · rw [decide_eq_false hp, cond_false]
    exact nil fun e he hf => hp (key e he hf).2.2.1
theorem ref_cov {m : Mp} {L : List TableEntryT} (h : IsEn m L) {p : PrefixT} : (g_addr_Valid p = false → g_fn_26 (L, ()) p = []) ∧ (g_addr_Valid p = true → g_fn_26 (L, ()) p = cov m p.1 (p.2.1.toNat + 1)) := by
  unfold g_fn_26
  rw [rvalid_eq]
  refine ⟨fun hv => by rw [hv]; rfl, fun hv => ?_⟩
  rw [hv]
  simp only [Bool.not_true, cond_false]
  have hl := vlen hv
  have inner : ∀ (c0 : Nat) (next0 : List PrefixT → List PrefixT) (v : List PrefixT), S_fn_26_1 (L, ()) p c0 next0 v = next0 (v ++ (L.filter fun e => (e.2.1 == (c0 : Int)) && g_r4_Covers (e.1, e.2.1, ()) p).map pfx) := fun c0 next0 v => by
    unfold S_fn_26_1
    rw [Nat.sub_zero]
    rw [upS_filter (f := fun c1 => (((List.getD L c1 TableEntryD).2.1 == (c0 : Int)) && (g_r4_Covers ((List.getD L c1 TableEntryD).1, (List.getD L c1 TableEntryD).2.1, ()) p))) (g := fun c1 => ((List.getD L c1 TableEntryD).1, (List.getD L c1 TableEntryD).2.1, ())) (r := fun v2 => next0 v2)]
    exact congrArg (fun x => next0 (v ++ x)) (filter_at TableEntryD (fun e => (e.2.1 == (c0 : Int)) && g_r4_Covers (e.1, e.2.1, ()) p) pfx L)
  unfold S_fn_26_0
  obtain ⟨s, hI, e⟩ := upS_inv (S := List PrefixT) (R := List PrefixT) (n := 33)
    (body := fun c0 (v2 : List PrefixT) => fun (next0 : (List PrefixT) → (List PrefixT)) => (S_fn_26_1 (L, ()) p c0 next0 v2)) (rest := fun (v2 : List PrefixT) => (List.take (List.length v2) v2))
    (I := fun c v => v = cov m p.1 (min c (p.2.1.toNat + 1)))
    (fun c hc v hI => by
      subst hI
      refine ⟨_, ?_, fun next => inner c next _⟩
      rw [cov_one h (show c ≤ 32 by omega)]
      by_cases hcp : (c : Int) ≤ p.2.1
      · rw [decide_eq_true hcp, cond_true, Nat.min_eq_left (show c ≤ p.2.1.toNat + 1 by omega), Nat.min_eq_left (show c + 1 ≤ p.2.1.toNat + 1 by omega)]
        rfl
      · rw [decide_eq_false hcp, cond_false, Nat.min_eq_right (show p.2.1.toNat + 1 ≤ c by omega), Nat.min_eq_right (show p.2.1.toNat + 1 ≤ c + 1 by omega), List.append_nil])
    33 0 (by omega) [] rfl
  subst hI
  rw [Nat.min_eq_right (show p.2.1.toNat + 1 ≤ 33 by omega)] at e
  exact e.trans (by simp)

/-! ### A play -/
def PlayI (c : Nat) (s : (List Nd) × Int × (List TableEntryT)) : Prop := ∃ m : Mp, Rep s.1 s.2.1 m ∧ IsEn m s.2.2 ∧ s.2.1 ≤ (c : Int)
theorem isEn_len {m : Mp} {tr : List Nd} {sz : Int} {L : List TableEntryT} (R : Rep tr sz m) (h : IsEn m L) : (L.length : Int) = sz := by
  rw [h.en, En_len, R.sz]
theorem PlayI.len {c : Nat} {s : (List Nd) × Int × (List TableEntryT)} (h : PlayI c s) : s.2.2.length ≤ c := by
  obtain ⟨m, R, hE, hc⟩ := h
  have := isEn_len R hE
  omega
theorem PlayI.up {c : Nat} {s : (List Nd) × Int × (List TableEntryT)} (h : PlayI c s) : PlayI (c + 1) s := by
  obtain ⟨m, R, hE, hc⟩ := h
  exact ⟨m, R, hE, by omega⟩
theorem play_e : PlayI 0 (g_trie_New.1, g_trie_New.2, []) := by
  refine ⟨fun _ => none, rep_new, ⟨.nil, fun e => ⟨fun h => (by cases h), ?_⟩⟩, Int.le_refl _⟩
  rintro ⟨j, _, _, h⟩
  cases h
theorem play_ins {c : Nat} {s : (List Nd) × Int × (List TableEntryT)} (h : PlayI c s) (hc : c ≤ 60) {p : PrefixT} (hu : u32 p.1) (v : Int) :
    (g_fn_17 s.1 s.2.1 p v).1 = (g_fn_27 s.2.2 p v).1 ∧ PlayI (c + 1) ((g_fn_17 s.1 s.2.1 p v).2.1, (g_fn_17 s.1 s.2.1 p v).2.2, (g_fn_27 s.2.2 p v).2) := by
  obtain ⟨m, R, hE, hcs⟩ := h
  have hl : s.2.2.length ≤ 1000 := by have := isEn_len R hE; omega
  obtain ⟨r1, r2⟩ := ref_ins hE hl hu v
  cases hv : g_addr_Valid p with
  | false =>
    rw [ins_no hv, r1 hv]
    exact ⟨rfl, m, R, hE, by show s.2.1 ≤ _; omega⟩
  | true =>
    obtain ⟨K, hK, hEK⟩ := r2 hv
    have hi := ins_rep R (e := (p.1, p.2.1, v, ())) hu (by omega)
    have e1 : insM m (p.1, p.2.1, v, ()) = upd m (key p) (some v) := by
      unfold insM
      show (bif g_addr_Valid p then _ else _) = _
      rw [hv]; rfl
    have e2 : (((p.1, p.2.1, v, ()) : TableEntryT).1, ((p.1, p.2.1, v, ()) : TableEntryT).2.1, ()) = p := rfl
    rw [e1] at hi
    obtain ⟨hi1, hi2⟩ := hi
    have hy := (ins_yes R (v := v) hu (by omega) hv).1
    rw [hK]
    refine ⟨?_, upd m (key p) (some v), hi1, hEK, ?_⟩
    · exact hy
    · have : (g_fn_17 s.1 s.2.1 p v).2.2 ≤ s.2.1 + 1 := hi2
      show (g_fn_17 s.1 s.2.1 p v).2.2 ≤ _
      omega
theorem play_del {c : Nat} {s : (List Nd) × Int × (List TableEntryT)} (h : PlayI c s) (hc : c ≤ 60) {p : PrefixT} (hu : u32 p.1) :
    (g_fn_18 s.1 s.2.1 p).1 = (g_fn_22 s.2.2 p).1 ∧ PlayI (c + 1) ((g_fn_18 s.1 s.2.1 p).2.1, (g_fn_18 s.1 s.2.1 p).2.2, (g_fn_22 s.2.2 p).2) := by
  have hu' := h.up
  obtain ⟨m, R, hE, hcs⟩ := h
  have hl : s.2.2.length ≤ 1000 := by have := isEn_len R hE; omega
  obtain ⟨r1, r2⟩ := ref_del hE hl hu
  rcases has_or m p with ⟨v, hv⟩ | hn
  · obtain ⟨K, hK, hEK⟩ := r1 v hv
    obtain ⟨d1, d2⟩ := del_yes R hu (by omega) hv.1 hv.2
    rw [hK]
    refine ⟨d1, _, d2, hEK, ?_⟩
    have e1 := d2.sz
    have e2 := cnt_upd (m := m) (q0 := key p) (v := none) 32 [] (key p) (by simp) (by rw [pth_len]; have := (vlen hv.1).2; omega)
    have e3 := hc_some hv.2
    have e4 := R.sz
    simp only at e2
    show (g_fn_18 s.1 s.2.1 p).2.2 ≤ _
    omega
  · rw [r2 hn, del_no R hu (not_has hn)]
    exact ⟨rfl, hu'⟩
theorem play_get {c : Nat} {s : (List Nd) × Int × (List TableEntryT)} (h : PlayI c s) {p : PrefixT} (hu : u32 p.1) : g_fn_10 s.1 s.2.1 p = g_fn_23 (s.2.2, ()) p := by
  obtain ⟨m, R, hE, hcs⟩ := h
  rcases has_or m p with ⟨v, hv⟩ | hn
  · rw [get_yes R hu hv.1 hv.2, (ref_get hE hu).1 v hv]
  · rw [get_no R hu (not_has hn), (ref_get hE hu).2 hn]
theorem play_look {c : Nat} {s : (List Nd) × Int × (List TableEntryT)} (h : PlayI c s) {a : Int} (hu : u32 a) : g_fn_9 s.1 s.2.1 a = g_fn_24 (s.2.2, ()) a := by
  obtain ⟨m, R, hE, hcs⟩ := h
  rw [lookup_eq R hu, ref_look hE]
theorem play_cov {c : Nat} {s : (List Nd) × Int × (List TableEntryT)} (h : PlayI c s) {p : PrefixT} (hu : u32 p.1) : g_fn_14 s.1 s.2.1 p = g_fn_26 (s.2.2, ()) p := by
  obtain ⟨m, R, hE, hcs⟩ := h
  cases hv : g_addr_Valid p with
  | true => rw [cover_eq R hu hv, (ref_cov hE).2 hv]
  | false =>
    rw [(ref_cov hE).1 hv]
    unfold g_fn_14
    rw [hv]; rfl
theorem play_sz {c : Nat} {s : (List Nd) × Int × (List TableEntryT)} (h : PlayI c s) : g_fn_20 s.1 s.2.1 = (s.2.2.length : Int) := by
  obtain ⟨m, R, hE, hcs⟩ := h
  exact (isEn_len R hE).symm
theorem play_ent {c : Nat} {s : (List Nd) × Int × (List TableEntryT)} (h : PlayI c s) : g_fn_16 s.1 s.2.1 = s.2.2 := by
  obtain ⟨m, R, hE, hcs⟩ := h
  rw [ent_eq R, hE.en]

/-! ### What the walk of the plays needs -/
theorem play_v16 {c : Nat} {s : (List Nd) × Int × (List TableEntryT)} (h : PlayI c s) (hc : c ≤ 60) : ((((p_fn_16 s.1 s.2.1) && true) && true) && true) = true := by
  obtain ⟨m, R, hE, hcs⟩ := h
  rw [ent_pre R (by omega)]; rfl
theorem play_v22 {c : Nat} {s : (List Nd) × Int × (List TableEntryT)} (h : PlayI c s) (hc : c ≤ 60) (p : PrefixT) : ((decide (s.2.2.length = s.2.2.length)) && (p_fn_22 s.2.2 p)) = true := by
  have : p_fn_22 s.2.2 p = true := decide_eq_true (by have := h.len; omega)
  rw [this]; simp
theorem play_v27 {c : Nat} {s : (List Nd) × Int × (List TableEntryT)} (h : PlayI c s) (hc : c ≤ 60) (p : PrefixT) (v : Int) : ((decide (s.2.2.length = s.2.2.length)) && (p_fn_27 s.2.2 p v)) = true := by
  have : p_fn_27 s.2.2 p v = true := decide_eq_true (by have := h.len; omega)
  rw [this]; simp
theorem play_v26 {c : Nat} {s : (List Nd) × Int × (List TableEntryT)} (h : PlayI c s) (hc : c ≤ 60) (p : PrefixT) : p_fn_26 ((segL s.2.2 0 s.2.2.length), ()) p = true := by
  rw [seg_self]
  exact decide_eq_true (by show s.2.2.length ≤ 1000; have := h.len; omega)
theorem u32_acts {l : List ActT} (h : Cell.wf (.sl ActS) l) {c : Nat} (hc : c < l.length) : u32 (l.getD c ActD).2.1 ∧ u32 (l.getD c ActD).2.2.2.2.1 := by
  have : l[c]? = some (l.getD c ActD) := by simp [List.getD, hc]
  have h2 := h.2 c _ this
  exact ⟨u32_of h2.2.1, u32_of h2.2.2.2.2.1⟩
/-- The same, at a law's list of n calls. -/
def PlayJ (n c : Nat) (s : (List Nd) × Int × (List TableEntryT)) : Prop := PlayI (min c n) s
theorem playJ_e (n : Nat) : PlayJ n 0 (g_trie_New.1, g_trie_New.2, []) := by
  unfold PlayJ; rw [Nat.zero_min]; exact play_e
theorem min_up {c n : Nat} (h : c < n) : min (c + 1) n = min c n + 1 := by omega
section
variable {n c : Nat} {s : (List Nd) × Int × (List TableEntryT)} (h : PlayJ n c s)
include h
theorem PlayJ.up (hc : c < n) : PlayJ n (c + 1) s := by unfold PlayJ at *; rw [min_up hc]; exact PlayI.up h
theorem PlayJ.del (hc : c < n) (hn : n ≤ 60) {p : PrefixT} (hu : u32 p.1) : PlayJ n (c + 1) ((g_fn_18 s.1 s.2.1 p).2.1, (g_fn_18 s.1 s.2.1 p).2.2, (g_fn_22 s.2.2 p).2) := by
  unfold PlayJ at *; rw [min_up hc]; exact (play_del h (by omega) hu).2
theorem PlayJ.ins (hc : c < n) (hn : n ≤ 60) {p : PrefixT} (hu : u32 p.1) (v : Int) : PlayJ n (c + 1) ((g_fn_17 s.1 s.2.1 p v).2.1, (g_fn_17 s.1 s.2.1 p v).2.2, (g_fn_27 s.2.2 p v).2) := by
  unfold PlayJ at *; rw [min_up hc]; exact (play_ins h (by omega) hu v).2
theorem PlayJ.v22 (hn : n ≤ 60) (p : PrefixT) : ((decide (s.2.2.length = s.2.2.length)) && (p_fn_22 s.2.2 p)) = true := play_v22 h (by omega) p
theorem PlayJ.v27 (hn : n ≤ 60) (p : PrefixT) (v : Int) : ((decide (s.2.2.length = s.2.2.length)) && (p_fn_27 s.2.2 p v)) = true := play_v27 h (by omega) p v
theorem PlayJ.v26 (hn : n ≤ 60) (p : PrefixT) : (p_fn_26 ((segL s.2.2 0 s.2.2.length), ()) p && true) = true := by rw [play_v26 h (by omega) p]; rfl
theorem PlayJ.v16 (hn : n ≤ 60) : ((((p_fn_16 s.1 s.2.1) && true) && true) && true) = true := play_v16 h (by omega)
end
end Go.Proofs.Ythjhlpbiljpccaa
