/-
  The codes and their equations.
-/
import Derived.Test.YtilbcgklkdkkdaaDoorAmG
import Derived.Test.YtilbcgklkdkkdaaDoorProg
import Derived.KernelRfl
namespace Go.Proofs.YtilbcgklkdkkdaaDoor
open Go Go.AM
set_option maxRecDepth 100000
/-! (netverify/minsat.search).propagate -/
def G_fn_36 : Env := ⟨[e_bits_OnesCount32], []⟩
def b_fn_36_1 : ACode := (.seq (.region [(oI 40 (.bin .lss (.t 39) (.t 38)))] []) (.seq (.cond 40 .skip (.exit 2)) (.seq (.block 3 (.seq (.region [(oI 41 (.ixa 2 (.t 37) (.t 39))), (oI 42 (.load true 2 (.t 41))), (oI 15 (.alloc [(.f (.int .u32 0)), (.f (.int .u32 0))])), (.mk none none (.store 2 (.t 15) (.t 42)))] []) (.seq (.seq (.region [(oI 43 (.fld 0 (.t 15))), (oI 44 (.load false 1 (.t 43))), (oI 45 (.mov (.t 1))), (oI 46 (.bin .and (.t 44) (.t 45))), (oI 47 (.bin .neq (.t 46) (.c (.f (.int .u32 0))))), (oI 48 (.mov (.t 47))), (.mk (some 49) (some (48, false)) (.fld 1 (.t 15))), (.mk (some 50) (some (48, false)) (.load false 1 (.t 49))), (.mk (some 51) (some (48, false)) (.mov (.t 2))), (.mk (some 52) (some (48, false)) (.bin .and (.t 50) (.t 51))), (.mk (some 53) (some (48, false)) (.bin .neq (.t 52) (.c (.f (.int .u32 0))))), (oI 54 (.pick 48 (.c (.f (.bool true))) (.t 53)))] []) (.cond 54 (.exit 3) .skip)) (.seq (.region [(oI 55 (.fld 0 (.t 15))), (oI 56 (.load false 1 (.t 55))), (oI 57 (.mov (.t 2))), (oI 58 (.bin .andNot (.t 56) (.t 57))), (oI 59 (.fld 1 (.t 15))), (oI 60 (.load false 1 (.t 59))), (oI 61 (.mov (.t 1))), (oI 62 (.bin .andNot (.t 60) (.t 61))), (oI 16 (.mov (.t 58))), (oI 17 (.mov (.t 62)))] []) (.seq (.region [(oI 63 (.mov (.t 16))), (oI 64 (.call 40 [(.t 63)])), (oI 65 (.mov (.t 17))), (oI 66 (.call 40 [(.t 65)])), (oI 67 (.bin .add (.t 64) (.t 66)))] []) (.block 4 (.seq (.region [(oI 69 (.bin .eql (.t 67) (.c (.f (.int .i64 0))))), (oI 68 (.mov (.t 69)))] []) (.cond 68 (.seq (.region [(oI 8 (.mov (.c (.f (.int .u32 0))))), (oI 9 (.mov (.c (.f (.int .u32 0))))), (oI 10 (.mov (.c (.f (.bool false)))))] []) .ret) (.seq (.region [(oI 71 (.bin .eql (.t 67) (.c (.f (.int .i64 1))))), (oI 70 (.mov (.t 71)))] []) (.cond 70 (.seq (.region [(oI 72 (.mov (.t 1))), (oI 73 (.mov (.t 16))), (oI 74 (.bin .or (.t 72) (.t 73))), (oI 1 (.mov (.t 74)))] []) (.region [(oI 75 (.mov (.t 2))), (oI 76 (.mov (.t 17))), (oI 77 (.bin .or (.t 75) (.t 76))), (oI 2 (.mov (.t 77)))] [])) .skip)))))))))) (.region [(oI 78 (.bin .add (.t 39) (.c (.f (.int .i64 1))))), (oI 39 (.mov (.t 78)))] []))))
def r_fn_36_0 : ACode := (.seq (.region [(oI 79 (.mov (.t 1))), (oI 80 (.mov (.t 2))), (oI 81 (.bin .or (.t 79) (.t 80))), (oI 82 (.mov (.t 13))), (oI 83 (.bin .eql (.t 81) (.t 82)))] []) (.cond 83 (.seq (.region [(oI 84 (.mov (.t 1))), (oI 85 (.mov (.t 2))), (oI 8 (.mov (.t 84))), (oI 9 (.mov (.t 85))), (oI 10 (.mov (.c (.f (.bool true)))))] []) .ret) .skip))
def b_fn_36_0 : ACode := (.block 1 (.seq (.region [(oI 22 (.mov (.t 1))), (oI 23 (.call 40 [(.t 22)])), (oI 12 (.mov (.t 23)))] []) (.seq (.seq (.region [(oI 24 (.mov (.t 12))), (oI 25 (.mov (.t 3))), (oI 26 (.bin .gtr (.t 24) (.t 25)))] []) (.cond 26 (.seq (.region [(oI 8 (.mov (.c (.f (.int .u32 0))))), (oI 9 (.mov (.c (.f (.int .u32 0))))), (oI 10 (.mov (.c (.f (.bool false)))))] []) .ret) .skip)) (.seq (.region [(oI 27 (.mov (.t 1))), (oI 28 (.mov (.t 2))), (oI 29 (.bin .or (.t 27) (.t 28))), (oI 13 (.mov (.t 29)))] []) (.seq (.seq (.region [(oI 30 (.mov (.t 12))), (oI 31 (.mov (.t 3))), (oI 32 (.bin .eql (.t 30) (.t 31)))] []) (.cond 32 (.region [(oI 33 (.mov (.t 11))), (oI 34 (.mov (.t 1))), (oI 35 (.bin .andNot (.t 33) (.t 34))), (oI 2 (.mov (.t 35)))] []) .skip)) (.seq (.seq (.region [(oI 36 (.fld 1 (.t 4))), (oI 37 (.load false 1 (.t 36))), (oI 38 (.len (.t 37))), (oI 39 (.mov (.c (.f (.int .i64 0)))))] []) (.block 2 (.loop 1 [(1, .no), (2, .no), (3, .no), (4, .no), (11, .no), (13, .no), (37, .no), (38, .no), (39, .no)] b_fn_36_1))) r_fn_36_0))))))
def c_fn_36 : AFunc := AFunc.mk 86 4 [(.t 8), (.t 9), (.t 10)] (.seq (.region [(oI 4 (.box (.t 0))), (oI 8 (.mov (.c (.f (.int .u32 0))))), (oI 9 (.mov (.c (.f (.int .u32 0))))), (oI 10 (.mov (.c (.f (.bool false)))))] []) (.seq (.region [(oI 18 (.fld 0 (.t 4))), (oI 19 (.load false 1 (.t 18))), (oI 20 (.bin .shl (.c (.f (.int .u32 1))) (.t 19))), (oI 21 (.bin .sub (.t 20) (.c (.f (.int .u32 1))))), (oI 11 (.mov (.t 21)))] []) (.block 0 (.loop 0 [(1, .no), (2, .no), (3, .no), (4, .no), (11, .no)] b_fn_36_0))))
def tb_fn_36 : Tbl
  | 0 => ([(1, .no), (2, .no), (3, .no), (4, .no), (11, .no)], b_fn_36_0)
  | 1 => ([(1, .no), (2, .no), (3, .no), (4, .no), (11, .no), (13, .no), (37, .no), (38, .no), (39, .no)], b_fn_36_1)
  | _ => ([], .skip)
theorem ok_fn_36 : compF Tryd.prog [11, 23, 26, 27] Tryd.f36 = some c_fn_36.strip := by kernel_rfl
theorem tk_fn_36 : TblOk tb_fn_36 c_fn_36.body := ⟨trivial, ⟨trivial, ⟨rfl, ⟨trivial, ⟨⟨trivial, ⟨⟨trivial, trivial⟩, trivial⟩⟩, ⟨trivial, ⟨⟨trivial, ⟨trivial, trivial⟩⟩, ⟨⟨trivial, ⟨rfl, ⟨trivial, ⟨⟨trivial, trivial⟩, ⟨⟨trivial, ⟨⟨trivial, ⟨trivial, trivial⟩⟩, ⟨trivial, ⟨trivial, ⟨trivial, ⟨⟨trivial, trivial⟩, ⟨trivial, ⟨⟨trivial, trivial⟩, trivial⟩⟩⟩⟩⟩⟩⟩⟩, trivial⟩⟩⟩⟩⟩, ⟨trivial, ⟨⟨trivial, trivial⟩, trivial⟩⟩⟩⟩⟩⟩⟩⟩⟩⟩
def k_fn_36_0 (Q : Int × Int × Bool × Unit → Prop) : K := (kBlock 0 (kDone c_fn_36 (dq e_fn_36.R Q)))
def s_fn_36_0 (s : searchT) (yes : Int) (no : Int) (most : Int) (v0 : Int) (v1 : Int) : St := ⟨[(1, [], .f (.int .u32 v1)), (2, [], .f (.int .u32 v0)), (3, [], .f (.int .i64 most)), (4, [], .ptr 0 0), (11, [], .f (.int .u32 (IntKind.wrap .u32 ((ishl .u32 1 s.1) - 1))))], [.box none [.f (.int .i64 s.1), .f (.fs clauseS s.2.1)]]⟩
def L_fn_36_0 (s : searchT) (yes : Int) (no : Int) (most : Int) (v0 : Int) (v1 : Int) (Q : Int × Int × Bool × Unit → Prop) : Prop := Lfp G_fn_36 tb_fn_36 0 (s_fn_36_0 s yes no most v0 v1) (k_fn_36_0 Q)
def k_fn_36_1 (Q : Int × Int × Bool × Unit → Prop) : K := (kBlock 2 (kSeq (evC G_fn_36 (Lfp G_fn_36 tb_fn_36) r_fn_36_0) (kBlock 1 (kLoop [(1, .no), (2, .no), (3, .no), (4, .no), (11, .no)] (Lfp G_fn_36 tb_fn_36 0) (k_fn_36_0 Q)))))
def s_fn_36_1 (s : searchT) (yes : Int) (no : Int) (most : Int) (v0 : Int) (v1 : Int) (v2 : Int) (v3 : Int) : St := ⟨[(1, [], .f (.int .u32 v2)), (2, [], .f (.int .u32 v0)), (3, [], .f (.int .i64 most)), (4, [], .ptr 0 0), (11, [], .f (.int .u32 (IntKind.wrap .u32 ((ishl .u32 1 s.1) - 1)))), (13, [], .f (.int .u32 v3)), (37, [], .f (.fs clauseS s.2.1)), (38, [], .f (.int .i64 (s.2.1.length : Int))), (39, [], .f (.int .i64 v1))], [.box none [.f (.int .i64 s.1), .f (.fs clauseS s.2.1)]]⟩
def L_fn_36_1 (s : searchT) (yes : Int) (no : Int) (most : Int) (v0 : Int) (v1 : Int) (v2 : Int) (v3 : Int) (Q : Int × Int × Bool × Unit → Prop) : Prop := Lfp G_fn_36 tb_fn_36 1 (s_fn_36_1 s yes no most v0 v1 v2 v3) (k_fn_36_1 Q)
theorem in_fn_36 (s : searchT) (yes : Int) (no : Int) (most : Int) (Q : Int × Int × Bool × Unit → Prop) : evF G_fn_36 (Lfp G_fn_36 tb_fn_36) c_fn_36 (VSs.enc e_fn_36.A (s, yes, no, most, ())) (dq e_fn_36.R Q) = (
  cond (decide (0 ≤ s.1))
  (L_fn_36_0 s yes no most no yes Q)
  False) := by kernel_rfl
theorem rd_fn_36_0 (s : searchT) (yes : Int) (no : Int) (most : Int) (v0 : Int) (v1 : Int) (Q : Int × Int × Bool × Unit → Prop) (h :
  cond (decide ((g_bits_OnesCount32 v1) > most))
  (Q (0, 0, false, ()))
  (cond ((g_bits_OnesCount32 v1) == most)
    (L_fn_36_1 s yes no most (iandnot .u32 (IntKind.wrap .u32 ((ishl .u32 1 s.1) - 1)) v1) 0 v1 (ior .u32 v1 v0) Q)
    (L_fn_36_1 s yes no most v0 0 v1 (ior .u32 v1 v0) Q))) : L_fn_36_0 s yes no most v0 v1 Q := Lfp.step (Eq.mpr (by kernel_rfl) h)
theorem rd_fn_36_1 (s : searchT) (yes : Int) (no : Int) (most : Int) (v0 : Int) (v1 : Int) (v2 : Int) (v3 : Int) (Q : Int × Int × Bool × Unit → Prop) (h :
  cond (decide (v1 < (s.2.1.length : Int)))
  (cond (okIx v1 (s.2.1.length : Int))
    (cond (((iand .u32 (List.getD s.2.1 (Int.toNat v1) clauseD).1 v2) != 0) || ((iand .u32 (List.getD s.2.1 (Int.toNat v1) clauseD).2.1 v0) != 0))
      (L_fn_36_1 s yes no most v0 (IntKind.wrap .i64 (v1 + 1)) v2 v3 Q)
      (cond ((IntKind.wrap .i64 ((g_bits_OnesCount32 (iandnot .u32 (List.getD s.2.1 (Int.toNat v1) clauseD).1 v0)) + (g_bits_OnesCount32 (iandnot .u32 (List.getD s.2.1 (Int.toNat v1) clauseD).2.1 v2)))) == 0)
        (Q (0, 0, false, ()))
        (cond ((IntKind.wrap .i64 ((g_bits_OnesCount32 (iandnot .u32 (List.getD s.2.1 (Int.toNat v1) clauseD).1 v0)) + (g_bits_OnesCount32 (iandnot .u32 (List.getD s.2.1 (Int.toNat v1) clauseD).2.1 v2)))) == 1)
          (L_fn_36_1 s yes no most (ior .u32 v0 (iandnot .u32 (List.getD s.2.1 (Int.toNat v1) clauseD).2.1 v2)) (IntKind.wrap .i64 (v1 + 1)) (ior .u32 v2 (iandnot .u32 (List.getD s.2.1 (Int.toNat v1) clauseD).1 v0)) v3 Q)
          (L_fn_36_1 s yes no most v0 (IntKind.wrap .i64 (v1 + 1)) v2 v3 Q))))
    False)
  (cond ((ior .u32 v2 v0) == v3)
    (Q (v2, v0, true, ()))
    (L_fn_36_0 s yes no most v0 v2 Q))) : L_fn_36_1 s yes no most v0 v1 v2 v3 Q := Lfp.step (Eq.mpr (by kernel_rfl) h)
theorem lp_fn_36_1 (s : searchT) (yes : Int) (no : Int) (most : Int) (c0 : Nat) (v3 : Int) (next0 : (Int × Int) → (Int × Int × Bool × Unit)) (v00 : Int) (v20 : Int) (Q : Int × Int × Bool × Unit → Prop) (hw : VSs.wf e_fn_36.A (s, yes, no, most, ())) (hp : p_fn_36 s yes no most = true) (hc0 : c0 < 33) (hn0 : ∀ s_ : Int × Int, (fun (c : Nat) (v : Int × Int) => Oks s v.2 v.1 ∧ c ≤ pc2 v.2 v.1) (c0 + 1) s_ → (fun y : Int × Int × Bool × Unit => Q y) (next0 s_) → L_fn_36_0 s yes no most s_.1 s_.2 Q) (hy1 : u32 v3 ∧ c0 ≤ pc v3) (hI0 : (fun (_ : Nat) (v : Int × Int) => Oks s v.2 v.1 ∧ ∀ i, bt v3 i = true → (bt v.2 i || bt v.1 i) = true) 0 (v00, v20)) : (fun y : Int × Int × Bool × Unit => Q y) (S_fn_36_1 s yes no most c0 v3 next0 v00 v20) → L_fn_36_1 s yes no most v00 0 v20 v3 Q := by
  have _ := hw
  have _ := hp
  have _ := hc0
  let FF := (fun y : Int × Int × Bool × Unit => Q y)
  refine upS_loop (F := FF) (k := .i64) (n := s.2.1.length) (I := (fun (_ : Nat) (v : Int × Int) => Oks s v.2 v.1 ∧ ∀ i, bt v3 i = true → (bt v.2 i || bt v.1 i) = true)) (L := (fun (c1 : Int) (s1 : Int × Int) => L_fn_36_1 s yes no most s1.1 c1 s1.2 v3 Q)) (wrap_i64n (show _ ≤ _ from (((hw.1).2).1).1)) (fun c1 hc1 s1 hI hF => rd_fn_36_1 s yes no most s1.1 (c1 : Int) s1.2 v3 Q (cond_ge (n := s.2.1.length) rfl hc1 ((cond_f (F := FF) (fun h0 => id) (fun h0 => (hn0 _ (by exact i36c hI hy1 (by assumption))))) hF))) (fun c1 _ hc1 next1 hn1 s1 hI hF => rd_fn_36_1 s yes no most s1.1 (c1 : Int) s1.2 v3 Q (cond_lt (n := s.2.1.length) rfl hc1 ((vc_f (F := FF) (by first | ((have hn0 := (p36.1 hp).1.n0; have h5 := okIx_nat hc1; simp [-List.getD_eq_getElem?_getD, hn0, h5]); done) | ((have hn0 := (p36.1 hp).1.n0; simp [-List.getD_eq_getElem?_getD, hn0]); done) | ((repeat' (first | rfl | exact nn_d64 _ | exact okIx_nat hc0 | exact okIx_nat hc1 | refine and_t ?_ ?_ | refine or_l ?_)); done) | (simp [-List.getD_eq_getElem?_getD, okIx_nat hc0, okIx_nat hc1, nn_u64, nn_u32]; done) | (have hry : roomy = 1048576 := rfl; simp [-List.getD_eq_getElem?_getD, okIx, okSlc, okApp, len_slcL, len_segL] at hI ⊢ <;> omega)) /- 1 -/ (cond_f (F := FF) (fun h0 => (hn1 _ (by first | exact hI | exact i36d (p36.1 hp).1 (getD_mem hc1 _) hI (by assumption)))) (fun h0 => (cond_f (F := FF) (fun h1 => id) (fun h1 => (cond_f (F := FF) (fun h2 => (hn1 _ (by first | exact hI | exact i36d (p36.1 hp).1 (getD_mem hc1 _) hI (by assumption)))) (fun h2 => (hn1 _ (by first | exact hI | exact i36d (p36.1 hp).1 (getD_mem hc1 _) hI (by assumption)))))))))) hF))) (v00, v20) hI0
theorem lp_fn_36_0 (s : searchT) (yes : Int) (no : Int) (most : Int) (v00 : Int) (v10 : Int) (Q : Int × Int × Bool × Unit → Prop) (hw : VSs.wf e_fn_36.A (s, yes, no, most, ())) (hp : p_fn_36 s yes no most = true)  (hI0 : (fun (c : Nat) (v : Int × Int) => Oks s v.2 v.1 ∧ c ≤ pc2 v.2 v.1) 0 (v00, v10)) : (fun y : Int × Int × Bool × Unit => Q y) (S_fn_36_0 s yes no most v00 v10) → L_fn_36_0 s yes no most v00 v10 Q := by
  have _ := hw
  have _ := hp
  let FF := (fun y : Int × Int × Bool × Unit => Q y)
  refine upF_loop (F := FF) (n := 33) (I := (fun (c : Nat) (v : Int × Int) => Oks s v.2 v.1 ∧ c ≤ pc2 v.2 v.1)) (L := (fun (s0 : Int × Int) => L_fn_36_0 s yes no most s0.1 s0.2 Q)) (fun s0 hI => (by have := pc_le (ior .u32 s0.2 s0.1); have h2 := hI.2; unfold pc2 at h2; omega)) (Nat.zero_le _) (fun c0 _ hc0 next0 hn0 s0 hI hF => rd_fn_36_0 s yes no most s0.1 s0.2 Q ((cond_f (F := FF) (fun h0 => id) (fun h0 => (cond_f (F := FF) (fun h1 => (lp_fn_36_1 s yes no most c0 _ _ _ _ Q hw hp hc0 hn0 (by exact ⟨u32_ior _ _, hI.2⟩) (by first | exact i36a (p36.1 hp).1 hI.1 rfl | exact i36b (p36.1 hp).1 hI.1 rfl))) (fun h1 => (lp_fn_36_1 s yes no most c0 _ _ _ _ Q hw hp hc0 hn0 (by exact ⟨u32_ior _ _, hI.2⟩) (by first | exact i36a (p36.1 hp).1 hI.1 rfl | exact i36b (p36.1 hp).1 hI.1 rfl)))))) hF)) (v00, v10) hI0
theorem ct_fn_36 (s : searchT) (yes : Int) (no : Int) (most : Int) (hw : VSs.wf e_fn_36.A (s, yes, no, most, ())) (hp : p_fn_36 s yes no most = true) (Q : Int × Int × Bool × Unit → Prop) (hq : Q (e_fn_36.g (s, yes, no, most, ()))) : EvF G_fn_36 tb_fn_36 c_fn_36 (VSs.enc e_fn_36.A (s, yes, no, most, ())) (dq e_fn_36.R Q) := by
  have _ := hw
  let FF := (fun y : Int × Int × Bool × Unit => Q y)
  refine EvF.of (in_fn_36 s yes no most Q) ?_
  exact (vc_f (F := FF) (by first | ((have hn0 := (p36.1 hp).1.n0; have h5 := okIx_nat hc1; simp [-List.getD_eq_getElem?_getD, hn0, h5]); done) | ((have hn0 := (p36.1 hp).1.n0; simp [-List.getD_eq_getElem?_getD, hn0]); done) | ((repeat' (first | rfl | exact nn_d64 _ | refine and_t ?_ ?_ | refine or_l ?_)); done) | (simp [-List.getD_eq_getElem?_getD, nn_u64, nn_u32]; done) | (have hry : roomy = 1048576 := rfl; simp [-List.getD_eq_getElem?_getD, okIx, okSlc, okApp, len_slcL, len_segL] <;> omega)) /- 2 -/ (lp_fn_36_0 s yes no most _ _ Q hw hp (by have hq := p36.1 hp; exact ⟨⟨u32_of hw.2.1, u32_of hw.2.2.1, hq.2.1, hq.2.2.1, hq.2.2.2⟩, Nat.zero_le _⟩))) hq
/-! math/bits.TrailingZeros32 -/
def G_bits_TrailingZeros32 : Env := ⟨[], []⟩
def c_bits_TrailingZeros32 : AFunc := AFunc.mk 14 1 [(.t 2)] (.seq (.region [(oI 2 (.mov (.c (.f (.int .i64 0)))))] []) (.seq (.seq (.region [(oI 3 (.mov (.t 0))), (oI 4 (.bin .eql (.t 3) (.c (.f (.int .u32 0)))))] []) (.cond 4 (.seq (.region [(oI 2 (.mov (.c (.f (.int .i64 32)))))] []) .ret) .skip)) (.seq (.region [(oI 5 (.mov (.t 0))), (oI 6 (.mov (.t 0))), (oI 7 (.un .neg (.t 6))), (oI 8 (.bin .and (.t 5) (.t 7))), (oI 9 (.bin .mul (.t 8) (.c (.f (.int .u32 125613361))))), (oI 10 (.bin .shr (.t 9) (.c (.f (.int .u64 27))))), (oI 11 (.gix 0 (.t 10))), (oI 12 (.load false 1 (.t 11))), (oI 13 (.conv .i64 (.t 12))), (oI 2 (.mov (.t 13)))] []) .ret)))
def tb_bits_TrailingZeros32 : Tbl := fun _ => ([], .skip)
theorem ok_bits_TrailingZeros32 : compF Tryd.prog [11, 23, 26, 27] Tryd.f37 = some c_bits_TrailingZeros32.strip := by kernel_rfl
theorem tk_bits_TrailingZeros32 : TblOk tb_bits_TrailingZeros32 c_bits_TrailingZeros32.body := ⟨trivial, ⟨⟨trivial, ⟨⟨trivial, trivial⟩, trivial⟩⟩, ⟨trivial, trivial⟩⟩⟩
def tzA : List AOper := [(oI 5 (.mov (.t 0))), (oI 6 (.mov (.t 0))), (oI 7 (.un .neg (.t 6))), (oI 8 (.bin .and (.t 5) (.t 7))), (oI 9 (.bin .mul (.t 8) (.c (.f (.int .u32 125613361)))))]
def tzB : List AOper := [(oI 10 (.bin .shr (.t 9) (.c (.f (.int .u64 27))))), (oI 11 (.gix 0 (.t 10))), (oI 12 (.load false 1 (.t 11))), (oI 13 (.conv .i64 (.t 12))), (oI 2 (.mov (.t 13)))]
abbrev tzS (x0 : Int) : Slots := [(4, [], .f (.bool (x0 == 0))), (3, [], .f (.int .u32 x0)), (2, [], .f (.int .i64 0)), (0, [], .f (.int .u32 x0))]
abbrev tzT (x0 n : Int) : Slots := [(9, [], .f (.int .u32 n)), (8, [], .f (.int .u32 (iand .u32 x0 (IntKind.wrap .u32 (0 - x0))))), (7, [], .f (.int .u32 (IntKind.wrap .u32 (0 - x0)))), (6, [], .f (.int .u32 x0)), (5, [], .f (.int .u32 x0))] ++ tzS x0
theorem tz_a (x0 : Int) : evOps G_bits_TrailingZeros32 tzA ⟨⟨tzS x0, []⟩, true⟩ = some ⟨⟨tzT x0 (IntKind.wrap .u32 ((iand .u32 x0 (IntKind.wrap .u32 (0 - x0))) * 125613361)), []⟩, true⟩ := by kernel_rfl
theorem tz_b (x0 n : Int) (Q : Int × Unit → Prop) : evC G_bits_TrailingZeros32 (Lfp G_bits_TrailingZeros32 tb_bits_TrailingZeros32) (.seq (.region tzB []) .ret) ⟨tzT x0 n, []⟩ (kDone c_bits_TrailingZeros32 (dq e_bits_TrailingZeros32.R Q)) = cond (okIx (ishr .u32 n 27) (gtab0.length : Int)) (Q ((IntKind.wrap .i64 (List.getD gtab0 (Int.toNat (ishr .u32 n 27)) 0)), ())) False := by kernel_rfl
theorem tz_h0 (x0 : Int) : evOps G_bits_TrailingZeros32 [(oI 2 (.mov (.c (.f (.int .i64 0)))))] ⟨⟨[(0, [], .f (.int .u32 x0))], []⟩, true⟩ = some ⟨⟨[(2, [], .f (.int .i64 0)), (0, [], .f (.int .u32 x0))], []⟩, true⟩ := by kernel_rfl
theorem tz_h1 (x0 : Int) : evOps G_bits_TrailingZeros32 [(oI 3 (.mov (.t 0))), (oI 4 (.bin .eql (.t 3) (.c (.f (.int .u32 0)))))] ⟨⟨[(2, [], .f (.int .i64 0)), (0, [], .f (.int .u32 x0))], []⟩, true⟩ = some ⟨⟨tzS x0, []⟩, true⟩ := by kernel_rfl
theorem tz_h2 (x0 : Int) (f : St → K → Prop) (Q : Int × Unit → Prop) : evC G_bits_TrailingZeros32 (Lfp G_bits_TrailingZeros32 tb_bits_TrailingZeros32) (.seq (.region [(oI 2 (.mov (.c (.f (.int .i64 32)))))] []) .ret) ⟨tzS x0, []⟩ (kSeq f (kDone c_bits_TrailingZeros32 (dq e_bits_TrailingZeros32.R Q))) = Q (32, ()) := by kernel_rfl
theorem tz_hb : c_bits_TrailingZeros32.body = (.seq (.region [(oI 2 (.mov (.c (.f (.int .i64 0)))))] []) (.seq (.seq (.region [(oI 3 (.mov (.t 0))), (oI 4 (.bin .eql (.t 3) (.c (.f (.int .u32 0)))))] []) (.cond 4 (.seq (.region [(oI 2 (.mov (.c (.f (.int .i64 32)))))] []) .ret) .skip)) (.seq (.region (tzA ++ tzB) []) .ret))) := by kernel_rfl
theorem tz_hs (x0 : Int) : (⟨Go.AM.start 0 (VSs.enc e_bits_TrailingZeros32.A (x0, ())), []⟩ : St) = ⟨[(0, [], .f (.int .u32 x0))], []⟩ := by kernel_rfl
theorem tz_0 (x0 : Int) (Q : Int × Unit → Prop) : evF G_bits_TrailingZeros32 (Lfp G_bits_TrailingZeros32 tb_bits_TrailingZeros32) c_bits_TrailingZeros32 (VSs.enc e_bits_TrailingZeros32.A (x0, ())) (dq e_bits_TrailingZeros32.R Q) = cond (x0 == 0) (Q (32, ())) (evC G_bits_TrailingZeros32 (Lfp G_bits_TrailingZeros32 tb_bits_TrailingZeros32) (.seq (.region (tzA ++ tzB) []) .ret) ⟨tzS x0, []⟩ (kDone c_bits_TrailingZeros32 (dq e_bits_TrailingZeros32.R Q))) := by
  unfold evF
  rw [tz_hb, tz_hs, evC_seq, evC_reg [(2, [], .f (.int .i64 0)), (0, [], .f (.int .u32 x0))] (tz_h0 x0) rfl, kSeq_norm, evC_seq, evC_seq, evC_reg (tzS x0) (tz_h1 x0) rfl, kSeq_norm, evC_cond rfl, tz_h2, evC_skip, kSeq_norm]
theorem in_tz (x0 : Int) (Q : Int × Unit → Prop) : evF G_bits_TrailingZeros32 (Lfp G_bits_TrailingZeros32 tb_bits_TrailingZeros32) c_bits_TrailingZeros32 (VSs.enc e_bits_TrailingZeros32.A (x0, ())) (dq e_bits_TrailingZeros32.R Q) = (
  cond (x0 == 0)
  (Q (32, ()))
  (cond (okIx (ishr .u32 (IntKind.wrap .u32 ((iand .u32 x0 (IntKind.wrap .u32 (0 - x0))) * 125613361)) 27) (gtab0.length : Int))
    (Q ((IntKind.wrap .i64 (List.getD gtab0 (Int.toNat (ishr .u32 (IntKind.wrap .u32 ((iand .u32 x0 (IntKind.wrap .u32 (0 - x0))) * 125613361)) 27)) 0)), ()))
    False)) := by
  rw [tz_0, evC_split (tz_a x0), tz_b]
theorem in_bits_TrailingZeros32 (x0 : Int) (Q : Int × Unit → Prop) : evF G_bits_TrailingZeros32 (Lfp G_bits_TrailingZeros32 tb_bits_TrailingZeros32) c_bits_TrailingZeros32 (VSs.enc e_bits_TrailingZeros32.A (x0, ())) (dq e_bits_TrailingZeros32.R Q) = (
  cond (x0 == 0)
  (Q (32, ()))
  (cond (okIx (ishr .u32 (IntKind.wrap .u32 ((iand .u32 x0 (IntKind.wrap .u32 (0 - x0))) * 125613361)) 27) (gtab0.length : Int))
    (Q ((IntKind.wrap .i64 (List.getD gtab0 (Int.toNat (ishr .u32 (IntKind.wrap .u32 ((iand .u32 x0 (IntKind.wrap .u32 (0 - x0))) * 125613361)) 27)) 0)), ()))
    False)) := in_tz x0 Q
theorem ct_bits_TrailingZeros32 (x0 : Int) (hw : VSs.wf e_bits_TrailingZeros32.A (x0, ())) (Q : Int × Unit → Prop) (hq : Q (e_bits_TrailingZeros32.g (x0, ()))) : EvF G_bits_TrailingZeros32 tb_bits_TrailingZeros32 c_bits_TrailingZeros32 (VSs.enc e_bits_TrailingZeros32.A (x0, ())) (dq e_bits_TrailingZeros32.R Q) := by
  have _ := hw
  let FF := (fun y : Int => Q (y, ()))
  refine EvF.of (in_bits_TrailingZeros32 x0 Q) ?_
  exact (cond_f (F := FF) (fun h0 => id) (fun h0 => (vc_f (F := FF) (by exact tz_ix _) id))) hq
/-! (netverify/minsat.search).find -/
def G_fn_22 (k : Nat) : Env := ⟨[ek_fn_22 k, e_fn_36, e_bits_TrailingZeros32], []⟩
def c_fn_22 : AFunc := AFunc.mk 60 4 [(.t 8), (.t 9)] (.seq (.region [(oI 4 (.box (.t 0))), (oI 8 (.mov (.c (.f (.int .u32 0))))), (oI 9 (.mov (.c (.f (.bool false)))))] []) (.seq (.region [(oI 15 (.load true 2 (.t 4))), (oI 16 (.mov (.t 1))), (oI 17 (.mov (.t 2))), (oI 18 (.mov (.t 3))), (oI 19 (.call 36 [(.t 15), (.t 16), (.t 17), (.t 18)])), (oI 14 (.mov (.t 19))), (oI 20 (.ext 0 (.t 14))), (oI 21 (.ext 1 (.t 14))), (oI 22 (.ext 2 (.t 14))), (oI 1 (.mov (.t 20))), (oI 2 (.mov (.t 21))), (oI 10 (.mov (.t 22)))] []) (.seq (.seq (.region [(oI 23 (.mov (.t 10))), (oI 24 (.un .not (.t 23)))] []) (.cond 24 (.seq (.region [(oI 8 (.mov (.c (.f (.int .u32 0))))), (oI 9 (.mov (.c (.f (.bool false)))))] []) .ret) .skip)) (.seq (.region [(oI 25 (.mov (.t 1))), (oI 26 (.mov (.t 2))), (oI 27 (.bin .or (.t 25) (.t 26))), (oI 28 (.un .xor (.t 27))), (oI 29 (.call 37 [(.t 28)])), (oI 30 (.conv .u32 (.t 29))), (oI 11 (.mov (.t 30)))] []) (.seq (.seq (.region [(oI 31 (.mov (.t 11))), (oI 32 (.fld 0 (.t 4))), (oI 33 (.load false 1 (.t 32))), (oI 34 (.conv .u32 (.t 33))), (oI 35 (.bin .geq (.t 31) (.t 34)))] []) (.cond 35 (.seq (.region [(oI 36 (.mov (.t 1))), (oI 8 (.mov (.t 36))), (oI 9 (.mov (.c (.f (.bool true)))))] []) .ret) .skip)) (.seq (.seq (.region [(oI 38 (.load true 2 (.t 4))), (oI 39 (.mov (.t 1))), (oI 40 (.mov (.t 11))), (oI 41 (.bin .shl (.c (.f (.int .u32 1))) (.t 40))), (oI 42 (.bin .or (.t 39) (.t 41))), (oI 43 (.mov (.t 2))), (oI 44 (.mov (.t 3))), (oI 45 (.call 22 [(.t 38), (.t 42), (.t 43), (.t 44)])), (oI 37 (.mov (.t 45))), (oI 46 (.ext 0 (.t 37))), (oI 47 (.ext 1 (.t 37))), (oI 12 (.mov (.t 46))), (oI 13 (.mov (.t 47)))] []) (.seq (.region [(oI 48 (.mov (.t 13)))] []) (.cond 48 (.seq (.region [(oI 49 (.mov (.t 12))), (oI 8 (.mov (.t 49))), (oI 9 (.mov (.c (.f (.bool true)))))] []) .ret) .skip))) (.seq (.region [(oI 50 (.load true 2 (.t 4))), (oI 51 (.mov (.t 1))), (oI 52 (.mov (.t 2))), (oI 53 (.mov (.t 11))), (oI 54 (.bin .shl (.c (.f (.int .u32 1))) (.t 53))), (oI 55 (.bin .or (.t 52) (.t 54))), (oI 56 (.mov (.t 3))), (oI 57 (.call 22 [(.t 50), (.t 51), (.t 55), (.t 56)])), (oI 58 (.ext 0 (.t 57))), (oI 59 (.ext 1 (.t 57))), (oI 8 (.mov (.t 58))), (oI 9 (.mov (.t 59)))] []) .ret)))))))
def tb_fn_22 : Tbl := fun _ => ([], .skip)
theorem ok_fn_22 : compF Tryd.prog [11, 23, 26, 27] Tryd.f22 = some c_fn_22.strip := by kernel_rfl
theorem tk_fn_22 : TblOk tb_fn_22 c_fn_22.body := ⟨trivial, ⟨trivial, ⟨⟨trivial, ⟨⟨trivial, trivial⟩, trivial⟩⟩, ⟨trivial, ⟨⟨trivial, ⟨⟨trivial, trivial⟩, trivial⟩⟩, ⟨⟨trivial, ⟨trivial, ⟨⟨trivial, trivial⟩, trivial⟩⟩⟩, ⟨trivial, trivial⟩⟩⟩⟩⟩⟩⟩
theorem in_fn_22 (k : Nat) (s : searchT) (yes : Int) (no : Int) (most : Int) (Q : Int × Bool × Unit → Prop) : evF (G_fn_22 k) (Lfp (G_fn_22 k) tb_fn_22) c_fn_22 (VSs.enc e_fn_22.A (s, yes, no, most, ())) (dq e_fn_22.R Q) = (
  cond (p_fn_36 s yes no most)
  (cond (!(g_fn_36 s yes no most).2.2.1)
    (Q (0, false, ()))
    (cond (decide ((IntKind.wrap .u32 (g_bits_TrailingZeros32 (inot .u32 (ior .u32 (g_fn_36 s yes no most).1 (g_fn_36 s yes no most).2.1)))) ≥ (IntKind.wrap .u32 s.1)))
      (Q ((g_fn_36 s yes no most).1, true, ()))
      (cond ((decide (0 ≤ (IntKind.wrap .u32 (g_bits_TrailingZeros32 (inot .u32 (ior .u32 (g_fn_36 s yes no most).1 (g_fn_36 s yes no most).2.1)))))) && (pk_fn_22 k s (ior .u32 (g_fn_36 s yes no most).1 (ishl .u32 1 (IntKind.wrap .u32 (g_bits_TrailingZeros32 (inot .u32 (ior .u32 (g_fn_36 s yes no most).1 (g_fn_36 s yes no most).2.1)))))) (g_fn_36 s yes no most).2.1 most))
        (cond (gk_fn_22 k s (ior .u32 (g_fn_36 s yes no most).1 (ishl .u32 1 (IntKind.wrap .u32 (g_bits_TrailingZeros32 (inot .u32 (ior .u32 (g_fn_36 s yes no most).1 (g_fn_36 s yes no most).2.1)))))) (g_fn_36 s yes no most).2.1 most).2.1
          (Q ((gk_fn_22 k s (ior .u32 (g_fn_36 s yes no most).1 (ishl .u32 1 (IntKind.wrap .u32 (g_bits_TrailingZeros32 (inot .u32 (ior .u32 (g_fn_36 s yes no most).1 (g_fn_36 s yes no most).2.1)))))) (g_fn_36 s yes no most).2.1 most).1, true, ()))
          (cond ((decide (0 ≤ (IntKind.wrap .u32 (g_bits_TrailingZeros32 (inot .u32 (ior .u32 (g_fn_36 s yes no most).1 (g_fn_36 s yes no most).2.1)))))) && (pk_fn_22 k s (g_fn_36 s yes no most).1 (ior .u32 (g_fn_36 s yes no most).2.1 (ishl .u32 1 (IntKind.wrap .u32 (g_bits_TrailingZeros32 (inot .u32 (ior .u32 (g_fn_36 s yes no most).1 (g_fn_36 s yes no most).2.1)))))) most))
            (Q ((gk_fn_22 k s (g_fn_36 s yes no most).1 (ior .u32 (g_fn_36 s yes no most).2.1 (ishl .u32 1 (IntKind.wrap .u32 (g_bits_TrailingZeros32 (inot .u32 (ior .u32 (g_fn_36 s yes no most).1 (g_fn_36 s yes no most).2.1)))))) most).1, (gk_fn_22 k s (g_fn_36 s yes no most).1 (ior .u32 (g_fn_36 s yes no most).2.1 (ishl .u32 1 (IntKind.wrap .u32 (g_bits_TrailingZeros32 (inot .u32 (ior .u32 (g_fn_36 s yes no most).1 (g_fn_36 s yes no most).2.1)))))) most).2.1, ()))
            False))
        False)))
  False) := by kernel_rfl
/-! netverify/minsat.elements -/
def G_minsat_elements : Env := ⟨[e_bits_TrailingZeros32], []⟩
def b_minsat_elements_0 : ACode := (.seq (.seq (.region [(oI 5 (.mov (.t 0))), (oI 6 (.bin .neq (.t 5) (.c (.f (.int .u32 0)))))] []) (.cond 6 .skip (.exit 0))) (.seq (.block 1 (.region [(oI 11 (.mov (.t 3))), (oI 12 (.mov (.t 0))), (oI 13 (.call 37 [(.t 12)])), (oI 14 (.bslice Ti64S 8 [(.f (.int .i64 0))] 1 [(0, (.t 13))])), (oI 15 (.app Ti64S 8 (.t 11) (.t 14))), (oI 3 (.mov (.t 15)))] [])) (.region [(oI 7 (.mov (.t 0))), (oI 8 (.mov (.t 0))), (oI 9 (.bin .sub (.t 8) (.c (.f (.int .u32 1))))), (oI 10 (.bin .and (.t 7) (.t 9))), (oI 0 (.mov (.t 10)))] [])))
def r_minsat_elements_0 : ACode := (.seq (.region [(oI 16 (.mov (.t 3))), (oI 2 (.mov (.t 16)))] []) .ret)
def c_minsat_elements : AFunc := AFunc.mk 17 1 [(.t 2)] (.seq (.region [(oI 2 (.mov (.c (.f .nils))))] []) (.seq (.region [(oI 4 .nil0), (oI 3 (.mov (.t 4)))] []) (.seq (.block 0 (.loop 0 [(0, .no), (3, .own Ti64S)] b_minsat_elements_0)) r_minsat_elements_0)))
def tb_minsat_elements : Tbl
  | 0 => ([(0, .no), (3, .own Ti64S)], b_minsat_elements_0)
  | _ => ([], .skip)
theorem ok_minsat_elements : compF Tryd.prog [11, 23, 26, 27] Tryd.f23 = some c_minsat_elements.strip := by kernel_rfl
theorem tk_minsat_elements : TblOk tb_minsat_elements c_minsat_elements.body := ⟨trivial, ⟨trivial, ⟨⟨rfl, ⟨⟨trivial, ⟨trivial, trivial⟩⟩, ⟨trivial, trivial⟩⟩⟩, ⟨trivial, trivial⟩⟩⟩⟩
def k_minsat_elements_0 (Q : List Ti64T → Prop) : K := (kBlock 0 (kSeq (evC G_minsat_elements (Lfp G_minsat_elements tb_minsat_elements) r_minsat_elements_0) (kDoneO c_minsat_elements e_minsat_elements.T Q)))
def s_minsat_elements_0 (s : Int) (v0 : Int) (v1 : Nat) (v2 : List Ti64T) : St := ⟨[(0, [], .f (.int .u32 v0)), (3, [], .sl 0 1 0 v1)], [.row Ti64S v2]⟩
def L_minsat_elements_0 (s : Int) (v0 : Int) (v1 : Nat) (v2 : List Ti64T) (Q : List Ti64T → Prop) : Prop := Lfp G_minsat_elements tb_minsat_elements 0 (s_minsat_elements_0 s v0 v1 v2) (k_minsat_elements_0 Q)
theorem in_minsat_elements (s : Int) (Q : List Ti64T → Prop) : evO G_minsat_elements (Lfp G_minsat_elements tb_minsat_elements) c_minsat_elements e_minsat_elements.A (s, ()) e_minsat_elements.T Q = (
  L_minsat_elements_0 s s 0 [] Q) := by kernel_rfl
theorem rd_minsat_elements_0 (s : Int) (v0 : Int) (v1 : Nat) (v2 : List Ti64T) (Q : List Ti64T → Prop) (h :
  cond (v0 != 0)
  (cond (okApp v1 v2.length 1)
    (L_minsat_elements_0 s (iand .u32 v0 (IntKind.wrap .u32 (v0 - 1))) (v1 + 1) (v2 ++ [((g_bits_TrailingZeros32 v0), ())]) Q)
    False)
  (Q (List.take v1 v2))) : L_minsat_elements_0 s v0 v1 v2 Q := Lfp.step (Eq.mpr (by kernel_rfl) h)
theorem lp_minsat_elements_0 (s : Int) (v00 : Int) (v20 : List Ti64T) (Q : List Ti64T → Prop) (hw : VOs.wf e_minsat_elements.A (s, ()))  (hI0 : ElI 0 (v00, v20)) : (fun y : List Ti64T => Q y) (S_minsat_elements_0 s v00 v20) → L_minsat_elements_0 s v00 (List.length v20) v20 Q := by
  have _ := hw
  let FF := (fun y : List Ti64T => Q y)
  refine upF_loop (F := FF) (n := 33) (I := ElI) (L := (fun (s0 : Int × (List Ti64T)) => L_minsat_elements_0 s s0.1 (List.length s0.2) s0.2 Q)) (fun s0 hI => (by have := hI.2.1; omega)) (Nat.zero_le _) (fun c0 _ hc0 next0 hn0 s0 hI hF => rd_minsat_elements_0 s s0.1 (List.length s0.2) s0.2 Q ((cond_f (F := FF) (fun h0 => (vc_f (F := FF) (by first | ((have h9 := hI.2.2; have hry : roomy = 1048576 := rfl; simp [-List.getD_eq_getElem?_getD, okApp, hry]; omega); done) | ((repeat' (first | rfl | exact nn_d64 _ | exact okIx_nat hc0 | refine and_t ?_ ?_ | refine or_l ?_)); done) | (simp [-List.getD_eq_getElem?_getD, okIx_nat hc0, nn_u64, nn_u32]; done) | (simp [-List.getD_eq_getElem?_getD, okIx_nat hc0, nn_u64, nn_u32, h0]; done) | (have hry : roomy = 1048576 := rfl; simp [-List.getD_eq_getElem?_getD, okIx, okSlc, okApp, len_slcL, len_segL] at h0 hI ⊢ <;> omega)) /- 1 -/ (fun hF => by have hL := hn0 _ (by exact el_p hI (by assumption)) hF; simpa only [List.length_append, List.length_cons, List.length_nil, List.length_set, Nat.zero_add, Int.toNat_natCast] using hL))) (fun h0 => id)) hF)) (v00, v20) hI0
theorem ct_minsat_elements (s : Int) (hw : VOs.wf e_minsat_elements.A (s, ())) (Q : List Ti64T → Prop) (hq : Q (e_minsat_elements.g (s, ()))) : EvO G_minsat_elements tb_minsat_elements c_minsat_elements e_minsat_elements.A (s, ()) e_minsat_elements.T Q := by
  have _ := hw
  let FF := (fun y : List Ti64T => Q y)
  refine EvO.of (in_minsat_elements s Q) ?_
  exact (lp_minsat_elements_0 s s [] Q hw (by exact ⟨u32_of hw.1, by have := pc_le s; omega, Nat.zero_le _⟩)) hq
/-! netverify/minsat.Minimum -/
def G_minsat_Minimum : Env := ⟨[e_minsat_Check, e_minsat_clauses, e_fn_22], [e_minsat_elements.ent]⟩
def b_minsat_Minimum_0 : ACode := (.seq (.region [(oI 34 (.bin .lss (.t 33) (.t 32)))] []) (.seq (.cond 34 .skip (.exit 0)) (.seq (.block 1 (.seq (.region [(oI 35 (.mov (.t 33))), (oI 10 (.mov (.t 35)))] []) (.seq (.region [(oI 37 (.load true 2 (.t 7))), (oI 38 (.mov (.t 10))), (oI 39 (.call 22 [(.t 37), (.c (.f (.int .u32 0))), (.c (.f (.int .u32 0))), (.t 38)])), (oI 36 (.mov (.t 39))), (oI 40 (.ext 0 (.t 36))), (oI 41 (.ext 1 (.t 36))), (oI 11 (.mov (.t 40))), (oI 12 (.mov (.t 41)))] []) (.seq (.region [(oI 42 (.mov (.t 12)))] []) (.cond 42 (.seq (.region [(oI 43 (.mov (.t 11))), (oI 44 (.callm 23 [(.t 43)])), (oI 4 (.mov (.t 44))), (oI 5 (.mov (.c (.f (.int .i64 0)))))] []) .ret) .skip))))) (.region [(oI 45 (.bin .add (.t 33) (.c (.f (.int .i64 1))))), (oI 33 (.mov (.t 45)))] []))))
def r_minsat_Minimum_0 : ACode := (.seq (.region [(oI 4 (.mov (.c (.f .nils)))), (oI 5 (.mov (.c (.f (.int .i64 8)))))] []) .ret)
def c_minsat_Minimum : AFunc := AFunc.mk 46 2 [(.t 4), (.t 5)] (.seq (.region [(oI 4 (.mov (.c (.f .nils)))), (oI 5 (.mov (.c (.f (.int .i64 0)))))] []) (.seq (.seq (.region [(oI 13 (.mov (.t 0))), (oI 14 (.mov (.t 1))), (oI 15 (.call 19 [(.t 13), (.t 14)])), (oI 6 (.mov (.t 15)))] []) (.seq (.region [(oI 16 (.mov (.t 6))), (oI 17 (.bin .neq (.t 16) (.c (.f (.int .i64 0)))))] []) (.cond 17 (.seq (.region [(oI 18 (.mov (.t 6))), (oI 4 (.mov (.c (.f .nils)))), (oI 5 (.mov (.t 18)))] []) .ret) .skip))) (.seq (.region [(oI 19 (.mov (.t 0))), (oI 20 (.mov (.t 1))), (oI 21 (.call 21 [(.t 20)])), (oI 22 (.build [(.f (.int .i64 0)), (.f .nils)] [(0, (1, (.t 19))), (1, (1, (.t 21)))])), (oI 7 (.alloc [(.f (.int .i64 0)), (.f .nils)])), (.mk none none (.store 2 (.t 7) (.t 22)))] []) (.seq (.seq (.region [(oI 24 (.load true 2 (.t 7))), (oI 25 (.mov (.t 0))), (oI 26 (.call 22 [(.t 24), (.c (.f (.int .u32 0))), (.c (.f (.int .u32 0))), (.t 25)])), (oI 23 (.mov (.t 26))), (oI 27 (.ext 0 (.t 23))), (oI 28 (.ext 1 (.t 23))), (oI 8 (.mov (.t 27))), (oI 9 (.mov (.t 28)))] []) (.seq (.region [(oI 29 (.mov (.t 9))), (oI 30 (.un .not (.t 29)))] []) (.cond 30 (.seq (.region [(oI 4 (.mov (.c (.f .nils)))), (oI 5 (.mov (.c (.f (.int .i64 8)))))] []) .ret) .skip))) (.seq (.seq (.region [(oI 31 (.mov (.t 0))), (oI 32 (.bin .add (.t 31) (.c (.f (.int .i64 1))))), (oI 33 (.mov (.c (.f (.int .i64 0)))))] []) (.block 0 (.loop 0 [(7, .no), (32, .no), (33, .no)] b_minsat_Minimum_0))) r_minsat_Minimum_0)))))
def tb_minsat_Minimum : Tbl
  | 0 => ([(7, .no), (32, .no), (33, .no)], b_minsat_Minimum_0)
  | _ => ([], .skip)
theorem ok_minsat_Minimum : compF Tryd.prog [11, 23, 26, 27] Tryd.f11 = some c_minsat_Minimum.strip := by kernel_rfl
theorem tk_minsat_Minimum : TblOk tb_minsat_Minimum c_minsat_Minimum.body := ⟨trivial, ⟨⟨trivial, ⟨trivial, ⟨⟨trivial, trivial⟩, trivial⟩⟩⟩, ⟨trivial, ⟨⟨trivial, ⟨trivial, ⟨⟨trivial, trivial⟩, trivial⟩⟩⟩, ⟨⟨trivial, ⟨rfl, ⟨trivial, ⟨⟨trivial, trivial⟩, ⟨⟨trivial, ⟨trivial, ⟨trivial, ⟨⟨trivial, trivial⟩, trivial⟩⟩⟩⟩, trivial⟩⟩⟩⟩⟩, ⟨trivial, trivial⟩⟩⟩⟩⟩⟩
def k_minsat_Minimum_0 (Q : (List Ti64T) × Int × Unit → Prop) : K := (kBlock 0 (kSeq (evC G_minsat_Minimum (Lfp G_minsat_Minimum tb_minsat_Minimum) r_minsat_Minimum_0) (kDoneT c_minsat_Minimum e_minsat_Minimum.T e_minsat_Minimum.R Q)))
def s_minsat_Minimum_0 (n : Int) (cs : List ConstraintT) (v0 : Int) : St := ⟨[(7, [], .ptr 0 0), (32, [], .f (.int .i64 (IntKind.wrap .i64 (n + 1)))), (33, [], .f (.int .i64 v0))], [.box none [.f (.int .i64 n), .f (.fs clauseS (g_minsat_clauses cs))]]⟩
def L_minsat_Minimum_0 (n : Int) (cs : List ConstraintT) (v0 : Int) (Q : (List Ti64T) × Int × Unit → Prop) : Prop := Lfp G_minsat_Minimum tb_minsat_Minimum 0 (s_minsat_Minimum_0 n cs v0) (k_minsat_Minimum_0 Q)
theorem in_minsat_Minimum (n : Int) (cs : List ConstraintT) (Q : (List Ti64T) × Int × Unit → Prop) : evT G_minsat_Minimum (Lfp G_minsat_Minimum tb_minsat_Minimum) c_minsat_Minimum e_minsat_Minimum.A (n, cs, ()) e_minsat_Minimum.T e_minsat_Minimum.R Q = (
  cond ((g_minsat_Check n cs) != 0)
  (Q ([], (g_minsat_Check n cs), ()))
  (cond (p_minsat_clauses cs)
    (cond (p_fn_22 (n, (g_minsat_clauses cs), ()) 0 0 n)
      (cond (!(g_fn_22 (n, (g_minsat_clauses cs), ()) 0 0 n).2.1)
        (Q ([], 8, ()))
        (L_minsat_Minimum_0 n cs 0 Q))
      False)
    False)) := by kernel_rfl
theorem rd_minsat_Minimum_0 (n : Int) (cs : List ConstraintT) (v0 : Int) (Q : (List Ti64T) × Int × Unit → Prop) (h :
  cond (decide (v0 < (IntKind.wrap .i64 (n + 1))))
  (cond (p_fn_22 (n, (g_minsat_clauses cs), ()) 0 0 v0)
    (cond (g_fn_22 (n, (g_minsat_clauses cs), ()) 0 0 v0).2.1
      (Q ((List.take (g_minsat_elements (g_fn_22 (n, (g_minsat_clauses cs), ()) 0 0 v0).1).length (g_minsat_elements (g_fn_22 (n, (g_minsat_clauses cs), ()) 0 0 v0).1)), 0, ()))
      (L_minsat_Minimum_0 n cs (IntKind.wrap .i64 (v0 + 1)) Q))
    False)
  (Q ([], 8, ()))) : L_minsat_Minimum_0 n cs v0 Q := Lfp.step (Eq.mpr (by kernel_rfl) h)
theorem lp_minsat_Minimum_0 (n : Int) (cs : List ConstraintT) (Q : (List Ti64T) × Int × Unit → Prop) (hw : VOs.wf e_minsat_Minimum.A (n, cs, ()))  (g0 : ((g_minsat_Check n cs) != 0) = false) (g1 : (!(g_fn_22 (n, (g_minsat_clauses cs), ()) 0 0 n).2.1) = false) : (fun y : (List Ti64T) × Int × Unit => Q y) (S_minsat_Minimum_0 n cs) → L_minsat_Minimum_0 n cs 0 Q := by
  have _ := hw
  have _ := g0
  have _ := g1
  let FF := (fun y : (List Ti64T) × Int × Unit => Q y)
  refine upV_loop (F := FF) (k := .i64) (n := (Int.toNat (IntKind.wrap .i64 (n + 1)))) (L := (fun c0 : Int => L_minsat_Minimum_0 n cs c0 Q)) (wrap_i64n (by have hc := chk_of g0; have h0 := hc.n0; have h1 := hc.n1; have e : IntKind.wrap .i64 (n + 1) = n + 1 := w64 (by omega) (by omega); rw [e]; unfold maxLen; omega)) (fun c0 hc0 hF => rd_minsat_Minimum_0 n cs (c0 : Int) Q (cond_ge (n := (Int.toNat (IntKind.wrap .i64 (n + 1)))) rfl hc0 (id hF))) (fun c0 _ hc0 next0 hn0 hF => rd_minsat_Minimum_0 n cs (c0 : Int) Q (cond_lt (n := (Int.toNat (IntKind.wrap .i64 (n + 1)))) rfl hc0 ((vc_f (F := FF) (by first | ((exact (chk_of (by assumption)).pcl); done) | ((exact (chk_of (by assumption)).pfind (fun _ h => h) _); done) | ((repeat' (first | rfl | exact nn_d64 _ | exact okIx_nat hc0 | refine and_t ?_ ?_ | refine or_l ?_)); done) | (simp [-List.getD_eq_getElem?_getD, okIx_nat hc0, nn_u64, nn_u32]; done) | (simp [-List.getD_eq_getElem?_getD, okIx_nat hc0, nn_u64, nn_u32, g0, g1]; done) | (have hry : roomy = 1048576 := rfl; simp [-List.getD_eq_getElem?_getD, okIx, okSlc, okApp, len_slcL, len_segL] at g0 g1 ⊢ <;> omega)) /- 1 -/ (cond_f (F := FF) (fun h2 => id) (fun h2 => hn0))) hF)))
theorem ct_minsat_Minimum (n : Int) (cs : List ConstraintT) (hw : VOs.wf e_minsat_Minimum.A (n, cs, ())) (Q : (List Ti64T) × Int × Unit → Prop) (hq : Q (e_minsat_Minimum.g (n, cs, ()))) : EvT G_minsat_Minimum tb_minsat_Minimum c_minsat_Minimum e_minsat_Minimum.A (n, cs, ()) e_minsat_Minimum.T e_minsat_Minimum.R Q := by
  have _ := hw
  let FF := (fun y : (List Ti64T) × Int × Unit => Q y)
  refine EvT.of (in_minsat_Minimum n cs Q) ?_
  exact (cond_f (F := FF) (fun h0 => id) (fun h0 => (vc_f (F := FF) (by first | ((exact (chk_of (by assumption)).pcl); done) | ((exact (chk_of (by assumption)).pfind (fun _ h => h) _); done) | ((repeat' (first | rfl | exact nn_d64 _ | refine and_t ?_ ?_ | refine or_l ?_)); done) | (simp [-List.getD_eq_getElem?_getD, nn_u64, nn_u32]; done) | (simp [-List.getD_eq_getElem?_getD, nn_u64, nn_u32, h0]; done) | (have hry : roomy = 1048576 := rfl; simp [-List.getD_eq_getElem?_getD, okIx, okSlc, okApp, len_slcL, len_segL] at h0 ⊢ <;> omega)) /- 2 -/ (vc_f (F := FF) (by first | ((exact (chk_of (by assumption)).pcl); done) | ((exact (chk_of (by assumption)).pfind (fun _ h => h) _); done) | ((repeat' (first | rfl | exact nn_d64 _ | refine and_t ?_ ?_ | refine or_l ?_)); done) | (simp [-List.getD_eq_getElem?_getD, nn_u64, nn_u32]; done) | (simp [-List.getD_eq_getElem?_getD, nn_u64, nn_u32, h0]; done) | (have hry : roomy = 1048576 := rfl; simp [-List.getD_eq_getElem?_getD, okIx, okSlc, okApp, len_slcL, len_segL] at h0 ⊢ <;> omega)) /- 3 -/ (cond_f (F := FF) (fun h1 => id) (fun h1 => (lp_minsat_Minimum_0 n cs Q hw h0 h1))))))) hq
/-! netverify/netverifykeep.Ints -/
def G_keep_Ints : Env := ⟨[], []⟩
def b_keep_Ints_0 : ACode := (.seq (.seq (.region [(oI 11 (.mov (.t 5))), (oI 12 (.mov (.t 0))), (oI 13 (.len (.t 12))), (oI 14 (.bin .lss (.t 11) (.t 13)))] []) (.cond 14 .skip (.exit 0))) (.seq (.block 1 (.seq (.region [(oI 17 (.mov (.t 0))), (oI 18 (.mov (.t 5))), (oI 19 (.ixa 1 (.t 17) (.t 18))), (oI 20 (.load false 1 (.t 19))), (oI 21 (.mov (.t 1))), (oI 22 (.mov (.t 5))), (oI 23 (.ixa 1 (.t 21) (.t 22))), (oI 24 (.load false 1 (.t 23))), (oI 25 (.bin .neq (.t 20) (.t 24)))] []) (.cond 25 (.seq (.region [(oI 4 (.mov (.c (.f (.bool false)))))] []) .ret) .skip))) (.region [(oI 15 (.mov (.t 5))), (oI 16 (.bin .add (.t 15) (.c (.f (.int .i64 1))))), (oI 5 (.mov (.t 16)))] [])))
def r_keep_Ints_0 : ACode := (.seq (.region [(oI 4 (.mov (.c (.f (.bool true)))))] []) .ret)
def c_keep_Ints : AFunc := AFunc.mk 26 2 [(.t 4)] (.seq (.region [(oI 4 (.mov (.c (.f (.bool false)))))] []) (.seq (.seq (.region [(oI 6 (.mov (.t 0))), (oI 7 (.len (.t 6))), (oI 8 (.mov (.t 1))), (oI 9 (.len (.t 8))), (oI 10 (.bin .neq (.t 7) (.t 9)))] []) (.cond 10 (.seq (.region [(oI 4 (.mov (.c (.f (.bool false)))))] []) .ret) .skip)) (.seq (.seq (.region [(oI 5 (.mov (.c (.f (.int .i64 0)))))] []) (.block 0 (.loop 0 [(0, .no), (1, .no), (5, .no)] b_keep_Ints_0))) r_keep_Ints_0)))
def tb_keep_Ints : Tbl
  | 0 => ([(0, .no), (1, .no), (5, .no)], b_keep_Ints_0)
  | _ => ([], .skip)
theorem ok_keep_Ints : compF Tryd.prog [11, 23, 26, 27] Tryd.f14 = some c_keep_Ints.strip := by kernel_rfl
theorem tk_keep_Ints : TblOk tb_keep_Ints c_keep_Ints.body := ⟨trivial, ⟨⟨trivial, ⟨⟨trivial, trivial⟩, trivial⟩⟩, ⟨⟨trivial, ⟨rfl, ⟨⟨trivial, ⟨trivial, trivial⟩⟩, ⟨⟨trivial, ⟨⟨trivial, trivial⟩, trivial⟩⟩, trivial⟩⟩⟩⟩, ⟨trivial, trivial⟩⟩⟩⟩
def k_keep_Ints_0 (Q : Bool × Unit → Prop) : K := (kBlock 0 (kSeq (evC G_keep_Ints (Lfp G_keep_Ints tb_keep_Ints) r_keep_Ints_0) (kDone c_keep_Ints (dq e_keep_Ints.R Q))))
def s_keep_Ints_0 (a : List Ti64T) (b : List Ti64T) (v0 : Int) : St := ⟨[(0, [], .f (.fs Ti64S a)), (1, [], .f (.fs Ti64S b)), (5, [], .f (.int .i64 v0))], []⟩
def L_keep_Ints_0 (a : List Ti64T) (b : List Ti64T) (v0 : Int) (Q : Bool × Unit → Prop) : Prop := Lfp G_keep_Ints tb_keep_Ints 0 (s_keep_Ints_0 a b v0) (k_keep_Ints_0 Q)
theorem in_keep_Ints (a : List Ti64T) (b : List Ti64T) (Q : Bool × Unit → Prop) : evF G_keep_Ints (Lfp G_keep_Ints tb_keep_Ints) c_keep_Ints (VSs.enc e_keep_Ints.A (a, b, ())) (dq e_keep_Ints.R Q) = (
  cond ((a.length : Int) != (b.length : Int))
  (Q (false, ()))
  (L_keep_Ints_0 a b 0 Q)) := by kernel_rfl
theorem rd_keep_Ints_0 (a : List Ti64T) (b : List Ti64T) (v0 : Int) (Q : Bool × Unit → Prop) (h :
  cond (decide (v0 < (a.length : Int)))
  (cond ((okIx v0 (a.length : Int)) && (okIx v0 (b.length : Int)))
    (cond ((List.getD a (Int.toNat v0) Ti64D).1 != (List.getD b (Int.toNat v0) Ti64D).1)
      (Q (false, ()))
      (L_keep_Ints_0 a b (IntKind.wrap .i64 (v0 + 1)) Q))
    False)
  (Q (true, ()))) : L_keep_Ints_0 a b v0 Q := Lfp.step (Eq.mpr (by kernel_rfl) h)
theorem lp_keep_Ints_0 (a : List Ti64T) (b : List Ti64T) (Q : Bool × Unit → Prop) (hw : VSs.wf e_keep_Ints.A (a, b, ()))  (g0 : ((a.length : Int) != (b.length : Int)) = false) : (fun y : Bool => Q (y, ())) (S_keep_Ints_0 a b) → L_keep_Ints_0 a b 0 Q := by
  have _ := hw
  have _ := g0
  let FF := (fun y : Bool => Q (y, ()))
  refine upV_loop (F := FF) (k := .i64) (n := a.length) (L := (fun c0 : Int => L_keep_Ints_0 a b c0 Q)) (wrap_i64n (show _ ≤ _ from (hw.1).1)) (fun c0 hc0 hF => rd_keep_Ints_0 a b (c0 : Int) Q (cond_ge (n := a.length) rfl hc0 (id hF))) (fun c0 _ hc0 next0 hn0 hF => rd_keep_Ints_0 a b (c0 : Int) Q (cond_lt (n := a.length) rfl hc0 ((vc_f (F := FF) (by first | ((repeat' (first | rfl | exact nn_d64 _ | exact okIx_nat hc0 | refine and_t ?_ ?_ | refine or_l ?_)); done) | (simp [-List.getD_eq_getElem?_getD, okIx_nat hc0, nn_u64, nn_u32]; done) | (simp [-List.getD_eq_getElem?_getD, okIx_nat hc0, nn_u64, nn_u32, g0]; done) | (have hry : roomy = 1048576 := rfl; simp [-List.getD_eq_getElem?_getD, okIx, okSlc, okApp, len_slcL, len_segL] at g0 ⊢ <;> omega)) /- 1 -/ (cond_f (F := FF) (fun h1 => id) (fun h1 => hn0))) hF)))
theorem ct_keep_Ints (a : List Ti64T) (b : List Ti64T) (hw : VSs.wf e_keep_Ints.A (a, b, ())) (Q : Bool × Unit → Prop) (hq : Q (e_keep_Ints.g (a, b, ()))) : EvF G_keep_Ints tb_keep_Ints c_keep_Ints (VSs.enc e_keep_Ints.A (a, b, ())) (dq e_keep_Ints.R Q) := by
  have _ := hw
  let FF := (fun y : Bool => Q (y, ()))
  refine EvF.of (in_keep_Ints a b Q) ?_
  exact (cond_f (F := FF) (fun h0 => id) (fun h0 => (lp_keep_Ints_0 a b Q hw h0))) hq
end Go.Proofs.YtilbcgklkdkkdaaDoor
