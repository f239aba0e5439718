/-
  The codes and their equations.
-/
import Derived.Test.YthjhlpbiljpccaaAmTh
import Derived.Test.YthjhlpbiljpccaaProg
import Derived.KernelRfl
namespace Go.Proofs.Ythjhlpbiljpccaa
open Go Go.AM
set_option maxRecDepth 100000
/-! netverify/trie.bit -/
def G_trie_bit : Env := ⟨[], []⟩
def c_trie_bit : AFunc := AFunc.mk 11 2 [(.t 4)] (.seq (.region [(oI 4 (.mov (.c (.f (.int .i64 0)))))] []) (.seq (.region [(oI 5 (.mov (.t 0))), (oI 6 (.mov (.t 1))), (oI 7 (.bin .sub (.c (.f (.int .i64 31))) (.t 6))), (oI 8 (.bin .shr (.t 5) (.t 7))), (oI 9 (.bin .and (.t 8) (.c (.f (.int .u32 1))))), (oI 10 (.conv .i64 (.t 9))), (oI 4 (.mov (.t 10)))] []) .ret))
def tb_trie_bit : Tbl := fun _ => ([], .skip)
theorem ok_trie_bit : compF Try.prog [8, 9, 10, 14, 16, 17, 18, 20, 21, 30, 33] Try.f28 = some c_trie_bit.strip := by kernel_rfl
theorem tk_trie_bit : TblOk tb_trie_bit c_trie_bit.body := ⟨trivial, ⟨trivial, trivial⟩⟩
theorem in_trie_bit (a : Int) (i : Int) (Q : Int × Unit → Prop) : evF G_trie_bit (Lfp G_trie_bit tb_trie_bit) c_trie_bit (VSs.enc e_trie_bit.A (a, i, ())) (dq e_trie_bit.R Q) = (
  cond (decide (0 ≤ (IntKind.wrap .i64 (31 - i))))
  (Q ((IntKind.wrap .i64 (iand .u32 (ishr .u32 a (IntKind.wrap .i64 (31 - i))) 1)), ()))
  False) := by kernel_rfl
theorem au_trie_bit (a : Int) (i : Int) (Q : Int × Unit → Prop) (hp : p_trie_bit a i = true) : evF G_trie_bit (Lfp G_trie_bit tb_trie_bit) c_trie_bit (VSs.enc e_trie_bit.A (a, i, ())) (dq e_trie_bit.R Q) = Q (e_trie_bit.g (a, i, ())) := (in_trie_bit a i Q).trans ((vc_e (F := fun y : Int => Q (y, ())) rfl) hp)
/-! netverify/addr.clamp -/
def G_addr_clamp : Env := ⟨[], []⟩
def c_addr_clamp : AFunc := AFunc.mk 6 1 [(.t 2)] (.seq (.region [(oI 2 (.mov (.c (.f (.int .i64 0)))))] []) (.seq (.region [(oI 3 (.mov (.t 0))), (oI 4 (.mm false (.t 3) (.c (.f (.int .i64 32))))), (oI 5 (.mm true (.c (.f (.int .i64 0))) (.t 4))), (oI 2 (.mov (.t 5)))] []) .ret))
def tb_addr_clamp : Tbl := fun _ => ([], .skip)
theorem ok_addr_clamp : compF Try.prog [8, 9, 10, 14, 16, 17, 18, 20, 21, 30, 33] Try.f37 = some c_addr_clamp.strip := by kernel_rfl
theorem tk_addr_clamp : TblOk tb_addr_clamp c_addr_clamp.body := ⟨trivial, ⟨trivial, trivial⟩⟩
theorem in_addr_clamp (n : Int) (Q : Int × Unit → Prop) : evF G_addr_clamp (Lfp G_addr_clamp tb_addr_clamp) c_addr_clamp (VSs.enc e_addr_clamp.A (n, ())) (dq e_addr_clamp.R Q) = (
  Q ((cond (decide ((cond (decide (32 < n)) 32 n) > 0)) (cond (decide (32 < n)) 32 n) 0), ())) := by kernel_rfl
theorem au_addr_clamp (n : Int) (Q : Int × Unit → Prop) : evF G_addr_clamp (Lfp G_addr_clamp tb_addr_clamp) c_addr_clamp (VSs.enc e_addr_clamp.A (n, ())) (dq e_addr_clamp.R Q) = Q (e_addr_clamp.g (n, ())) := (in_addr_clamp n Q).trans rfl
/-! netverify/addr.Mask -/
def G_addr_Mask : Env := ⟨[e_addr_clamp], []⟩
def c_addr_Mask : AFunc := AFunc.mk 7 1 [(.t 2)] (.seq (.region [(oI 2 (.mov (.c (.f (.int .u32 0)))))] []) (.seq (.region [(oI 3 (.mov (.t 0))), (oI 4 (.call 37 [(.t 3)])), (oI 5 (.bin .sub (.c (.f (.int .i64 32))) (.t 4))), (oI 6 (.bin .shl (.c (.f (.int .u32 4294967295))) (.t 5))), (oI 2 (.mov (.t 6)))] []) .ret))
def tb_addr_Mask : Tbl := fun _ => ([], .skip)
theorem ok_addr_Mask : compF Try.prog [8, 9, 10, 14, 16, 17, 18, 20, 21, 30, 33] Try.f36 = some c_addr_Mask.strip := by kernel_rfl
theorem tk_addr_Mask : TblOk tb_addr_Mask c_addr_Mask.body := ⟨trivial, ⟨trivial, trivial⟩⟩
theorem in_addr_Mask (n : Int) (Q : Int × Unit → Prop) : evF G_addr_Mask (Lfp G_addr_Mask tb_addr_Mask) c_addr_Mask (VSs.enc e_addr_Mask.A (n, ())) (dq e_addr_Mask.R Q) = (
  cond (decide (0 ≤ (IntKind.wrap .i64 (32 - (g_addr_clamp n)))))
  (Q ((ishl .u32 4294967295 (IntKind.wrap .i64 (32 - (g_addr_clamp n)))), ()))
  False) := by kernel_rfl
theorem au_addr_Mask (n : Int) (Q : Int × Unit → Prop) (hp : p_addr_Mask n = true) : evF G_addr_Mask (Lfp G_addr_Mask tb_addr_Mask) c_addr_Mask (VSs.enc e_addr_Mask.A (n, ())) (dq e_addr_Mask.R Q) = Q (e_addr_Mask.g (n, ())) := (in_addr_Mask n Q).trans ((vc_e (F := fun y : Int => Q (y, ())) rfl) hp)
/-! netverify/addr.Valid -/
def G_addr_Valid : Env := ⟨[e_addr_Mask], []⟩
def c_addr_Valid : AFunc := AFunc.mk 20 1 [(.t 2)] (.seq (.region [(oI 1 (.box (.t 0))), (oI 2 (.mov (.c (.f (.bool false)))))] []) (.seq (.region [(oI 3 (.fld 1 (.t 1))), (oI 4 (.load false 1 (.t 3))), (oI 5 (.bin .geq (.t 4) (.c (.f (.int .i64 0))))), (oI 6 (.mov (.t 5))), (.mk (some 7) (some (6, true)) (.fld 1 (.t 1))), (.mk (some 8) (some (6, true)) (.load false 1 (.t 7))), (.mk (some 9) (some (6, true)) (.bin .leq (.t 8) (.c (.f (.int .i64 32))))), (oI 10 (.pick 6 (.t 9) (.c (.f (.bool false))))), (oI 11 (.mov (.t 10))), (.mk (some 12) (some (11, true)) (.fld 0 (.t 1))), (.mk (some 13) (some (11, true)) (.load false 1 (.t 12))), (.mk (some 14) (some (11, true)) (.fld 1 (.t 1))), (.mk (some 15) (some (11, true)) (.load false 1 (.t 14))), (.mk (some 16) (some (11, true)) (.call 36 [(.t 15)])), (.mk (some 17) (some (11, true)) (.bin .andNot (.t 13) (.t 16))), (.mk (some 18) (some (11, true)) (.bin .eql (.t 17) (.c (.f (.int .u32 0))))), (oI 19 (.pick 11 (.t 18) (.c (.f (.bool false))))), (oI 2 (.mov (.t 19)))] []) .ret))
def tb_addr_Valid : Tbl := fun _ => ([], .skip)
theorem ok_addr_Valid : compF Try.prog [8, 9, 10, 14, 16, 17, 18, 20, 21, 30, 33] Try.f32 = some c_addr_Valid.strip := by kernel_rfl
theorem tk_addr_Valid : TblOk tb_addr_Valid c_addr_Valid.body := ⟨trivial, ⟨trivial, trivial⟩⟩
theorem in_addr_Valid (p : PrefixT) (Q : Bool × Unit → Prop) : evF G_addr_Valid (Lfp G_addr_Valid tb_addr_Valid) c_addr_Valid (VSs.enc e_addr_Valid.A (p, ())) (dq e_addr_Valid.R Q) = (
  cond ((p_addr_Mask p.2.1) || (!((((decide (p.2.1 ≥ 0)) && (decide (p.2.1 ≤ 32))) == true) && true)))
  (Q ((((decide (p.2.1 ≥ 0)) && (decide (p.2.1 ≤ 32))) && ((iandnot .u32 p.1 (g_addr_Mask p.2.1)) == 0)), ()))
  False) := by kernel_rfl
theorem au_addr_Valid (p : PrefixT) (Q : Bool × Unit → Prop) (hp : p_addr_Valid p = true) : evF G_addr_Valid (Lfp G_addr_Valid tb_addr_Valid) c_addr_Valid (VSs.enc e_addr_Valid.A (p, ())) (dq e_addr_Valid.R Q) = Q (e_addr_Valid.g (p, ())) := (in_addr_Valid p Q).trans ((vc_e (F := fun y : Bool => Q (y, ())) rfl) hp)
/-! (*netverify/trie.Table).Insert -/
def G_fn_17 : Env := ⟨[e_trie_bit, e_addr_Valid], []⟩
def b_fn_17_0 : ACode := (.seq (.seq (.region [(oI 16 (.mov (.t 8))), (oI 17 (.fld 1 (.t 4))), (oI 18 (.load false 1 (.t 17))), (oI 19 (.bin .lss (.t 16) (.t 18)))] []) (.cond 19 .skip (.exit 0))) (.seq (.block 1 (.seq (.region [(oI 22 (.fld 0 (.t 4))), (oI 23 (.load false 1 (.t 22))), (oI 24 (.mov (.t 8))), (oI 25 (.call 28 [(.t 23), (.t 24)])), (oI 9 (.mov (.t 25)))] []) (.seq (.seq (.region [(oI 26 (.mov (.t 7))), (oI 27 (.mov (.t 9))), (oI 28 (.nilchk (.t 26))), (oI 29 (.fld 0 (.t 28))), (oI 30 (.ixn 2 (.t 29) (.t 27))), (oI 31 (.load false 1 (.t 30))), (oI 32 (.nilpq false (.t 31)))] []) (.cond 32 (.region [(oI 33 (.mov (.t 7))), (oI 34 (.mov (.t 9))), (oI 35 (.build [(.f .nilp), (.f .nilp), (.f (.bool false)), (.f (.int .i64 0))] [])), (oI 36 (.box (.t 35))), (oI 37 (.nilchk (.t 33))), (oI 38 (.fld 0 (.t 37))), (oI 39 (.ixn 2 (.t 38) (.t 34))), (.mk none none (.store 1 (.t 39) (.t 36)))] []) .skip)) (.region [(oI 40 (.mov (.t 7))), (oI 41 (.mov (.t 9))), (oI 42 (.nilchk (.t 40))), (oI 43 (.fld 0 (.t 42))), (oI 44 (.ixn 2 (.t 43) (.t 41))), (oI 45 (.load false 1 (.t 44))), (oI 7 (.mov (.t 45)))] [])))) (.region [(oI 20 (.mov (.t 8))), (oI 21 (.bin .add (.t 20) (.c (.f (.int .i64 1))))), (oI 8 (.mov (.t 21)))] [])))
def r_fn_17_0 : ACode := (.seq (.seq (.region [(oI 46 (.mov (.t 7))), (oI 47 (.nilchk (.t 46))), (oI 48 (.fld 2 (.t 47))), (oI 49 (.load false 1 (.t 48))), (oI 50 (.un .not (.t 49)))] []) (.cond 50 (.seq (.region [(oI 51 (.mov (.t 7))), (oI 52 (.nilchk (.t 51))), (oI 53 (.fld 2 (.t 52))), (.mk none none (.store 1 (.t 53) (.c (.f (.bool true)))))] []) (.region [(oI 54 (.mov (.t 0))), (oI 55 (.nilchk (.t 54))), (oI 56 (.fld 4 (.t 55))), (oI 57 (.load false 1 (.t 56))), (oI 58 (.bin .add (.t 57) (.c (.f (.int .i64 1))))), (oI 59 (.nilchk (.t 54))), (oI 60 (.fld 4 (.t 59))), (.mk none none (.store 1 (.t 60) (.t 58)))] [])) .skip)) (.seq (.region [(oI 61 (.mov (.t 7))), (oI 62 (.mov (.t 2))), (oI 63 (.nilchk (.t 61))), (oI 64 (.fld 3 (.t 63))), (.mk none none (.store 1 (.t 64) (.t 62)))] []) (.seq (.region [(oI 6 (.mov (.c (.f (.bool true)))))] []) .ret)))
def c_fn_17 : AFunc := AFunc.mk 65 3 [(.t 6)] (.seq (.region [(oI 4 (.box (.t 1))), (oI 6 (.mov (.c (.f (.bool false)))))] []) (.seq (.seq (.region [(oI 10 (.load true 2 (.t 4))), (oI 11 (.call 32 [(.t 10)])), (oI 12 (.un .not (.t 11)))] []) (.cond 12 (.seq (.region [(oI 6 (.mov (.c (.f (.bool false)))))] []) .ret) .skip)) (.seq (.region [(oI 13 (.mov (.t 0))), (oI 14 (.nilchk (.t 13))), (oI 15 (.fld 0 (.t 14))), (oI 7 (.mov (.t 15)))] []) (.seq (.seq (.region [(oI 8 (.mov (.c (.f (.int .i64 0)))))] []) (.block 0 (.loop 0 [(0, .no), (2, .no), (4, .no), (7, .nod 0), (8, .no)] b_fn_17_0))) r_fn_17_0))))
def tb_fn_17 : Tbl
  | 0 => ([(0, .no), (2, .no), (4, .no), (7, .nod 0), (8, .no)], b_fn_17_0)
  | _ => ([], .skip)
theorem ok_fn_17 : compF Try.prog [8, 9, 10, 14, 16, 17, 18, 20, 21, 30, 33] Try.f17 = some c_fn_17.strip := by kernel_rfl
theorem tk_fn_17 : TblOk tb_fn_17 c_fn_17.body := ⟨trivial, ⟨⟨trivial, ⟨⟨trivial, trivial⟩, trivial⟩⟩, ⟨trivial, ⟨⟨trivial, ⟨rfl, ⟨⟨trivial, ⟨trivial, trivial⟩⟩, ⟨⟨trivial, ⟨⟨trivial, ⟨trivial, trivial⟩⟩, trivial⟩⟩, trivial⟩⟩⟩⟩, ⟨⟨trivial, ⟨⟨trivial, trivial⟩, trivial⟩⟩, ⟨trivial, ⟨trivial, trivial⟩⟩⟩⟩⟩⟩⟩
def k_fn_17_0 (Q : (Bool × Unit) × (List Nd × Int) × (Nat × List Nat) → Prop) : K := (kBlock 0 (kSeq (evC G_fn_17 (Lfp G_fn_17 tb_fn_17) r_fn_17_0) (kDoneX c_fn_17 0 e_fn_17.R Q)))
def s_fn_17_0 (pn : Nat × List Nat) (tr : List Nd) (sz : Int) (p : PrefixT) (v_ : Int) (v0 : Option Nat) (v1 : Int) (v2 : List Nd) : St := ⟨[(0, [], .ptr 0 0), (2, [], .f (.int .i64 v_)), (4, [], .ptr 1 0), (7, [], .ndo 0 v0), (8, [], .f (.int .i64 v1))], [.arena (some pn) v2 sz, .box none [.f (.int .u32 p.1), .f (.int .i64 p.2.1)]]⟩
def L_fn_17_0 (pn : Nat × List Nat) (tr : List Nd) (sz : Int) (p : PrefixT) (v_ : Int) (v0 : Option Nat) (v1 : Int) (v2 : List Nd) (Q : (Bool × Unit) × (List Nd × Int) × (Nat × List Nat) → Prop) : Prop := Lfp G_fn_17 tb_fn_17 0 (s_fn_17_0 pn tr sz p v_ v0 v1 v2) (k_fn_17_0 Q)
theorem in_fn_17 (pn : Nat × List Nat) (tr : List Nd) (sz : Int) (p : PrefixT) (v_ : Int) (Q : (Bool × Unit) × (List Nd × Int) × (Nat × List Nat) → Prop) : evX G_fn_17 (Lfp G_fn_17 tb_fn_17) c_fn_17 e_fn_17.A pn (tr, sz) ((), p, v_, ()) e_fn_17.R Q = (
  cond (p_addr_Valid p)
  (cond (!(g_addr_Valid p))
    (Q ((false, ()), (tr, sz), pn))
    (L_fn_17_0 pn tr sz p v_ (some 0) 0 tr Q))
  False) := by kernel_rfl
theorem rd_fn_17_0 (pn : Nat × List Nat) (tr : List Nd) (sz : Int) (p : PrefixT) (v_ : Int) (v0 : Option Nat) (v1 : Int) (v2 : List Nd) (Q : (Bool × Unit) × (List Nd × Int) × (Nat × List Nat) → Prop) (h :
  cond (decide (v1 < p.2.1))
  (cond (p_trie_bit p.1 v1)
    (cond ((Option.isSome v0) && ((decide (0 ≤ (g_trie_bit p.1 v1))) && (decide ((g_trie_bit p.1 v1) < 2))))
      (cond (Option.isNone (Nd.ch (List.getD v2 (Option.getD v0 0) Nd.z) (g_trie_bit p.1 v1)))
        (cond ((Option.isSome v0) && ((decide (0 ≤ (g_trie_bit p.1 v1))) && (decide ((g_trie_bit p.1 v1) < 2))))
          (cond ((Option.isSome v0) && ((decide (0 ≤ (g_trie_bit p.1 v1))) && (decide ((g_trie_bit p.1 v1) < 2))))
            (L_fn_17_0 pn tr sz p v_ (Nd.ch (List.getD ((List.set v2 (Option.getD v0 0) (Nd.put (List.getD v2 (Option.getD v0 0) Nd.z) (g_trie_bit p.1 v1) (some v2.length))) ++ [(Nd.mk none none false 0)]) (Option.getD v0 0) Nd.z) (g_trie_bit p.1 v1)) (IntKind.wrap .i64 (v1 + 1)) ((List.set v2 (Option.getD v0 0) (Nd.put (List.getD v2 (Option.getD v0 0) Nd.z) (g_trie_bit p.1 v1) (some v2.length))) ++ [(Nd.mk none none false 0)]) Q)
            False)
          False)
        (cond ((Option.isSome v0) && ((decide (0 ≤ (g_trie_bit p.1 v1))) && (decide ((g_trie_bit p.1 v1) < 2))))
          (L_fn_17_0 pn tr sz p v_ (Nd.ch (List.getD v2 (Option.getD v0 0) Nd.z) (g_trie_bit p.1 v1)) (IntKind.wrap .i64 (v1 + 1)) v2 Q)
          False))
      False)
    False)
  (cond (Option.isSome v0)
    (cond (!(List.getD v2 (Option.getD v0 0) Nd.z).has)
      (cond (Option.isSome v0)
        (cond (Option.isSome v0)
          (Q ((true, ()), ((List.set (List.set v2 (Option.getD v0 0) (Nd.wHas (List.getD v2 (Option.getD v0 0) Nd.z) true)) (Option.getD v0 0) (Nd.wVal (List.getD (List.set v2 (Option.getD v0 0) (Nd.wHas (List.getD v2 (Option.getD v0 0) Nd.z) true)) (Option.getD v0 0) Nd.z) v_)), (IntKind.wrap .i64 (sz + 1))), pn))
          False)
        False)
      (cond (Option.isSome v0)
        (Q ((true, ()), ((List.set v2 (Option.getD v0 0) (Nd.wVal (List.getD v2 (Option.getD v0 0) Nd.z) v_)), sz), pn))
        False))
    False)) : L_fn_17_0 pn tr sz p v_ v0 v1 v2 Q := Lfp.step (Eq.mpr (by kernel_rfl) h)
theorem lp_fn_17_0 (pn : Nat × List Nat) (tr : List Nd) (sz : Int) (p : PrefixT) (v_ : Int) (v00 : Option Nat) (v20 : List Nd) (Q : (Bool × Unit) × (List Nd × Int) × (Nat × List Nat) → Prop) (ha : AWf (tr, sz)) (hw : VXs.wf e_fn_17.A ((), p, v_, ()))  (hI0 : InsI 0 (v00, v20)) (g0 : (!(g_addr_Valid p)) = false) : (fun y : Bool × List Nd × Int => Q ((y.1, ()), y.2, pn)) (S_fn_17_0 tr sz p v_ v00 v20) → L_fn_17_0 pn tr sz p v_ v00 0 v20 Q := by
  have _ := hw
  have _ := g0
  let FF := (fun y : Bool × List Nd × Int => Q ((y.1, ()), y.2, pn))
  refine upS_loop (F := FF) (k := .i64) (n := (Int.toNat p.2.1)) (I := InsI) (L := (fun (c0 : Int) (s0 : (Option Nat) × (List Nd)) => L_fn_17_0 pn tr sz p v_ s0.1 c0 s0.2 Q)) (wrap_i64n (by have := vlen_of g0; unfold maxLen; omega)) (fun c0 hc0 s0 hI hF => rd_fn_17_0 pn tr sz p v_ s0.1 (c0 : Int) s0.2 Q (cond_ge (n := (Int.toNat p.2.1)) rfl hc0 ((vc_f (F := FF) (by first | ((exact ins_v2 hI); done) | ((exact ins_v1 hI); done) | ((exact pbit_c (vlen_of g0) hc0); done) | ((exact pvalid _); done) | ((repeat' (first | rfl | exact nn_d64 _ | exact okIx_nat hc0 | refine and_t ?_ ?_ | refine or_l ?_)); done) | (simp [-List.getD_eq_getElem?_getD, okIx_nat hc0, nn_u64, nn_u32]; done) | (simp [-List.getD_eq_getElem?_getD, okIx_nat hc0, nn_u64, nn_u32, g0]; done) | (have hry : roomy = 1048576 := rfl; simp [-List.getD_eq_getElem?_getD, okIx, okSlc, okApp, len_slcL, len_segL] at g0 hI ⊢ <;> omega)) /- 6 -/ (cond_f (F := FF) (fun h1 => (vc_f (F := FF) (by first | ((exact ins_v2 hI); done) | ((exact ins_v1 hI); done) | ((exact pbit_c (vlen_of g0) hc0); done) | ((exact pvalid _); done) | ((repeat' (first | rfl | exact nn_d64 _ | exact okIx_nat hc0 | refine and_t ?_ ?_ | refine or_l ?_)); done) | (simp [-List.getD_eq_getElem?_getD, okIx_nat hc0, nn_u64, nn_u32]; done) | (simp [-List.getD_eq_getElem?_getD, okIx_nat hc0, nn_u64, nn_u32, g0, h1]; done) | (have hry : roomy = 1048576 := rfl; simp [-List.getD_eq_getElem?_getD, okIx, okSlc, okApp, len_slcL, len_segL] at g0 h1 hI ⊢ <;> omega)) /- 7 -/ (vc_f (F := FF) (by first | ((exact ins_v2 hI); done) | ((exact ins_v1 hI); done) | ((exact pbit_c (vlen_of g0) hc0); done) | ((exact pvalid _); done) | ((repeat' (first | rfl | exact nn_d64 _ | exact okIx_nat hc0 | refine and_t ?_ ?_ | refine or_l ?_)); done) | (simp [-List.getD_eq_getElem?_getD, okIx_nat hc0, nn_u64, nn_u32]; done) | (simp [-List.getD_eq_getElem?_getD, okIx_nat hc0, nn_u64, nn_u32, g0, h1]; done) | (have hry : roomy = 1048576 := rfl; simp [-List.getD_eq_getElem?_getD, okIx, okSlc, okApp, len_slcL, len_segL] at g0 h1 hI ⊢ <;> omega)) /- 8 -/ id))) (fun h1 => (vc_f (F := FF) (by first | ((exact ins_v2 hI); done) | ((exact ins_v1 hI); done) | ((exact pbit_c (vlen_of g0) hc0); done) | ((exact pvalid _); done) | ((repeat' (first | rfl | exact nn_d64 _ | exact okIx_nat hc0 | refine and_t ?_ ?_ | refine or_l ?_)); done) | (simp [-List.getD_eq_getElem?_getD, okIx_nat hc0, nn_u64, nn_u32]; done) | (simp [-List.getD_eq_getElem?_getD, okIx_nat hc0, nn_u64, nn_u32, g0, h1]; done) | (have hry : roomy = 1048576 := rfl; simp [-List.getD_eq_getElem?_getD, okIx, okSlc, okApp, len_slcL, len_segL] at g0 h1 hI ⊢ <;> omega)) /- 9 -/ id)))) hF))) (fun c0 _ hc0 next0 hn0 s0 hI hF => rd_fn_17_0 pn tr sz p v_ s0.1 (c0 : Int) s0.2 Q (cond_lt (n := (Int.toNat p.2.1)) rfl hc0 ((vc_f (F := FF) (by first | ((exact ins_v2 hI); done) | ((exact ins_v1 hI); done) | ((exact pbit_c (vlen_of g0) hc0); done) | ((exact pvalid _); done) | ((repeat' (first | rfl | exact nn_d64 _ | exact okIx_nat hc0 | refine and_t ?_ ?_ | refine or_l ?_)); done) | (simp [-List.getD_eq_getElem?_getD, okIx_nat hc0, nn_u64, nn_u32]; done) | (simp [-List.getD_eq_getElem?_getD, okIx_nat hc0, nn_u64, nn_u32, g0]; done) | (have hry : roomy = 1048576 := rfl; simp [-List.getD_eq_getElem?_getD, okIx, okSlc, okApp, len_slcL, len_segL] at g0 hI ⊢ <;> omega)) /- 1 -/ (vc_f (F := FF) (by first | ((exact ins_v2 hI); done) | ((exact ins_v1 hI); done) | ((exact pbit_c (vlen_of g0) hc0); done) | ((exact pvalid _); done) | ((repeat' (first | rfl | exact nn_d64 _ | exact okIx_nat hc0 | refine and_t ?_ ?_ | refine or_l ?_)); done) | (simp [-List.getD_eq_getElem?_getD, okIx_nat hc0, nn_u64, nn_u32]; done) | (simp [-List.getD_eq_getElem?_getD, okIx_nat hc0, nn_u64, nn_u32, g0]; done) | (have hry : roomy = 1048576 := rfl; simp [-List.getD_eq_getElem?_getD, okIx, okSlc, okApp, len_slcL, len_segL] at g0 hI ⊢ <;> omega)) /- 2 -/ (cond_f (F := FF) (fun h1 => (vc_f (F := FF) (by first | ((exact ins_v2 hI); done) | ((exact ins_v1 hI); done) | ((exact pbit_c (vlen_of g0) hc0); done) | ((exact pvalid _); done) | ((repeat' (first | rfl | exact nn_d64 _ | exact okIx_nat hc0 | refine and_t ?_ ?_ | refine or_l ?_)); done) | (simp [-List.getD_eq_getElem?_getD, okIx_nat hc0, nn_u64, nn_u32]; done) | (simp [-List.getD_eq_getElem?_getD, okIx_nat hc0, nn_u64, nn_u32, g0, h1]; done) | (have hry : roomy = 1048576 := rfl; simp [-List.getD_eq_getElem?_getD, okIx, okSlc, okApp, len_slcL, len_segL] at g0 h1 hI ⊢ <;> omega)) /- 3 -/ (vc_f (F := FF) (by first | ((exact ins_v2 hI); done) | ((exact ins_v1 hI); done) | ((exact pbit_c (vlen_of g0) hc0); done) | ((exact pvalid _); done) | ((repeat' (first | rfl | exact nn_d64 _ | exact okIx_nat hc0 | refine and_t ?_ ?_ | refine or_l ?_)); done) | (simp [-List.getD_eq_getElem?_getD, okIx_nat hc0, nn_u64, nn_u32]; done) | (simp [-List.getD_eq_getElem?_getD, okIx_nat hc0, nn_u64, nn_u32, g0, h1]; done) | (have hry : roomy = 1048576 := rfl; simp [-List.getD_eq_getElem?_getD, okIx, okSlc, okApp, len_slcL, len_segL] at g0 h1 hI ⊢ <;> omega)) /- 4 -/ (hn0 _ (by first | exact ins_p1 hI (by assumption) | exact ins_p2 hI (by assumption)))))) (fun h1 => (vc_f (F := FF) (by first | ((exact ins_v2 hI); done) | ((exact ins_v1 hI); done) | ((exact pbit_c (vlen_of g0) hc0); done) | ((exact pvalid _); done) | ((repeat' (first | rfl | exact nn_d64 _ | exact okIx_nat hc0 | refine and_t ?_ ?_ | refine or_l ?_)); done) | (simp [-List.getD_eq_getElem?_getD, okIx_nat hc0, nn_u64, nn_u32]; done) | (simp [-List.getD_eq_getElem?_getD, okIx_nat hc0, nn_u64, nn_u32, g0, h1]; done) | (have hry : roomy = 1048576 := rfl; simp [-List.getD_eq_getElem?_getD, okIx, okSlc, okApp, len_slcL, len_segL] at g0 h1 hI ⊢ <;> omega)) /- 5 -/ (hn0 _ (by first | exact ins_p1 hI (by assumption) | exact ins_p2 hI (by assumption)))))))) hF))) (v00, v20) hI0
theorem ct_fn_17 (pn : Nat × List Nat) (tr : List Nd) (sz : Int) (p : PrefixT) (v_ : Int) (ha : AWf (tr, sz)) (hw : VXs.wf e_fn_17.A ((), p, v_, ())) (Q : (Bool × Unit) × (List Nd × Int) × (Nat × List Nat) → Prop) (hq : Q (e_fn_17.g (tr, sz) ((), p, v_, ()), e_fn_17.h (tr, sz) ((), p, v_, ()), pn)) : EvX G_fn_17 tb_fn_17 c_fn_17 e_fn_17.A pn (tr, sz) ((), p, v_, ()) e_fn_17.R Q := by
  have _ := hw
  let FF := (fun y : Bool × List Nd × Int => Q ((y.1, ()), y.2, pn))
  refine EvX.of (in_fn_17 pn tr sz p v_ Q) ?_
  exact (vc_f (F := FF) (by first | ((exact ins_v2 hI); done) | ((exact ins_v1 hI); done) | ((exact pbit_c (vlen_of g0) hc0); done) | ((exact pvalid _); done) | ((repeat' (first | rfl | exact nn_d64 _ | refine and_t ?_ ?_ | refine or_l ?_)); done) | (simp [-List.getD_eq_getElem?_getD, nn_u64, nn_u32]; done) | (have hry : roomy = 1048576 := rfl; simp [-List.getD_eq_getElem?_getD, okIx, okSlc, okApp, len_slcL, len_segL] <;> omega)) /- 10 -/ (cond_f (F := FF) (fun h0 => id) (fun h0 => (lp_fn_17_0 pn tr sz p v_ _ _ Q ha hw (by exact ins_e ha) h0)))) hq
/-! netverify/trie.New -/
def G_trie_New : Env := ⟨[], []⟩
def c_trie_New : AFunc := AFunc.mk 3 0 [(.t 0)] (.seq (.region [(oI 0 (.mov (.c (.f .nilp))))] []) (.seq (.region [(oI 1 (.build [(.f .nilp), (.f .nilp), (.f (.bool false)), (.f (.int .i64 0)), (.f (.int .i64 0))] [])), (oI 2 (.box (.t 1))), (oI 0 (.mov (.t 2)))] []) .ret))
def tb_trie_New : Tbl := fun _ => ([], .skip)
theorem ok_trie_New : compF Try.prog [8, 9, 10, 14, 16, 17, 18, 20, 21, 30, 33] Try.f21 = some c_trie_New.strip := by kernel_rfl
theorem tk_trie_New : TblOk tb_trie_New c_trie_New.body := ⟨trivial, ⟨trivial, trivial⟩⟩
theorem in_trie_New (Q : List Nd × Int → Prop) : evN G_trie_New (Lfp G_trie_New tb_trie_New) c_trie_New e_trie_New.A (()) Q = (
  Q ([Nd.mk none none false 0], 0)) := by kernel_rfl
theorem au_trie_New (Q : List Nd × Int → Prop) : evN G_trie_New (Lfp G_trie_New tb_trie_New) c_trie_New e_trie_New.A (()) Q = Q (e_trie_New.g (())) := (in_trie_New  Q).trans rfl
/-! netverify/netverifylaw4.built -/
def G_law4_built : Env := ⟨[], [e_fn_17.ent, e_trie_New.ent]⟩
def b_law4_built_0 : ACode := (.seq (.seq (.region [(oI 8 (.mov (.t 5))), (oI 9 (.nilpq true (.t 8))), (oI 10 (.mov (.t 9))), (.mk (some 11) (some (10, true)) (.mov (.t 6))), (.mk (some 12) (some (10, true)) (.mov (.t 0))), (.mk (some 13) (some (10, true)) (.len (.t 12))), (.mk (some 14) (some (10, true)) (.bin .lss (.t 11) (.t 13))), (oI 15 (.pick 10 (.t 14) (.c (.f (.bool false)))))] []) (.cond 15 .skip (.exit 0))) (.seq (.block 1 (.seq (.region [(oI 18 (.mov (.t 1)))] []) (.cond 18 (.region [(oI 19 (.mov (.t 5))), (oI 20 (.mov (.t 0))), (oI 21 (.mov (.t 0))), (oI 22 (.len (.t 21))), (oI 23 (.bin .sub (.t 22) (.c (.f (.int .i64 1))))), (oI 24 (.mov (.t 6))), (oI 25 (.bin .sub (.t 23) (.t 24))), (oI 26 (.ixa 3 (.t 20) (.t 25))), (oI 27 (.fld 0 (.t 26))), (oI 28 (.load true 2 (.t 27))), (oI 29 (.mov (.t 0))), (oI 30 (.mov (.t 0))), (oI 31 (.len (.t 30))), (oI 32 (.bin .sub (.t 31) (.c (.f (.int .i64 1))))), (oI 33 (.mov (.t 6))), (oI 34 (.bin .sub (.t 32) (.t 33))), (oI 35 (.ixa 3 (.t 29) (.t 34))), (oI 36 (.fld 2 (.t 35))), (oI 37 (.load false 1 (.t 36))), (oI 38 (.callm 17 [(.t 19), (.t 28), (.t 37)]))] []) (.region [(oI 39 (.mov (.t 5))), (oI 40 (.mov (.t 0))), (oI 41 (.mov (.t 6))), (oI 42 (.ixa 3 (.t 40) (.t 41))), (oI 43 (.fld 0 (.t 42))), (oI 44 (.load true 2 (.t 43))), (oI 45 (.mov (.t 0))), (oI 46 (.mov (.t 6))), (oI 47 (.ixa 3 (.t 45) (.t 46))), (oI 48 (.fld 2 (.t 47))), (oI 49 (.load false 1 (.t 48))), (oI 50 (.callm 17 [(.t 39), (.t 44), (.t 49)]))] [])))) (.region [(oI 16 (.mov (.t 6))), (oI 17 (.bin .add (.t 16) (.c (.f (.int .i64 1))))), (oI 6 (.mov (.t 17)))] [])))
def r_law4_built_0 : ACode := (.seq (.region [(oI 51 (.mov (.t 5))), (oI 4 (.mov (.t 51)))] []) .ret)
def c_law4_built : AFunc := AFunc.mk 52 2 [(.t 4)] (.seq (.region [(oI 4 (.mov (.c (.f .nilp))))] []) (.seq (.region [(oI 7 (.callm 21 [])), (oI 5 (.mov (.t 7)))] []) (.seq (.seq (.region [(oI 6 (.mov (.c (.f (.int .i64 0)))))] []) (.block 0 (.loop 0 [(0, .no), (1, .no), (5, .no), (6, .no)] b_law4_built_0))) r_law4_built_0)))
def tb_law4_built : Tbl
  | 0 => ([(0, .no), (1, .no), (5, .no), (6, .no)], b_law4_built_0)
  | _ => ([], .skip)
theorem ok_law4_built : compF Try.prog [8, 9, 10, 14, 16, 17, 18, 20, 21, 30, 33] Try.f8 = some c_law4_built.strip := by kernel_rfl
theorem tk_law4_built : TblOk tb_law4_built c_law4_built.body := ⟨trivial, ⟨trivial, ⟨⟨trivial, ⟨rfl, ⟨⟨trivial, ⟨trivial, trivial⟩⟩, ⟨⟨trivial, ⟨trivial, trivial⟩⟩, trivial⟩⟩⟩⟩, ⟨trivial, trivial⟩⟩⟩⟩
def k_law4_built_0 (Q : List Nd × Int → Prop) : K := (kBlock 0 (kSeq (evC G_law4_built (Lfp G_law4_built tb_law4_built) r_law4_built_0) (kDoneN c_law4_built Q)))
def s_law4_built_0 (l : List TableEntryT) (back : Bool) (v0 : Int) (v1 : List Nd) (v2 : Int) : St := ⟨[(0, [], .f (.fs TableEntryS l)), (1, [], .f (.bool back)), (5, [], .ptr 0 0), (6, [], .f (.int .i64 v0))], [.arena none v1 v2]⟩
def L_law4_built_0 (l : List TableEntryT) (back : Bool) (v0 : Int) (v1 : List Nd) (v2 : Int) (Q : List Nd × Int → Prop) : Prop := Lfp G_law4_built tb_law4_built 0 (s_law4_built_0 l back v0 v1 v2) (k_law4_built_0 Q)
theorem in_law4_built (l : List TableEntryT) (back : Bool) (Q : List Nd × Int → Prop) : evN G_law4_built (Lfp G_law4_built tb_law4_built) c_law4_built e_law4_built.A (l, back, ()) Q = (
  L_law4_built_0 l back 0 g_trie_New.1 g_trie_New.2 Q) := by kernel_rfl
theorem rd_law4_built_0 (l : List TableEntryT) (back : Bool) (v0 : Int) (v1 : List Nd) (v2 : Int) (Q : List Nd × Int → Prop) (h :
  cond (decide (v0 < (l.length : Int)))
  (cond back
    (cond (((okIx (IntKind.wrap .i64 ((IntKind.wrap .i64 ((l.length : Int) - 1)) - v0)) (l.length : Int)) && (okIx (IntKind.wrap .i64 ((IntKind.wrap .i64 ((l.length : Int) - 1)) - v0)) (l.length : Int))) && true)
      (L_law4_built_0 l back (IntKind.wrap .i64 (v0 + 1)) (g_fn_17 v1 v2 ((List.getD l (Int.toNat (IntKind.wrap .i64 ((IntKind.wrap .i64 ((l.length : Int) - 1)) - v0))) TableEntryD).1, (List.getD l (Int.toNat (IntKind.wrap .i64 ((IntKind.wrap .i64 ((l.length : Int) - 1)) - v0))) TableEntryD).2.1, ()) (List.getD l (Int.toNat (IntKind.wrap .i64 ((IntKind.wrap .i64 ((l.length : Int) - 1)) - v0))) TableEntryD).2.2.1).2.1 (g_fn_17 v1 v2 ((List.getD l (Int.toNat (IntKind.wrap .i64 ((IntKind.wrap .i64 ((l.length : Int) - 1)) - v0))) TableEntryD).1, (List.getD l (Int.toNat (IntKind.wrap .i64 ((IntKind.wrap .i64 ((l.length : Int) - 1)) - v0))) TableEntryD).2.1, ()) (List.getD l (Int.toNat (IntKind.wrap .i64 ((IntKind.wrap .i64 ((l.length : Int) - 1)) - v0))) TableEntryD).2.2.1).2.2 Q)
      False)
    (cond (((okIx v0 (l.length : Int)) && (okIx v0 (l.length : Int))) && true)
      (L_law4_built_0 l back (IntKind.wrap .i64 (v0 + 1)) (g_fn_17 v1 v2 ((List.getD l (Int.toNat v0) TableEntryD).1, (List.getD l (Int.toNat v0) TableEntryD).2.1, ()) (List.getD l (Int.toNat v0) TableEntryD).2.2.1).2.1 (g_fn_17 v1 v2 ((List.getD l (Int.toNat v0) TableEntryD).1, (List.getD l (Int.toNat v0) TableEntryD).2.1, ()) (List.getD l (Int.toNat v0) TableEntryD).2.2.1).2.2 Q)
      False))
  (Q (v1, v2))) : L_law4_built_0 l back v0 v1 v2 Q := Lfp.step (Eq.mpr (by kernel_rfl) h)
theorem lp_law4_built_0 (l : List TableEntryT) (back : Bool) (v10 : List Nd) (v20 : Int) (Q : List Nd × Int → Prop) (hw : VOs.wf e_law4_built.A (l, back, ()))  : (fun y : List Nd × Int => Q y) (S_law4_built_0 l back v10 v20) → L_law4_built_0 l back 0 v10 v20 Q := by
  have _ := hw
  let FF := (fun y : List Nd × Int => Q y)
  refine upS_loop (F := FF) (k := .i64) (n := l.length) (I := fun _ _ => True) (L := (fun (c0 : Int) (s0 : (List Nd) × Int) => L_law4_built_0 l back c0 s0.1 s0.2 Q)) (wrap_i64n (show _ ≤ _ from (hw.1).1)) (fun c0 hc0 s0 hI hF => rd_law4_built_0 l back (c0 : Int) s0.1 s0.2 Q (cond_ge (n := l.length) rfl hc0 (id hF))) (fun c0 _ hc0 next0 hn0 s0 hI hF => rd_law4_built_0 l back (c0 : Int) s0.1 s0.2 Q (cond_lt (n := l.length) rfl hc0 ((cond_f (F := FF) (fun h0 => (vc_f (F := FF) (by first | ((exact and_t (and_t (rev_ix (len_ok hw.1) hc0) (rev_ix (len_ok hw.1) hc0)) rfl); done) | ((repeat' (first | rfl | exact nn_d64 _ | exact okIx_nat hc0 | refine and_t ?_ ?_ | refine or_l ?_)); done) | (simp [-List.getD_eq_getElem?_getD, okIx_nat hc0, nn_u64, nn_u32]; done) | (simp [-List.getD_eq_getElem?_getD, okIx_nat hc0, nn_u64, nn_u32, h0]; done) | (have hry : roomy = 1048576 := rfl; simp [-List.getD_eq_getElem?_getD, okIx, okSlc, okApp, len_slcL, len_segL] at h0 ⊢ <;> omega)) /- 1 -/ (hn0 _ trivial))) (fun h0 => (vc_f (F := FF) (by first | ((exact and_t (and_t (rev_ix (len_ok hw.1) hc0) (rev_ix (len_ok hw.1) hc0)) rfl); done) | ((repeat' (first | rfl | exact nn_d64 _ | exact okIx_nat hc0 | refine and_t ?_ ?_ | refine or_l ?_)); done) | (simp [-List.getD_eq_getElem?_getD, okIx_nat hc0, nn_u64, nn_u32]; done) | (simp [-List.getD_eq_getElem?_getD, okIx_nat hc0, nn_u64, nn_u32, h0]; done) | (have hry : roomy = 1048576 := rfl; simp [-List.getD_eq_getElem?_getD, okIx, okSlc, okApp, len_slcL, len_segL] at h0 ⊢ <;> omega)) /- 2 -/ (hn0 _ trivial)))) hF))) (v10, v20) trivial
theorem ct_law4_built (l : List TableEntryT) (back : Bool) (hw : VOs.wf e_law4_built.A (l, back, ())) (Q : List Nd × Int → Prop) (hq : Q (e_law4_built.g (l, back, ()))) : EvN G_law4_built tb_law4_built c_law4_built e_law4_built.A (l, back, ()) Q := by
  have _ := hw
  let FF := (fun y : List Nd × Int => Q y)
  refine EvN.of (in_law4_built l back Q) ?_
  exact (lp_law4_built_0 l back _ _ Q hw) hq
/-! netverify/addr.Network -/
def G_addr_Network : Env := ⟨[e_addr_Mask, e_addr_clamp], []⟩
def c_addr_Network : AFunc := AFunc.mk 12 2 [(.cell 4 true 2)] (.seq (.region [(oI 4 (.alloc [(.f (.int .u32 0)), (.f (.int .i64 0))]))] []) (.seq (.region [(oI 5 (.mov (.t 0))), (oI 6 (.mov (.t 1))), (oI 7 (.call 36 [(.t 6)])), (oI 8 (.bin .and (.t 5) (.t 7))), (oI 9 (.mov (.t 1))), (oI 10 (.call 37 [(.t 9)])), (oI 11 (.build [(.f (.int .u32 0)), (.f (.int .i64 0))] [(0, (1, (.t 8))), (1, (1, (.t 10)))])), (.mk none none (.store 2 (.t 4) (.t 11)))] []) .ret))
def tb_addr_Network : Tbl := fun _ => ([], .skip)
theorem ok_addr_Network : compF Try.prog [8, 9, 10, 14, 16, 17, 18, 20, 21, 30, 33] Try.f29 = some c_addr_Network.strip := by kernel_rfl
theorem tk_addr_Network : TblOk tb_addr_Network c_addr_Network.body := ⟨trivial, ⟨trivial, trivial⟩⟩
theorem in_addr_Network (a : Int) (n : Int) (Q : PrefixT × Unit → Prop) : evF G_addr_Network (Lfp G_addr_Network tb_addr_Network) c_addr_Network (VSs.enc e_addr_Network.A (a, n, ())) (dq e_addr_Network.R Q) = (
  cond ((p_addr_Mask n) && true)
  (Q (((iand .u32 a (g_addr_Mask n)), (g_addr_clamp n), ()), ()))
  False) := by kernel_rfl
theorem au_addr_Network (a : Int) (n : Int) (Q : PrefixT × Unit → Prop) (hp : p_addr_Network a n = true) : evF G_addr_Network (Lfp G_addr_Network tb_addr_Network) c_addr_Network (VSs.enc e_addr_Network.A (a, n, ())) (dq e_addr_Network.R Q) = Q (e_addr_Network.g (a, n, ())) := (in_addr_Network a n Q).trans ((vc_e (F := fun y : PrefixT => Q (y, ())) rfl) hp)
/-! (*netverify/trie.Table).Lookup -/
def G_fn_9 : Env := ⟨[e_trie_bit, e_addr_Network], []⟩
def b_fn_9_0 : ACode := (.seq (.seq (.region [(oI 14 (.mov (.t 9))), (oI 15 (.nilpq true (.t 14)))] []) (.cond 15 .skip (.exit 0))) (.seq (.block 1 (.seq (.seq (.region [(oI 18 (.mov (.t 9))), (oI 19 (.nilchk (.t 18))), (oI 20 (.fld 2 (.t 19))), (oI 21 (.load false 1 (.t 20)))] []) (.cond 21 (.region [(oI 22 (.mov (.t 9))), (oI 23 (.mov (.t 10))), (oI 7 (.mov (.t 22))), (oI 8 (.mov (.t 23)))] []) .skip)) (.seq (.seq (.region [(oI 24 (.mov (.t 10))), (oI 25 (.bin .eql (.t 24) (.c (.f (.int .i64 32)))))] []) (.cond 25 (.exit 0) .skip)) (.region [(oI 26 (.mov (.t 9))), (oI 27 (.mov (.t 1))), (oI 28 (.mov (.t 10))), (oI 29 (.call 28 [(.t 27), (.t 28)])), (oI 30 (.nilchk (.t 26))), (oI 31 (.fld 0 (.t 30))), (oI 32 (.ixn 2 (.t 31) (.t 29))), (oI 33 (.load false 1 (.t 32))), (oI 9 (.mov (.t 33)))] [])))) (.region [(oI 16 (.mov (.t 10))), (oI 17 (.bin .add (.t 16) (.c (.f (.int .i64 1))))), (oI 10 (.mov (.t 17)))] [])))
def r_fn_9_0 : ACode := (.seq (.seq (.region [(oI 34 (.mov (.t 7))), (oI 35 (.nilpq false (.t 34)))] []) (.cond 35 (.seq (.region [(oI 36 (.build [(.f (.int .u32 0)), (.f (.int .i64 0))] [])), (.mk none none (.store 2 (.t 4) (.t 36))), (oI 5 (.mov (.c (.f (.int .i64 0))))), (oI 6 (.mov (.c (.f (.bool false)))))] []) .ret) .skip)) (.seq (.region [(oI 37 (.mov (.t 1))), (oI 38 (.mov (.t 8))), (oI 39 (.call 29 [(.t 37), (.t 38)])), (oI 40 (.mov (.t 7))), (oI 41 (.nilchk (.t 40))), (oI 42 (.fld 3 (.t 41))), (oI 43 (.load false 1 (.t 42))), (.mk none none (.store 2 (.t 4) (.t 39))), (oI 5 (.mov (.t 43))), (oI 6 (.mov (.c (.f (.bool true)))))] [(6, 7)]) .ret))
def c_fn_9 : AFunc := AFunc.mk 44 2 [(.cell 4 true 2), (.t 5), (.t 6)] (.seq (.region [(oI 4 (.alloc [(.f (.int .u32 0)), (.f (.int .i64 0))])), (oI 5 (.mov (.c (.f (.int .i64 0))))), (oI 6 (.mov (.c (.f (.bool false)))))] []) (.seq (.region [(oI 7 (.mov (.c (.f .nilp))))] []) (.seq (.region [(oI 8 (.mov (.c (.f (.int .i64 0)))))] []) (.seq (.region [(oI 11 (.mov (.t 0))), (oI 12 (.nilchk (.t 11))), (oI 13 (.fld 0 (.t 12))), (oI 9 (.mov (.t 13)))] []) (.seq (.seq (.region [(oI 10 (.mov (.c (.f (.int .i64 0)))))] []) (.block 0 (.loop 0 [(0, .no), (1, .no), (4, .no), (7, .nod 0), (8, .no), (9, .nod 0), (10, .no)] b_fn_9_0))) r_fn_9_0)))))
def tb_fn_9 : Tbl
  | 0 => ([(0, .no), (1, .no), (4, .no), (7, .nod 0), (8, .no), (9, .nod 0), (10, .no)], b_fn_9_0)
  | _ => ([], .skip)
theorem ok_fn_9 : compF Try.prog [8, 9, 10, 14, 16, 17, 18, 20, 21, 30, 33] Try.f9 = some c_fn_9.strip := by kernel_rfl
theorem tk_fn_9 : TblOk tb_fn_9 c_fn_9.body := ⟨trivial, ⟨trivial, ⟨trivial, ⟨trivial, ⟨⟨trivial, ⟨rfl, ⟨⟨trivial, ⟨trivial, trivial⟩⟩, ⟨⟨⟨trivial, ⟨trivial, trivial⟩⟩, ⟨⟨trivial, ⟨trivial, trivial⟩⟩, trivial⟩⟩, trivial⟩⟩⟩⟩, ⟨⟨trivial, ⟨⟨trivial, trivial⟩, trivial⟩⟩, ⟨trivial, trivial⟩⟩⟩⟩⟩⟩⟩
def k_fn_9_0 (Q : (PrefixT × Int × Bool × Unit) × (List Nd × Int) × (Nat × List Nat) → Prop) : K := (kBlock 0 (kSeq (evC G_fn_9 (Lfp G_fn_9 tb_fn_9) r_fn_9_0) (kDoneX c_fn_9 0 e_fn_9.R Q)))
def s_fn_9_0 (pn : Nat × List Nat) (tr : List Nd) (sz : Int) (a : Int) (v0 : Option Nat) (v1 : Option Nat) (v2 : Int) (v3 : Int) : St := ⟨[(0, [], .ptr 0 0), (1, [], .f (.int .u32 a)), (4, [], .ptr 1 0), (7, [], .ndo 0 v0), (8, [], .f (.int .i64 v3)), (9, [], .ndo 0 v1), (10, [], .f (.int .i64 v2))], [.arena (some pn) tr sz, .box none [.f (.int .u32 0), .f (.int .i64 0)]]⟩
def L_fn_9_0 (pn : Nat × List Nat) (tr : List Nd) (sz : Int) (a : Int) (v0 : Option Nat) (v1 : Option Nat) (v2 : Int) (v3 : Int) (Q : (PrefixT × Int × Bool × Unit) × (List Nd × Int) × (Nat × List Nat) → Prop) : Prop := Lfp G_fn_9 tb_fn_9 0 (s_fn_9_0 pn tr sz a v0 v1 v2 v3) (k_fn_9_0 Q)
theorem in_fn_9 (pn : Nat × List Nat) (tr : List Nd) (sz : Int) (a : Int) (Q : (PrefixT × Int × Bool × Unit) × (List Nd × Int) × (Nat × List Nat) → Prop) : evX G_fn_9 (Lfp G_fn_9 tb_fn_9) c_fn_9 e_fn_9.A pn (tr, sz) ((), a, ()) e_fn_9.R Q = (
  L_fn_9_0 pn tr sz a none (some 0) 0 0 Q) := by kernel_rfl
theorem rd_fn_9_0 (pn : Nat × List Nat) (tr : List Nd) (sz : Int) (a : Int) (v0 : Option Nat) (v1 : Option Nat) (v2 : Int) (v3 : Int) (Q : (PrefixT × Int × Bool × Unit) × (List Nd × Int) × (Nat × List Nat) → Prop) (h :
  cond (Option.isSome v1)
  (cond (Option.isSome v1)
    (cond ((List.getD tr (Option.getD v1 0) Nd.z).has)
      (cond (v2 == 32)
        (cond (Option.isNone v1)
          (Q (((0, 0, ()), 0, false, ()), (tr, sz), pn))
          (cond ((p_addr_Network a v2) && (Option.isSome v1))
            (Q (((g_addr_Network a v2), (List.getD tr (Option.getD v1 0) Nd.z).val, true, ()), (tr, sz), pn))
            False))
        (cond (((p_trie_bit a v2) && (Option.isSome v1)) && ((decide (0 ≤ (g_trie_bit a v2))) && (decide ((g_trie_bit a v2) < 2))))
          (L_fn_9_0 pn tr sz a v1 (Nd.ch (List.getD tr (Option.getD v1 0) Nd.z) (g_trie_bit a v2)) (IntKind.wrap .i64 (v2 + 1)) v2 Q)
          False))
      (cond (v2 == 32)
        (cond (Option.isNone v0)
          (Q (((0, 0, ()), 0, false, ()), (tr, sz), pn))
          (cond ((p_addr_Network a v3) && (Option.isSome v0))
            (Q (((g_addr_Network a v3), (List.getD tr (Option.getD v0 0) Nd.z).val, true, ()), (tr, sz), pn))
            False))
        (cond (((p_trie_bit a v2) && (Option.isSome v1)) && ((decide (0 ≤ (g_trie_bit a v2))) && (decide ((g_trie_bit a v2) < 2))))
          (L_fn_9_0 pn tr sz a v0 (Nd.ch (List.getD tr (Option.getD v1 0) Nd.z) (g_trie_bit a v2)) (IntKind.wrap .i64 (v2 + 1)) v3 Q)
          False)))
    False)
  (cond (Option.isNone v0)
    (Q (((0, 0, ()), 0, false, ()), (tr, sz), pn))
    (cond ((p_addr_Network a v3) && (Option.isSome v0))
      (Q (((g_addr_Network a v3), (List.getD tr (Option.getD v0 0) Nd.z).val, true, ()), (tr, sz), pn))
      False))) : L_fn_9_0 pn tr sz a v0 v1 v2 v3 Q := Lfp.step (Eq.mpr (by kernel_rfl) h)
theorem lp_fn_9_0 (pn : Nat × List Nat) (tr : List Nd) (sz : Int) (a : Int) (v00 : Option Nat) (v10 : Option Nat) (v20 : Int) (v30 : Int) (Q : (PrefixT × Int × Bool × Unit) × (List Nd × Int) × (Nat × List Nat) → Prop) (ha : AWf (tr, sz)) (hw : VXs.wf e_fn_9.A ((), a, ()))  (hI0 : LkI 0 (v00, v10, v20, v30)) : (fun y : PrefixT × Int × Bool × Unit => Q (y, (tr, sz), pn)) (S_fn_9_0 tr sz a v00 v10 v20 v30) → L_fn_9_0 pn tr sz a v00 v10 v20 v30 Q := by
  have _ := hw
  let FF := (fun y : PrefixT × Int × Bool × Unit => Q (y, (tr, sz), pn))
  refine upF_loop (F := FF) (n := 33) (I := LkI) (L := (fun (s0 : (Option Nat) × (Option Nat) × Int × Int) => L_fn_9_0 pn tr sz a s0.1 s0.2.1 s0.2.2.1 s0.2.2.2 Q)) (fun s0 hI => (by have := hI.2; omega)) (Nat.zero_le _) (fun c0 _ hc0 next0 hn0 s0 hI hF => rd_fn_9_0 pn tr sz a s0.1 s0.2.1 s0.2.2.1 s0.2.2.2 Q ((cond_f (F := FF) (fun h0 => (vc_f (F := FF) (by first | ((exact lk_v hI (by assumption) (by assumption)); done) | ((exact and_t (pnet _ _) (some_of (by assumption))); done) | ((exact and_t (pnet _ _) (by assumption)); done) | ((assumption); done) | ((repeat' (first | rfl | exact nn_d64 _ | exact okIx_nat hc0 | refine and_t ?_ ?_ | refine or_l ?_)); done) | (simp [-List.getD_eq_getElem?_getD, okIx_nat hc0, nn_u64, nn_u32]; done) | (simp [-List.getD_eq_getElem?_getD, okIx_nat hc0, nn_u64, nn_u32, h0]; done) | (have hry : roomy = 1048576 := rfl; simp [-List.getD_eq_getElem?_getD, okIx, okSlc, okApp, len_slcL, len_segL] at h0 hI ⊢ <;> omega)) /- 1 -/ (cond_f (F := FF) (fun h1 => (cond_f (F := FF) (fun h2 => (cond_f (F := FF) (fun h3 => id) (fun h3 => (vc_f (F := FF) (by first | ((exact lk_v hI (by assumption) (by assumption)); done) | ((exact and_t (pnet _ _) (some_of (by assumption))); done) | ((exact and_t (pnet _ _) (by assumption)); done) | ((assumption); done) | ((repeat' (first | rfl | exact nn_d64 _ | exact okIx_nat hc0 | refine and_t ?_ ?_ | refine or_l ?_)); done) | (simp [-List.getD_eq_getElem?_getD, okIx_nat hc0, nn_u64, nn_u32]; done) | (simp [-List.getD_eq_getElem?_getD, okIx_nat hc0, nn_u64, nn_u32, h0, h1, h2, h3]; done) | (have hry : roomy = 1048576 := rfl; simp [-List.getD_eq_getElem?_getD, okIx, okSlc, okApp, len_slcL, len_segL] at h0 h1 h2 h3 hI ⊢ <;> omega)) /- 2 -/ id)))) (fun h2 => (vc_f (F := FF) (by first | ((exact lk_v hI (by assumption) (by assumption)); done) | ((exact and_t (pnet _ _) (some_of (by assumption))); done) | ((exact and_t (pnet _ _) (by assumption)); done) | ((assumption); done) | ((repeat' (first | rfl | exact nn_d64 _ | exact okIx_nat hc0 | refine and_t ?_ ?_ | refine or_l ?_)); done) | (simp [-List.getD_eq_getElem?_getD, okIx_nat hc0, nn_u64, nn_u32]; done) | (simp [-List.getD_eq_getElem?_getD, okIx_nat hc0, nn_u64, nn_u32, h0, h1, h2]; done) | (have hry : roomy = 1048576 := rfl; simp [-List.getD_eq_getElem?_getD, okIx, okSlc, okApp, len_slcL, len_segL] at h0 h1 h2 hI ⊢ <;> omega)) /- 3 -/ (hn0 _ (by exact lk_p hI (by assumption))))))) (fun h1 => (cond_f (F := FF) (fun h2 => (cond_f (F := FF) (fun h3 => id) (fun h3 => (vc_f (F := FF) (by first | ((exact lk_v hI (by assumption) (by assumption)); done) | ((exact and_t (pnet _ _) (some_of (by assumption))); done) | ((exact and_t (pnet _ _) (by assumption)); done) | ((assumption); done) | ((repeat' (first | rfl | exact nn_d64 _ | exact okIx_nat hc0 | refine and_t ?_ ?_ | refine or_l ?_)); done) | (simp [-List.getD_eq_getElem?_getD, okIx_nat hc0, nn_u64, nn_u32]; done) | (simp [-List.getD_eq_getElem?_getD, okIx_nat hc0, nn_u64, nn_u32, h0, h1, h2, h3]; done) | (have hry : roomy = 1048576 := rfl; simp [-List.getD_eq_getElem?_getD, okIx, okSlc, okApp, len_slcL, len_segL] at h0 h1 h2 h3 hI ⊢ <;> omega)) /- 4 -/ id)))) (fun h2 => (vc_f (F := FF) (by first | ((exact lk_v hI (by assumption) (by assumption)); done) | ((exact and_t (pnet _ _) (some_of (by assumption))); done) | ((exact and_t (pnet _ _) (by assumption)); done) | ((assumption); done) | ((repeat' (first | rfl | exact nn_d64 _ | exact okIx_nat hc0 | refine and_t ?_ ?_ | refine or_l ?_)); done) | (simp [-List.getD_eq_getElem?_getD, okIx_nat hc0, nn_u64, nn_u32]; done) | (simp [-List.getD_eq_getElem?_getD, okIx_nat hc0, nn_u64, nn_u32, h0, h1, h2]; done) | (have hry : roomy = 1048576 := rfl; simp [-List.getD_eq_getElem?_getD, okIx, okSlc, okApp, len_slcL, len_segL] at h0 h1 h2 hI ⊢ <;> omega)) /- 5 -/ (hn0 _ (by exact lk_p hI (by assumption)))))))))) (fun h0 => (cond_f (F := FF) (fun h1 => id) (fun h1 => (vc_f (F := FF) (by first | ((exact lk_v hI (by assumption) (by assumption)); done) | ((exact and_t (pnet _ _) (some_of (by assumption))); done) | ((exact and_t (pnet _ _) (by assumption)); done) | ((assumption); done) | ((repeat' (first | rfl | exact nn_d64 _ | exact okIx_nat hc0 | refine and_t ?_ ?_ | refine or_l ?_)); done) | (simp [-List.getD_eq_getElem?_getD, okIx_nat hc0, nn_u64, nn_u32]; done) | (simp [-List.getD_eq_getElem?_getD, okIx_nat hc0, nn_u64, nn_u32, h0, h1]; done) | (have hry : roomy = 1048576 := rfl; simp [-List.getD_eq_getElem?_getD, okIx, okSlc, okApp, len_slcL, len_segL] at h0 h1 hI ⊢ <;> omega)) /- 6 -/ id))))) hF)) (v00, v10, v20, v30) hI0
theorem ct_fn_9 (pn : Nat × List Nat) (tr : List Nd) (sz : Int) (a : Int) (ha : AWf (tr, sz)) (hw : VXs.wf e_fn_9.A ((), a, ())) (Q : (PrefixT × Int × Bool × Unit) × (List Nd × Int) × (Nat × List Nat) → Prop) (hq : Q (e_fn_9.g (tr, sz) ((), a, ()), e_fn_9.h (tr, sz) ((), a, ()), pn)) : EvX G_fn_9 tb_fn_9 c_fn_9 e_fn_9.A pn (tr, sz) ((), a, ()) e_fn_9.R Q := by
  have _ := hw
  let FF := (fun y : PrefixT × Int × Bool × Unit => Q (y, (tr, sz), pn))
  refine EvX.of (in_fn_9 pn tr sz a Q) ?_
  exact (lp_fn_9_0 pn tr sz a _ _ _ _ Q ha hw (by exact ⟨rfl, Nat.zero_le _⟩)) hq
/-! (*netverify/trie.Table).find -/
def G_fn_30 : Env := ⟨[e_trie_bit, e_addr_Valid], []⟩
def b_fn_30_0 : ACode := (.seq (.seq (.region [(oI 13 (.mov (.t 6))), (oI 14 (.fld 1 (.t 3))), (oI 15 (.load false 1 (.t 14))), (oI 16 (.bin .lss (.t 13) (.t 15))), (oI 17 (.mov (.t 16))), (.mk (some 18) (some (17, true)) (.mov (.t 5))), (.mk (some 19) (some (17, true)) (.nilpq true (.t 18))), (oI 20 (.pick 17 (.t 19) (.c (.f (.bool false)))))] []) (.cond 20 .skip (.exit 0))) (.seq (.block 1 (.region [(oI 23 (.mov (.t 5))), (oI 24 (.fld 0 (.t 3))), (oI 25 (.load false 1 (.t 24))), (oI 26 (.mov (.t 6))), (oI 27 (.call 28 [(.t 25), (.t 26)])), (oI 28 (.nilchk (.t 23))), (oI 29 (.fld 0 (.t 28))), (oI 30 (.ixn 2 (.t 29) (.t 27))), (oI 31 (.load false 1 (.t 30))), (oI 5 (.mov (.t 31)))] [])) (.region [(oI 21 (.mov (.t 6))), (oI 22 (.bin .add (.t 21) (.c (.f (.int .i64 1))))), (oI 6 (.mov (.t 22)))] [])))
def r_fn_30_0 : ACode := (.seq (.seq (.region [(oI 32 (.mov (.t 5))), (oI 33 (.nilpq false (.t 32))), (oI 34 (.mov (.t 33))), (.mk (some 35) (some (34, false)) (.mov (.t 5))), (.mk (some 36) (some (34, false)) (.nilchk (.t 35))), (.mk (some 37) (some (34, false)) (.fld 2 (.t 36))), (.mk (some 38) (some (34, false)) (.load false 1 (.t 37))), (.mk (some 39) (some (34, false)) (.un .not (.t 38))), (oI 40 (.pick 34 (.c (.f (.bool true))) (.t 39)))] []) (.cond 40 (.seq (.region [(oI 4 (.mov (.c (.f .nilp))))] []) .ret) .skip)) (.seq (.region [(oI 41 (.mov (.t 5))), (oI 4 (.mov (.t 41)))] []) .ret))
def c_fn_30 : AFunc := AFunc.mk 42 2 [(.t 4)] (.seq (.region [(oI 3 (.box (.t 1))), (oI 4 (.mov (.c (.f .nilp))))] []) (.seq (.seq (.region [(oI 7 (.load true 2 (.t 3))), (oI 8 (.call 32 [(.t 7)])), (oI 9 (.un .not (.t 8)))] []) (.cond 9 (.seq (.region [(oI 4 (.mov (.c (.f .nilp))))] []) .ret) .skip)) (.seq (.region [(oI 10 (.mov (.t 0))), (oI 11 (.nilchk (.t 10))), (oI 12 (.fld 0 (.t 11))), (oI 5 (.mov (.t 12)))] []) (.seq (.seq (.region [(oI 6 (.mov (.c (.f (.int .i64 0)))))] []) (.block 0 (.loop 0 [(0, .no), (3, .no), (5, .nod 0), (6, .no)] b_fn_30_0))) r_fn_30_0))))
def tb_fn_30 : Tbl
  | 0 => ([(0, .no), (3, .no), (5, .nod 0), (6, .no)], b_fn_30_0)
  | _ => ([], .skip)
theorem ok_fn_30 : compF Try.prog [8, 9, 10, 14, 16, 17, 18, 20, 21, 30, 33] Try.f30 = some c_fn_30.strip := by kernel_rfl
theorem tk_fn_30 : TblOk tb_fn_30 c_fn_30.body := ⟨trivial, ⟨⟨trivial, ⟨⟨trivial, trivial⟩, trivial⟩⟩, ⟨trivial, ⟨⟨trivial, ⟨rfl, ⟨⟨trivial, ⟨trivial, trivial⟩⟩, ⟨trivial, trivial⟩⟩⟩⟩, ⟨⟨trivial, ⟨⟨trivial, trivial⟩, trivial⟩⟩, ⟨trivial, trivial⟩⟩⟩⟩⟩⟩
def k_fn_30_0 (Q : (Option Nat) × (List Nd × Int) × (Nat × List Nat) → Prop) : K := (kBlock 0 (kSeq (evC G_fn_30 (Lfp G_fn_30 tb_fn_30) r_fn_30_0) (kDoneX c_fn_30 0 e_fn_30.R Q)))
def s_fn_30_0 (pn : Nat × List Nat) (tr : List Nd) (sz : Int) (p : PrefixT) (v0 : Option Nat) (v1 : Int) : St := ⟨[(0, [], .ptr 0 0), (3, [], .ptr 1 0), (5, [], .ndo 0 v0), (6, [], .f (.int .i64 v1))], [.arena (some pn) tr sz, .box none [.f (.int .u32 p.1), .f (.int .i64 p.2.1)]]⟩
def L_fn_30_0 (pn : Nat × List Nat) (tr : List Nd) (sz : Int) (p : PrefixT) (v0 : Option Nat) (v1 : Int) (Q : (Option Nat) × (List Nd × Int) × (Nat × List Nat) → Prop) : Prop := Lfp G_fn_30 tb_fn_30 0 (s_fn_30_0 pn tr sz p v0 v1) (k_fn_30_0 Q)
theorem in_fn_30 (pn : Nat × List Nat) (tr : List Nd) (sz : Int) (p : PrefixT) (Q : (Option Nat) × (List Nd × Int) × (Nat × List Nat) → Prop) : evX G_fn_30 (Lfp G_fn_30 tb_fn_30) c_fn_30 e_fn_30.A pn (tr, sz) ((), p, ()) e_fn_30.R Q = (
  cond (p_addr_Valid p)
  (cond (!(g_addr_Valid p))
    (Q (none, (tr, sz), pn))
    (L_fn_30_0 pn tr sz p (some 0) 0 Q))
  False) := by kernel_rfl
theorem rd_fn_30_0 (pn : Nat × List Nat) (tr : List Nd) (sz : Int) (p : PrefixT) (v0 : Option Nat) (v1 : Int) (Q : (Option Nat) × (List Nd × Int) × (Nat × List Nat) → Prop) (h :
  cond ((decide (v1 < p.2.1)) && (Option.isSome v0))
  (cond (((p_trie_bit p.1 v1) && (Option.isSome v0)) && ((decide (0 ≤ (g_trie_bit p.1 v1))) && (decide ((g_trie_bit p.1 v1) < 2))))
    (L_fn_30_0 pn tr sz p (Nd.ch (List.getD tr (Option.getD v0 0) Nd.z) (g_trie_bit p.1 v1)) (IntKind.wrap .i64 (v1 + 1)) Q)
    False)
  (cond ((Option.isSome v0) || (!(((Option.isNone v0) == false) && true)))
    (cond ((Option.isNone v0) || (!(List.getD tr (Option.getD v0 0) Nd.z).has))
      (Q (none, (tr, sz), pn))
      (Q (v0, (tr, sz), pn)))
    False)) : L_fn_30_0 pn tr sz p v0 v1 Q := Lfp.step (Eq.mpr (by kernel_rfl) h)
theorem lp_fn_30_0 (pn : Nat × List Nat) (tr : List Nd) (sz : Int) (p : PrefixT) (v00 : Option Nat) (v10 : Int) (Q : (Option Nat) × (List Nd × Int) × (Nat × List Nat) → Prop) (ha : AWf (tr, sz)) (hw : VXs.wf e_fn_30.A ((), p, ()))  (hI0 : FndI 0 (v00, v10)) (g0 : (!(g_addr_Valid p)) = false) : (fun y : Option Nat => Q (y, (tr, sz), pn)) (S_fn_30_0 tr sz p v00 v10) → L_fn_30_0 pn tr sz p v00 v10 Q := by
  have _ := hw
  have _ := g0
  let FF := (fun y : Option Nat => Q (y, (tr, sz), pn))
  refine upF_loop (F := FF) (n := 33) (I := FndI) (L := (fun (s0 : (Option Nat) × Int) => L_fn_30_0 pn tr sz p s0.1 s0.2 Q)) (fun s0 hI => (by have := hI.2; omega)) (Nat.zero_le _) (fun c0 _ hc0 next0 hn0 s0 hI hF => rd_fn_30_0 pn tr sz p s0.1 s0.2 Q ((cond_f (F := FF) (fun h1 => (vc_f (F := FF) (by exact fnd_v1 (vlen_of g0) hI (by assumption)) (hn0 _ (by exact fnd_p (vlen_of g0) hI (by assumption))))) (fun h1 => (vc_f (F := FF) (by exact fnd_v3 _) (cond_f (F := FF) (fun h2 => id) (fun h2 => id))))) hF)) (v00, v10) hI0
theorem ct_fn_30 (pn : Nat × List Nat) (tr : List Nd) (sz : Int) (p : PrefixT) (ha : AWf (tr, sz)) (hw : VXs.wf e_fn_30.A ((), p, ())) (Q : (Option Nat) × (List Nd × Int) × (Nat × List Nat) → Prop) (hq : Q (e_fn_30.g (tr, sz) ((), p, ()), e_fn_30.h (tr, sz) ((), p, ()), pn)) : EvX G_fn_30 tb_fn_30 c_fn_30 e_fn_30.A pn (tr, sz) ((), p, ()) e_fn_30.R Q := by
  have _ := hw
  let FF := (fun y : Option Nat => Q (y, (tr, sz), pn))
  refine EvX.of (in_fn_30 pn tr sz p Q) ?_
  exact (vc_f (F := FF) (by exact pvalid _) (cond_f (F := FF) (fun h0 => id) (fun h0 => (lp_fn_30_0 pn tr sz p _ _ Q ha hw (by exact ⟨rfl, Nat.zero_le _⟩) h0)))) hq
/-! (*netverify/trie.Table).Get -/
def G_fn_10 : Env := ⟨[], [e_fn_30.rent]⟩
def c_fn_10 : AFunc := AFunc.mk 16 2 [(.t 4), (.t 5)] (.seq (.region [(oI 3 (.box (.t 1))), (oI 4 (.mov (.c (.f (.int .i64 0))))), (oI 5 (.mov (.c (.f (.bool false)))))] []) (.seq (.region [(oI 7 (.mov (.t 0))), (oI 8 (.load true 2 (.t 3))), (oI 9 (.callm 30 [(.t 7), (.t 8)])), (oI 6 (.mov (.t 9)))] []) (.seq (.seq (.region [(oI 10 (.mov (.t 6))), (oI 11 (.nilpq false (.t 10)))] []) (.cond 11 (.seq (.region [(oI 4 (.mov (.c (.f (.int .i64 0))))), (oI 5 (.mov (.c (.f (.bool false)))))] []) .ret) .skip)) (.seq (.region [(oI 12 (.mov (.t 6))), (oI 13 (.nilchk (.t 12))), (oI 14 (.fld 3 (.t 13))), (oI 15 (.load false 1 (.t 14))), (oI 4 (.mov (.t 15))), (oI 5 (.mov (.c (.f (.bool true)))))] []) .ret))))
def tb_fn_10 : Tbl := fun _ => ([], .skip)
theorem ok_fn_10 : compF Try.prog [8, 9, 10, 14, 16, 17, 18, 20, 21, 30, 33] Try.f10 = some c_fn_10.strip := by kernel_rfl
theorem tk_fn_10 : TblOk tb_fn_10 c_fn_10.body := ⟨trivial, ⟨trivial, ⟨⟨trivial, ⟨⟨trivial, trivial⟩, trivial⟩⟩, ⟨trivial, trivial⟩⟩⟩⟩
theorem in_fn_10 (pn : Nat × List Nat) (tr : List Nd) (sz : Int) (p : PrefixT) (Q : (Int × Bool × Unit) × (List Nd × Int) × (Nat × List Nat) → Prop) : evX G_fn_10 (Lfp G_fn_10 tb_fn_10) c_fn_10 e_fn_10.A pn (tr, sz) ((), p, ()) e_fn_10.R Q = (
  cond (Option.isNone (g_fn_30 tr sz p))
  (Q ((0, false, ()), (tr, sz), pn))
  (cond (Option.isSome (g_fn_30 tr sz p))
    (Q (((List.getD tr (Option.getD (g_fn_30 tr sz p) 0) Nd.z).val, true, ()), (tr, sz), pn))
    False)) := by kernel_rfl
theorem ct_fn_10 (pn : Nat × List Nat) (tr : List Nd) (sz : Int) (p : PrefixT) (ha : AWf (tr, sz)) (hw : VXs.wf e_fn_10.A ((), p, ())) (Q : (Int × Bool × Unit) × (List Nd × Int) × (Nat × List Nat) → Prop) (hq : Q (e_fn_10.g (tr, sz) ((), p, ()), e_fn_10.h (tr, sz) ((), p, ()), pn)) : EvX G_fn_10 tb_fn_10 c_fn_10 e_fn_10.A pn (tr, sz) ((), p, ()) e_fn_10.R Q := by
  have _ := hw
  let FF := (fun y : Int × Bool × Unit => Q (y, (tr, sz), pn))
  refine EvX.of (in_fn_10 pn tr sz p Q) ?_
  exact (cond_f (F := FF) (fun h0 => id) (fun h0 => (vc_f (F := FF) (by first | ((exact some_of (by assumption)); done) | ((repeat' (first | rfl | exact nn_d64 _ | refine and_t ?_ ?_ | refine or_l ?_)); done) | (simp [-List.getD_eq_getElem?_getD, nn_u64, nn_u32]; done) | (simp [-List.getD_eq_getElem?_getD, nn_u64, nn_u32, h0]; done) | (have hry : roomy = 1048576 := rfl; simp [-List.getD_eq_getElem?_getD, okIx, okSlc, okApp, len_slcL, len_segL] at h0 ⊢ <;> omega)) /- 1 -/ id))) hq
/-! netverify/netverifyref4.Mask -/
def G_r4_Mask : Env := ⟨[], []⟩
def b_r4_Mask_0 : ACode := (.seq (.seq (.region [(oI 5 (.mov (.t 4))), (oI 6 (.bin .lss (.t 5) (.c (.f (.int .i64 32)))))] []) (.cond 6 .skip (.exit 0))) (.seq (.block 1 (.seq (.region [(oI 9 (.mov (.t 4))), (oI 10 (.mov (.t 0))), (oI 11 (.bin .lss (.t 9) (.t 10)))] []) (.cond 11 (.region [(oI 12 (.mov (.t 3))), (oI 13 (.mov (.t 4))), (oI 14 (.bin .sub (.c (.f (.int .i64 31))) (.t 13))), (oI 15 (.conv .u64 (.t 14))), (oI 16 (.bin .shl (.c (.f (.int .u32 1))) (.t 15))), (oI 17 (.bin .or (.t 12) (.t 16))), (oI 3 (.mov (.t 17)))] []) .skip))) (.region [(oI 7 (.mov (.t 4))), (oI 8 (.bin .add (.t 7) (.c (.f (.int .i64 1))))), (oI 4 (.mov (.t 8)))] [])))
def r_r4_Mask_0 : ACode := (.seq (.region [(oI 18 (.mov (.t 3))), (oI 2 (.mov (.t 18)))] []) .ret)
def c_r4_Mask : AFunc := AFunc.mk 19 1 [(.t 2)] (.seq (.region [(oI 2 (.mov (.c (.f (.int .u32 0)))))] []) (.seq (.region [(oI 3 (.mov (.c (.f (.int .u32 0)))))] []) (.seq (.seq (.region [(oI 4 (.mov (.c (.f (.int .i64 0)))))] []) (.block 0 (.loop 0 [(0, .no), (3, .no), (4, .no)] b_r4_Mask_0))) r_r4_Mask_0)))
def tb_r4_Mask : Tbl
  | 0 => ([(0, .no), (3, .no), (4, .no)], b_r4_Mask_0)
  | _ => ([], .skip)
theorem ok_r4_Mask : compF Try.prog [8, 9, 10, 14, 16, 17, 18, 20, 21, 30, 33] Try.f31 = some c_r4_Mask.strip := by kernel_rfl
theorem tk_r4_Mask : TblOk tb_r4_Mask c_r4_Mask.body := ⟨trivial, ⟨trivial, ⟨⟨trivial, ⟨rfl, ⟨⟨trivial, ⟨trivial, trivial⟩⟩, ⟨⟨trivial, ⟨trivial, trivial⟩⟩, trivial⟩⟩⟩⟩, ⟨trivial, trivial⟩⟩⟩⟩
def k_r4_Mask_0 (Q : Int × Unit → Prop) : K := (kBlock 0 (kSeq (evC G_r4_Mask (Lfp G_r4_Mask tb_r4_Mask) r_r4_Mask_0) (kDone c_r4_Mask (dq e_r4_Mask.R Q))))
def s_r4_Mask_0 (n : Int) (v0 : Int) (v1 : Int) : St := ⟨[(0, [], .f (.int .i64 n)), (3, [], .f (.int .u32 v0)), (4, [], .f (.int .i64 v1))], []⟩
def L_r4_Mask_0 (n : Int) (v0 : Int) (v1 : Int) (Q : Int × Unit → Prop) : Prop := Lfp G_r4_Mask tb_r4_Mask 0 (s_r4_Mask_0 n v0 v1) (k_r4_Mask_0 Q)
theorem in_r4_Mask (n : Int) (Q : Int × Unit → Prop) : evF G_r4_Mask (Lfp G_r4_Mask tb_r4_Mask) c_r4_Mask (VSs.enc e_r4_Mask.A (n, ())) (dq e_r4_Mask.R Q) = (
  L_r4_Mask_0 n 0 0 Q) := by kernel_rfl
theorem rd_r4_Mask_0 (n : Int) (v0 : Int) (v1 : Int) (Q : Int × Unit → Prop) (h :
  cond (decide (v1 < 32))
  (cond (decide (v1 < n))
    (cond (decide (0 ≤ (IntKind.wrap .u64 (IntKind.wrap .i64 (31 - v1)))))
      (L_r4_Mask_0 n (ior .u32 v0 (ishl .u32 1 (IntKind.wrap .u64 (IntKind.wrap .i64 (31 - v1))))) (IntKind.wrap .i64 (v1 + 1)) Q)
      False)
    (L_r4_Mask_0 n v0 (IntKind.wrap .i64 (v1 + 1)) Q))
  (Q (v0, ()))) : L_r4_Mask_0 n v0 v1 Q := Lfp.step (Eq.mpr (by kernel_rfl) h)
theorem lp_r4_Mask_0 (n : Int) (v00 : Int) (Q : Int × Unit → Prop) (hw : VSs.wf e_r4_Mask.A (n, ()))  : (fun y : Int => Q (y, ())) (S_r4_Mask_0 n v00) → L_r4_Mask_0 n v00 0 Q := by
  have _ := hw
  let FF := (fun y : Int => Q (y, ()))
  refine upS_loop (F := FF) (k := .i64) (n := 32) (I := fun _ _ => True) (L := (fun (c0 : Int) (s0 : Int) => L_r4_Mask_0 n s0 c0 Q)) (wrap_i64n (by decide)) (fun c0 hc0 s0 hI hF => rd_r4_Mask_0 n s0 (c0 : Int) Q (cond_ge (n := 32) rfl hc0 (id hF))) (fun c0 _ hc0 next0 hn0 s0 hI hF => rd_r4_Mask_0 n s0 (c0 : Int) Q (cond_lt (n := 32) rfl hc0 ((cond_f (F := FF) (fun h0 => (vc_f (F := FF) (by first | ((repeat' (first | rfl | exact nn_d64 _ | exact okIx_nat hc0 | refine and_t ?_ ?_ | refine or_l ?_)); done) | (simp [-List.getD_eq_getElem?_getD, okIx_nat hc0, nn_u64, nn_u32]; done) | (simp [-List.getD_eq_getElem?_getD, okIx_nat hc0, nn_u64, nn_u32, h0]; done) | (have hry : roomy = 1048576 := rfl; simp [-List.getD_eq_getElem?_getD, okIx, okSlc, okApp, len_slcL, len_segL] at h0 ⊢ <;> omega)) /- 1 -/ (hn0 _ trivial))) (fun h0 => (hn0 _ trivial))) hF))) v00 trivial
theorem ct_r4_Mask (n : Int) (hw : VSs.wf e_r4_Mask.A (n, ())) (Q : Int × Unit → Prop) (hq : Q (e_r4_Mask.g (n, ()))) : EvF G_r4_Mask tb_r4_Mask c_r4_Mask (VSs.enc e_r4_Mask.A (n, ())) (dq e_r4_Mask.R Q) := by
  have _ := hw
  let FF := (fun y : Int => Q (y, ()))
  refine EvF.of (in_r4_Mask n Q) ?_
  exact (lp_r4_Mask_0 n _ Q hw) hq
/-! netverify/netverifyref4.Contains -/
def G_r4_Contains : Env := ⟨[e_r4_Mask], []⟩
def c_r4_Contains : AFunc := AFunc.mk 13 2 [(.t 4)] (.seq (.region [(oI 2 (.box (.t 0))), (oI 4 (.mov (.c (.f (.bool false)))))] []) (.seq (.region [(oI 5 (.mov (.t 1))), (oI 6 (.fld 1 (.t 2))), (oI 7 (.load false 1 (.t 6))), (oI 8 (.call 31 [(.t 7)])), (oI 9 (.bin .and (.t 5) (.t 8))), (oI 10 (.fld 0 (.t 2))), (oI 11 (.load false 1 (.t 10))), (oI 12 (.bin .eql (.t 9) (.t 11))), (oI 4 (.mov (.t 12)))] []) .ret))
def tb_r4_Contains : Tbl := fun _ => ([], .skip)
theorem ok_r4_Contains : compF Try.prog [8, 9, 10, 14, 16, 17, 18, 20, 21, 30, 33] Try.f11 = some c_r4_Contains.strip := by kernel_rfl
theorem tk_r4_Contains : TblOk tb_r4_Contains c_r4_Contains.body := ⟨trivial, ⟨trivial, trivial⟩⟩
theorem in_r4_Contains (p : PrefixT) (a : Int) (Q : Bool × Unit → Prop) : evF G_r4_Contains (Lfp G_r4_Contains tb_r4_Contains) c_r4_Contains (VSs.enc e_r4_Contains.A (p, a, ())) (dq e_r4_Contains.R Q) = (
  Q (((iand .u32 a (g_r4_Mask p.2.1)) == p.1), ())) := by kernel_rfl
theorem au_r4_Contains (p : PrefixT) (a : Int) (Q : Bool × Unit → Prop) : evF G_r4_Contains (Lfp G_r4_Contains tb_r4_Contains) c_r4_Contains (VSs.enc e_r4_Contains.A (p, a, ())) (dq e_r4_Contains.R Q) = Q (e_r4_Contains.g (p, a, ())) := (in_r4_Contains p a Q).trans rfl
/-! netverify/netverifyref4.Valid -/
def G_r4_Valid : Env := ⟨[e_r4_Mask], []⟩
def c_r4_Valid : AFunc := AFunc.mk 20 1 [(.t 2)] (.seq (.region [(oI 1 (.box (.t 0))), (oI 2 (.mov (.c (.f (.bool false)))))] []) (.seq (.region [(oI 3 (.fld 1 (.t 1))), (oI 4 (.load false 1 (.t 3))), (oI 5 (.bin .geq (.t 4) (.c (.f (.int .i64 0))))), (oI 6 (.mov (.t 5))), (.mk (some 7) (some (6, true)) (.fld 1 (.t 1))), (.mk (some 8) (some (6, true)) (.load false 1 (.t 7))), (.mk (some 9) (some (6, true)) (.bin .leq (.t 8) (.c (.f (.int .i64 32))))), (oI 10 (.pick 6 (.t 9) (.c (.f (.bool false))))), (oI 11 (.mov (.t 10))), (.mk (some 12) (some (11, true)) (.fld 0 (.t 1))), (.mk (some 13) (some (11, true)) (.load false 1 (.t 12))), (.mk (some 14) (some (11, true)) (.fld 1 (.t 1))), (.mk (some 15) (some (11, true)) (.load false 1 (.t 14))), (.mk (some 16) (some (11, true)) (.call 31 [(.t 15)])), (.mk (some 17) (some (11, true)) (.bin .andNot (.t 13) (.t 16))), (.mk (some 18) (some (11, true)) (.bin .eql (.t 17) (.c (.f (.int .u32 0))))), (oI 19 (.pick 11 (.t 18) (.c (.f (.bool false))))), (oI 2 (.mov (.t 19)))] []) .ret))
def tb_r4_Valid : Tbl := fun _ => ([], .skip)
theorem ok_r4_Valid : compF Try.prog [8, 9, 10, 14, 16, 17, 18, 20, 21, 30, 33] Try.f12 = some c_r4_Valid.strip := by kernel_rfl
theorem tk_r4_Valid : TblOk tb_r4_Valid c_r4_Valid.body := ⟨trivial, ⟨trivial, trivial⟩⟩
theorem in_r4_Valid (p : PrefixT) (Q : Bool × Unit → Prop) : evF G_r4_Valid (Lfp G_r4_Valid tb_r4_Valid) c_r4_Valid (VSs.enc e_r4_Valid.A (p, ())) (dq e_r4_Valid.R Q) = (
  Q ((((decide (p.2.1 ≥ 0)) && (decide (p.2.1 ≤ 32))) && ((iandnot .u32 p.1 (g_r4_Mask p.2.1)) == 0)), ())) := by kernel_rfl
theorem au_r4_Valid (p : PrefixT) (Q : Bool × Unit → Prop) : evF G_r4_Valid (Lfp G_r4_Valid tb_r4_Valid) c_r4_Valid (VSs.enc e_r4_Valid.A (p, ())) (dq e_r4_Valid.R Q) = Q (e_r4_Valid.g (p, ())) := (in_r4_Valid p Q).trans rfl
/-! (*netverify/trie.Table).Len -/
def G_fn_20 : Env := ⟨[], []⟩
def c_fn_20 : AFunc := AFunc.mk 7 1 [(.t 2)] (.seq (.region [(oI 2 (.mov (.c (.f (.int .i64 0)))))] []) (.seq (.region [(oI 3 (.mov (.t 0))), (oI 4 (.nilchk (.t 3))), (oI 5 (.fld 4 (.t 4))), (oI 6 (.load false 1 (.t 5))), (oI 2 (.mov (.t 6)))] []) .ret))
def tb_fn_20 : Tbl := fun _ => ([], .skip)
theorem ok_fn_20 : compF Try.prog [8, 9, 10, 14, 16, 17, 18, 20, 21, 30, 33] Try.f20 = some c_fn_20.strip := by kernel_rfl
theorem tk_fn_20 : TblOk tb_fn_20 c_fn_20.body := ⟨trivial, ⟨trivial, trivial⟩⟩
theorem in_fn_20 (pn : Nat × List Nat) (tr : List Nd) (sz : Int) (Q : (Int × Unit) × (List Nd × Int) × (Nat × List Nat) → Prop) : evX G_fn_20 (Lfp G_fn_20 tb_fn_20) c_fn_20 e_fn_20.A pn (tr, sz) ((), ()) e_fn_20.R Q = (
  Q ((sz, ()), (tr, sz), pn)) := by kernel_rfl
theorem au_fn_20 (pn : Nat × List Nat) (tr : List Nd) (sz : Int) (Q : (Int × Unit) × (List Nd × Int) × (Nat × List Nat) → Prop) : evX G_fn_20 (Lfp G_fn_20 tb_fn_20) c_fn_20 e_fn_20.A pn (tr, sz) ((), ()) e_fn_20.R Q = Q (e_fn_20.g (tr, sz) ((), ()), e_fn_20.h (tr, sz) ((), ()), pn) := (in_fn_20 pn tr sz Q).trans rfl
/-! netverify/netverifylaw4.sane -/
def G_law4_sane : Env := ⟨[], [e_fn_9.rent, e_fn_17.ent, e_fn_20.rent, e_trie_New.ent]⟩
def c_law4_sane : AFunc := AFunc.mk 63 0 [(.t 0)] (.seq (.region [(oI 0 (.mov (.c (.f (.bool false)))))] []) (.seq (.region [(oI 8 (.callm 21 [])), (oI 1 (.mov (.t 8)))] []) (.seq (.seq (.region [(oI 9 (.mov (.t 1))), (oI 10 (.nilpq false (.t 9))), (oI 11 (.mov (.t 10))), (.mk (some 12) (some (11, false)) (.mov (.t 1))), (.mk (some 13) (some (11, false)) (.build [(.f (.int .u32 0)), (.f (.int .i64 0))] [])), (.mk (some 14) (some (11, false)) (.callm 17 [(.t 12), (.t 13), (.c (.f (.int .i64 1)))])), (.mk (some 15) (some (11, false)) (.un .not (.t 14))), (oI 16 (.pick 11 (.c (.f (.bool true))) (.t 15))), (oI 17 (.mov (.t 16))), (.mk (some 18) (some (17, false)) (.mov (.t 1))), (.mk (some 19) (some (17, false)) (.build [(.f (.int .u32 0)), (.f (.int .i64 0))] [(0, (1, (.c (.f (.int .u32 167772160))))), (1, (1, (.c (.f (.int .i64 8)))))])), (.mk (some 20) (some (17, false)) (.callm 17 [(.t 18), (.t 19), (.c (.f (.int .i64 2)))])), (.mk (some 21) (some (17, false)) (.un .not (.t 20))), (oI 22 (.pick 17 (.c (.f (.bool true))) (.t 21)))] []) (.cond 22 (.seq (.region [(oI 0 (.mov (.c (.f (.bool false)))))] []) .ret) .skip)) (.seq (.region [(oI 24 (.mov (.t 1))), (oI 25 (.callm 9 [(.t 24), (.c (.f (.int .u32 167838211)))])), (oI 23 (.mov (.t 25))), (oI 26 (.ext 0 (.t 23))), (oI 27 (.ext 1 (.t 23))), (oI 28 (.ext 2 (.t 23))), (oI 2 (.alloc [(.f (.int .u32 0)), (.f (.int .i64 0))])), (.mk none none (.store 2 (.t 2) (.t 26))), (oI 3 (.mov (.t 27))), (oI 4 (.mov (.t 28)))] []) (.seq (.region [(oI 30 (.mov (.t 1))), (oI 31 (.callm 9 [(.t 30), (.c (.f (.int .u32 1)))])), (oI 29 (.mov (.t 31))), (oI 32 (.ext 0 (.t 29))), (oI 33 (.ext 1 (.t 29))), (oI 34 (.ext 2 (.t 29))), (oI 5 (.alloc [(.f (.int .u32 0)), (.f (.int .i64 0))])), (.mk none none (.store 2 (.t 5) (.t 32))), (oI 6 (.mov (.t 33))), (oI 7 (.mov (.t 34)))] []) (.seq (.region [(oI 35 (.mov (.t 4))), (oI 36 (.mov (.t 35))), (.mk (some 37) (some (36, true)) (.fld 1 (.t 2))), (.mk (some 38) (some (36, true)) (.load false 1 (.t 37))), (.mk (some 39) (some (36, true)) (.bin .eql (.t 38) (.c (.f (.int .i64 8))))), (oI 40 (.pick 36 (.t 39) (.c (.f (.bool false))))), (oI 41 (.mov (.t 40))), (.mk (some 42) (some (41, true)) (.mov (.t 3))), (.mk (some 43) (some (41, true)) (.bin .eql (.t 42) (.c (.f (.int .i64 2))))), (oI 44 (.pick 41 (.t 43) (.c (.f (.bool false))))), (oI 45 (.mov (.t 44))), (.mk (some 46) (some (45, true)) (.mov (.t 7))), (oI 47 (.pick 45 (.t 46) (.c (.f (.bool false))))), (oI 48 (.mov (.t 47))), (.mk (some 49) (some (48, true)) (.mov (.t 6))), (.mk (some 50) (some (48, true)) (.bin .eql (.t 49) (.c (.f (.int .i64 1))))), (oI 51 (.pick 48 (.t 50) (.c (.f (.bool false))))), (oI 52 (.mov (.t 51))), (.mk (some 53) (some (52, true)) (.mov (.t 1))), (.mk (some 54) (some (52, true)) (.callm 20 [(.t 53)])), (.mk (some 55) (some (52, true)) (.bin .eql (.t 54) (.c (.f (.int .i64 2))))), (oI 56 (.pick 52 (.t 55) (.c (.f (.bool false))))), (oI 57 (.mov (.t 56))), (.mk (some 58) (some (57, true)) (.mov (.t 1))), (.mk (some 59) (some (57, true)) (.build [(.f (.int .u32 0)), (.f (.int .i64 0))] [(0, (1, (.c (.f (.int .u32 1)))))])), (.mk (some 60) (some (57, true)) (.callm 17 [(.t 58), (.t 59), (.c (.f (.int .i64 3)))])), (.mk (some 61) (some (57, true)) (.un .not (.t 60))), (oI 62 (.pick 57 (.t 61) (.c (.f (.bool false))))), (oI 0 (.mov (.t 62)))] []) .ret))))))
def tb_law4_sane : Tbl := fun _ => ([], .skip)
theorem ok_law4_sane : compF Try.prog [8, 9, 10, 14, 16, 17, 18, 20, 21, 30, 33] Try.f13 = some c_law4_sane.strip := by kernel_rfl
theorem tk_law4_sane : TblOk tb_law4_sane c_law4_sane.body := ⟨trivial, ⟨trivial, ⟨⟨trivial, ⟨⟨trivial, trivial⟩, trivial⟩⟩, ⟨trivial, ⟨trivial, ⟨trivial, trivial⟩⟩⟩⟩⟩⟩
theorem in_law4_sane (Q : Bool × Unit → Prop) : evF G_law4_sane (Lfp G_law4_sane tb_law4_sane) c_law4_sane (VSs.enc e_law4_sane.A (())) (dq e_law4_sane.R Q) = (
  cond ((!(g_fn_17 g_trie_New.1 g_trie_New.2 (0, 0, ()) 1).1) || (!(g_fn_17 (g_fn_17 g_trie_New.1 g_trie_New.2 (0, 0, ()) 1).2.1 (g_fn_17 g_trie_New.1 g_trie_New.2 (0, 0, ()) 1).2.2 (167772160, 8, ()) 2).1))
  (Q (false, ()))
  (Q ((((((((g_fn_9 (cond (((!(g_fn_17 g_trie_New.1 g_trie_New.2 (0, 0, ()) 1).1) == false) && true) (g_fn_17 (g_fn_17 g_trie_New.1 g_trie_New.2 (0, 0, ()) 1).2.1 (g_fn_17 g_trie_New.1 g_trie_New.2 (0, 0, ()) 1).2.2 (167772160, 8, ()) 2).2.1 (g_fn_17 g_trie_New.1 g_trie_New.2 (0, 0, ()) 1).2.1) (cond (((!(g_fn_17 g_trie_New.1 g_trie_New.2 (0, 0, ()) 1).1) == false) && true) (g_fn_17 (g_fn_17 g_trie_New.1 g_trie_New.2 (0, 0, ()) 1).2.1 (g_fn_17 g_trie_New.1 g_trie_New.2 (0, 0, ()) 1).2.2 (167772160, 8, ()) 2).2.2 (g_fn_17 g_trie_New.1 g_trie_New.2 (0, 0, ()) 1).2.2) 167838211).2.2.1 && ((g_fn_9 (cond (((!(g_fn_17 g_trie_New.1 g_trie_New.2 (0, 0, ()) 1).1) == false) && true) (g_fn_17 (g_fn_17 g_trie_New.1 g_trie_New.2 (0, 0, ()) 1).2.1 (g_fn_17 g_trie_New.1 g_trie_New.2 (0, 0, ()) 1).2.2 (167772160, 8, ()) 2).2.1 (g_fn_17 g_trie_New.1 g_trie_New.2 (0, 0, ()) 1).2.1) (cond (((!(g_fn_17 g_trie_New.1 g_trie_New.2 (0, 0, ()) 1).1) == false) && true) (g_fn_17 (g_fn_17 g_trie_New.1 g_trie_New.2 (0, 0, ()) 1).2.1 (g_fn_17 g_trie_New.1 g_trie_New.2 (0, 0, ()) 1).2.2 (167772160, 8, ()) 2).2.2 (g_fn_17 g_trie_New.1 g_trie_New.2 (0, 0, ()) 1).2.2) 167838211).1.2.1 == 8)) && ((g_fn_9 (cond (((!(g_fn_17 g_trie_New.1 g_trie_New.2 (0, 0, ()) 1).1) == false) && true) (g_fn_17 (g_fn_17 g_trie_New.1 g_trie_New.2 (0, 0, ()) 1).2.1 (g_fn_17 g_trie_New.1 g_trie_New.2 (0, 0, ()) 1).2.2 (167772160, 8, ()) 2).2.1 (g_fn_17 g_trie_New.1 g_trie_New.2 (0, 0, ()) 1).2.1) (cond (((!(g_fn_17 g_trie_New.1 g_trie_New.2 (0, 0, ()) 1).1) == false) && true) (g_fn_17 (g_fn_17 g_trie_New.1 g_trie_New.2 (0, 0, ()) 1).2.1 (g_fn_17 g_trie_New.1 g_trie_New.2 (0, 0, ()) 1).2.2 (167772160, 8, ()) 2).2.2 (g_fn_17 g_trie_New.1 g_trie_New.2 (0, 0, ()) 1).2.2) 167838211).2.1 == 2)) && (g_fn_9 (cond (((!(g_fn_17 g_trie_New.1 g_trie_New.2 (0, 0, ()) 1).1) == false) && true) (g_fn_17 (g_fn_17 g_trie_New.1 g_trie_New.2 (0, 0, ()) 1).2.1 (g_fn_17 g_trie_New.1 g_trie_New.2 (0, 0, ()) 1).2.2 (167772160, 8, ()) 2).2.1 (g_fn_17 g_trie_New.1 g_trie_New.2 (0, 0, ()) 1).2.1) (cond (((!(g_fn_17 g_trie_New.1 g_trie_New.2 (0, 0, ()) 1).1) == false) && true) (g_fn_17 (g_fn_17 g_trie_New.1 g_trie_New.2 (0, 0, ()) 1).2.1 (g_fn_17 g_trie_New.1 g_trie_New.2 (0, 0, ()) 1).2.2 (167772160, 8, ()) 2).2.2 (g_fn_17 g_trie_New.1 g_trie_New.2 (0, 0, ()) 1).2.2) 1).2.2.1) && ((g_fn_9 (cond (((!(g_fn_17 g_trie_New.1 g_trie_New.2 (0, 0, ()) 1).1) == false) && true) (g_fn_17 (g_fn_17 g_trie_New.1 g_trie_New.2 (0, 0, ()) 1).2.1 (g_fn_17 g_trie_New.1 g_trie_New.2 (0, 0, ()) 1).2.2 (167772160, 8, ()) 2).2.1 (g_fn_17 g_trie_New.1 g_trie_New.2 (0, 0, ()) 1).2.1) (cond (((!(g_fn_17 g_trie_New.1 g_trie_New.2 (0, 0, ()) 1).1) == false) && true) (g_fn_17 (g_fn_17 g_trie_New.1 g_trie_New.2 (0, 0, ()) 1).2.1 (g_fn_17 g_trie_New.1 g_trie_New.2 (0, 0, ()) 1).2.2 (167772160, 8, ()) 2).2.2 (g_fn_17 g_trie_New.1 g_trie_New.2 (0, 0, ()) 1).2.2) 1).2.1 == 1)) && ((g_fn_20 (cond (((!(g_fn_17 g_trie_New.1 g_trie_New.2 (0, 0, ()) 1).1) == false) && true) (g_fn_17 (g_fn_17 g_trie_New.1 g_trie_New.2 (0, 0, ()) 1).2.1 (g_fn_17 g_trie_New.1 g_trie_New.2 (0, 0, ()) 1).2.2 (167772160, 8, ()) 2).2.1 (g_fn_17 g_trie_New.1 g_trie_New.2 (0, 0, ()) 1).2.1) (cond (((!(g_fn_17 g_trie_New.1 g_trie_New.2 (0, 0, ()) 1).1) == false) && true) (g_fn_17 (g_fn_17 g_trie_New.1 g_trie_New.2 (0, 0, ()) 1).2.1 (g_fn_17 g_trie_New.1 g_trie_New.2 (0, 0, ()) 1).2.2 (167772160, 8, ()) 2).2.2 (g_fn_17 g_trie_New.1 g_trie_New.2 (0, 0, ()) 1).2.2)) == 2)) && (!(g_fn_17 (cond (((!(g_fn_17 g_trie_New.1 g_trie_New.2 (0, 0, ()) 1).1) == false) && true) (g_fn_17 (g_fn_17 g_trie_New.1 g_trie_New.2 (0, 0, ()) 1).2.1 (g_fn_17 g_trie_New.1 g_trie_New.2 (0, 0, ()) 1).2.2 (167772160, 8, ()) 2).2.1 (g_fn_17 g_trie_New.1 g_trie_New.2 (0, 0, ()) 1).2.1) (cond (((!(g_fn_17 g_trie_New.1 g_trie_New.2 (0, 0, ()) 1).1) == false) && true) (g_fn_17 (g_fn_17 g_trie_New.1 g_trie_New.2 (0, 0, ()) 1).2.1 (g_fn_17 g_trie_New.1 g_trie_New.2 (0, 0, ()) 1).2.2 (167772160, 8, ()) 2).2.2 (g_fn_17 g_trie_New.1 g_trie_New.2 (0, 0, ()) 1).2.2) (1, 0, ()) 3).1)), ()))) := by kernel_rfl
theorem au_law4_sane (Q : Bool × Unit → Prop) : evF G_law4_sane (Lfp G_law4_sane tb_law4_sane) c_law4_sane (VSs.enc e_law4_sane.A (())) (dq e_law4_sane.R Q) = Q (e_law4_sane.g (())) := (in_law4_sane  Q).trans (cond_q (F := fun y : Bool => Q (y, ())) rfl rfl)
end Go.Proofs.Ythjhlpbiljpccaa
