/-
  The codes and their equations.
-/
import Derived.Test.YtokhlhnibpakiaaAmG
import Derived.Test.YtokhlhnibpakiaaProg
import Derived.KernelRfl
namespace Go.Proofs.Ytokhlhnibpakiaa
open Go Go.AM
set_option maxRecDepth 100000
/-! netverify/netverifyref4.letter -/
def G_r4_letter : Env := ⟨[], []⟩
def c_r4_letter : AFunc := AFunc.mk 17 1 [(.t 2)] (.seq (.region [(oI 2 (.mov (.c (.f (.bool false)))))] []) (.seq (.region [(oI 3 (.mov (.t 0))), (oI 4 (.bin .geq (.t 3) (.c (.f (.int .u8 97))))), (oI 5 (.mov (.t 4))), (.mk (some 6) (some (5, true)) (.mov (.t 0))), (.mk (some 7) (some (5, true)) (.bin .leq (.t 6) (.c (.f (.int .u8 122))))), (oI 8 (.pick 5 (.t 7) (.c (.f (.bool false))))), (oI 9 (.mov (.t 8))), (.mk (some 10) (some (9, false)) (.mov (.t 0))), (.mk (some 11) (some (9, false)) (.bin .geq (.t 10) (.c (.f (.int .u8 65))))), (.mk (some 12) (some (9, false)) (.mov (.t 11))), (.mk (some 13) (some (12, true)) (.mov (.t 0))), (.mk (some 14) (some (12, true)) (.bin .leq (.t 13) (.c (.f (.int .u8 90))))), (.mk (some 15) (some (9, false)) (.pick 12 (.t 14) (.c (.f (.bool false))))), (oI 16 (.pick 9 (.c (.f (.bool true))) (.t 15))), (oI 2 (.mov (.t 16)))] []) .ret))
def tb_r4_letter : Tbl := fun _ => ([], .skip)
theorem ok_r4_letter : compF Try.prog [24, 26, 28, 68, 101] Try.f70 = some c_r4_letter.strip := by kernel_rfl
theorem tk_r4_letter : TblOk tb_r4_letter c_r4_letter.body := ⟨trivial, ⟨trivial, trivial⟩⟩
theorem in_r4_letter (c : Int) (Q : Bool × Unit → Prop) : evF G_r4_letter (Lfp G_r4_letter tb_r4_letter) c_r4_letter (VSs.enc e_r4_letter.A (c, ())) (dq e_r4_letter.R Q) = (
  Q ((((decide (c ≥ 97)) && (decide (c ≤ 122))) || ((decide (c ≥ 65)) && (decide (c ≤ 90)))), ())) := by kernel_rfl
theorem au_r4_letter (c : Int) (Q : Bool × Unit → Prop) : evF G_r4_letter (Lfp G_r4_letter tb_r4_letter) c_r4_letter (VSs.enc e_r4_letter.A (c, ())) (dq e_r4_letter.R Q) = Q (e_r4_letter.g (c, ())) := (in_r4_letter c Q).trans rfl
/-! netverify/netverifyref4.Name -/
def G_r4_Name : Env := ⟨[e_r4_letter], []⟩
def b_r4_Name_0 : ACode := (.seq (.seq (.region [(oI 19 (.mov (.t 3))), (oI 20 (.mov (.t 0))), (oI 21 (.lens (.t 20))), (oI 22 (.bin .lss (.t 19) (.t 21)))] []) (.cond 22 .skip (.exit 0))) (.seq (.block 1 (.seq (.region [(oI 25 (.mov (.t 0))), (oI 26 (.mov (.t 3))), (oI 27 (.ixs (.t 25) (.t 26))), (oI 4 (.mov (.t 27)))] []) (.seq (.region [(oI 28 (.mov (.t 4))), (oI 29 (.call 70 [(.t 28)])), (oI 30 (.un .not (.t 29))), (oI 31 (.mov (.t 30))), (.mk (some 32) (some (31, true)) (.mov (.t 4))), (.mk (some 33) (some (31, true)) (.bin .geq (.t 32) (.c (.f (.int .u8 48))))), (.mk (some 34) (some (31, true)) (.mov (.t 33))), (.mk (some 35) (some (34, true)) (.mov (.t 4))), (.mk (some 36) (some (34, true)) (.bin .leq (.t 35) (.c (.f (.int .u8 57))))), (.mk (some 37) (some (31, true)) (.pick 34 (.t 36) (.c (.f (.bool false))))), (.mk (some 38) (some (31, true)) (.un .not (.t 37))), (oI 39 (.pick 31 (.t 38) (.c (.f (.bool false))))), (oI 40 (.mov (.t 39))), (.mk (some 41) (some (40, true)) (.mov (.t 4))), (.mk (some 42) (some (40, true)) (.bin .neq (.t 41) (.c (.f (.int .u8 45))))), (oI 43 (.pick 40 (.t 42) (.c (.f (.bool false))))), (oI 44 (.mov (.t 43))), (.mk (some 45) (some (44, true)) (.mov (.t 4))), (.mk (some 46) (some (44, true)) (.bin .neq (.t 45) (.c (.f (.int .u8 95))))), (oI 47 (.pick 44 (.t 46) (.c (.f (.bool false))))), (oI 48 (.mov (.t 47))), (.mk (some 49) (some (48, true)) (.mov (.t 4))), (.mk (some 50) (some (48, true)) (.bin .neq (.t 49) (.c (.f (.int .u8 47))))), (oI 51 (.pick 48 (.t 50) (.c (.f (.bool false))))), (oI 52 (.mov (.t 51))), (.mk (some 53) (some (52, true)) (.mov (.t 4))), (.mk (some 54) (some (52, true)) (.bin .neq (.t 53) (.c (.f (.int .u8 46))))), (oI 55 (.pick 52 (.t 54) (.c (.f (.bool false)))))] []) (.cond 55 (.seq (.region [(oI 2 (.mov (.c (.f (.bool false)))))] []) .ret) .skip)))) (.region [(oI 23 (.mov (.t 3))), (oI 24 (.bin .add (.t 23) (.c (.f (.int .i64 1))))), (oI 3 (.mov (.t 24)))] [])))
def r_r4_Name_0 : ACode := (.seq (.region [(oI 2 (.mov (.c (.f (.bool true)))))] []) .ret)
def c_r4_Name : AFunc := AFunc.mk 56 1 [(.t 2)] (.seq (.region [(oI 2 (.mov (.c (.f (.bool false)))))] []) (.seq (.seq (.region [(oI 5 (.mov (.t 0))), (oI 6 (.lens (.t 5))), (oI 7 (.bin .lss (.t 6) (.c (.f (.int .i64 1))))), (oI 8 (.mov (.t 7))), (.mk (some 9) (some (8, false)) (.mov (.t 0))), (.mk (some 10) (some (8, false)) (.lens (.t 9))), (.mk (some 11) (some (8, false)) (.bin .gtr (.t 10) (.c (.f (.int .i64 15))))), (oI 12 (.pick 8 (.c (.f (.bool true))) (.t 11))), (oI 13 (.mov (.t 12))), (.mk (some 14) (some (13, false)) (.mov (.t 0))), (.mk (some 15) (some (13, false)) (.ixs (.t 14) (.c (.f (.int .i64 0))))), (.mk (some 16) (some (13, false)) (.call 70 [(.t 15)])), (.mk (some 17) (some (13, false)) (.un .not (.t 16))), (oI 18 (.pick 13 (.c (.f (.bool true))) (.t 17)))] []) (.cond 18 (.seq (.region [(oI 2 (.mov (.c (.f (.bool false)))))] []) .ret) .skip)) (.seq (.seq (.region [(oI 3 (.mov (.c (.f (.int .i64 1)))))] []) (.block 0 (.loop 0 [(0, .no), (3, .no)] b_r4_Name_0))) r_r4_Name_0)))
def tb_r4_Name : Tbl
  | 0 => ([(0, .no), (3, .no)], b_r4_Name_0)
  | _ => ([], .skip)
theorem ok_r4_Name : compF Try.prog [24, 26, 28, 68, 101] Try.f39 = some c_r4_Name.strip := by kernel_rfl
theorem tk_r4_Name : TblOk tb_r4_Name c_r4_Name.body := by repeat' first | exact trivial | rfl | refine ⟨?_, ?_⟩
def k_r4_Name_0 (Q : Bool × Unit → Prop) : K := (kBlock 0 (kSeq (evC G_r4_Name (Lfp G_r4_Name tb_r4_Name) r_r4_Name_0) (kDone c_r4_Name (dq e_r4_Name.R Q))))
def s_r4_Name_0 (s : List UInt8) (v0 : Int) : St := ⟨[(0, [], .f (.str s)), (3, [], .f (.int .i64 v0))], []⟩
def L_r4_Name_0 (s : List UInt8) (v0 : Int) (Q : Bool × Unit → Prop) : Prop := Lfp G_r4_Name tb_r4_Name 0 (s_r4_Name_0 s v0) (k_r4_Name_0 Q)
theorem in_r4_Name (s : List UInt8) (Q : Bool × Unit → Prop) : evF G_r4_Name (Lfp G_r4_Name tb_r4_Name) c_r4_Name (VSs.enc e_r4_Name.A (s, ())) (dq e_r4_Name.R Q) = (
  cond (((okIx 0 (s.length : Int)) || (!((((decide ((s.length : Int) < 1)) || (decide ((s.length : Int) > 15))) == false) && true))) && true)
  (cond (((decide ((s.length : Int) < 1)) || (decide ((s.length : Int) > 15))) || (!(g_r4_letter (byteAt s 0))))
    (Q (false, ()))
    (L_r4_Name_0 s 1 Q))
  False) := by kernel_rfl
theorem rd_r4_Name_0 (s : List UInt8) (v0 : Int) (Q : Bool × Unit → Prop) (h :
  cond (decide (v0 < (s.length : Int)))
  (cond (okIx v0 (s.length : Int))
    (cond ((((((!(g_r4_letter (byteAt s v0))) && (!((decide ((byteAt s v0) ≥ 48)) && (decide ((byteAt s v0) ≤ 57))))) && ((byteAt s v0) != 45)) && ((byteAt s v0) != 95)) && ((byteAt s v0) != 47)) && ((byteAt s v0) != 46))
      (Q (false, ()))
      (L_r4_Name_0 s (IntKind.wrap .i64 (v0 + 1)) Q))
    False)
  (Q (true, ()))) : L_r4_Name_0 s v0 Q := Lfp.step (Eq.mpr (by kernel_rfl) h)
theorem lp_r4_Name_0 (s : List UInt8) (Q : Bool × Unit → Prop) (hw : VSs.wf e_r4_Name.A (s, ()))  (g0 : (((decide ((s.length : Int) < 1)) || (decide ((s.length : Int) > 15))) || (!(g_r4_letter (byteAt s 0)))) = false) : (fun y : Bool => Q (y, ())) (S_r4_Name_0 s) → L_r4_Name_0 s 1 Q := by
  let FF := (fun y : Bool => Q (y, ()))
  refine upV_loop (F := FF) (k := .i64) (n := s.length) (L := (fun c0 : Int => L_r4_Name_0 s c0 Q)) (wrap_i64n (show _ ≤ _ from (hw.1))) (fun c0 hc0 hF => rd_r4_Name_0 s (c0 : Int) Q (cond_ge (n := s.length) rfl hc0 (id hF))) (fun c0 _ hc0 next0 hn0 hF => rd_r4_Name_0 s (c0 : Int) Q (cond_lt (n := s.length) rfl hc0 ((vc_f (F := FF) (by (repeat' (first | rfl | exact nn_d64 _ | exact okIx_nat hc0 | refine and_t ?_ ?_ | refine or_l ?_)); done) (cond_f (F := FF) (fun h1 => id) (fun h1 => hn0))) hF)))
theorem ct_r4_Name (s : List UInt8) (hw : VSs.wf e_r4_Name.A (s, ())) (Q : Bool × Unit → Prop) (hq : Q (e_r4_Name.g (s, ()))) : EvF G_r4_Name tb_r4_Name c_r4_Name (VSs.enc e_r4_Name.A (s, ())) (dq e_r4_Name.R Q) := by
  have _ := hw
  let FF := (fun y : Bool => Q (y, ()))
  refine EvF.of (in_r4_Name s Q) ?_
  exact (vc_f (F := FF) (by have hry : roomy = 1048576 := rfl; simp [-List.getD_eq_getElem?_getD, okIx, okSlc, okApp, len_slcL, len_segL] <;> omega) (cond_f (F := FF) (fun h0 => id) (fun h0 => (lp_r4_Name_0 s Q hw h0)))) hq
/-! netverify/netverifyref8.within -/
def G_r8_within : Env := ⟨[], []⟩
def c_r8_within : AFunc := AFunc.mk 15 3 [(.t 6)] (.seq (.region [(oI 6 (.mov (.c (.f (.bool false)))))] []) (.seq (.region [(oI 7 (.mov (.t 1))), (oI 8 (.mov (.t 0))), (oI 9 (.bin .leq (.t 7) (.t 8))), (oI 10 (.mov (.t 9))), (.mk (some 11) (some (10, true)) (.mov (.t 0))), (.mk (some 12) (some (10, true)) (.mov (.t 2))), (.mk (some 13) (some (10, true)) (.bin .leq (.t 11) (.t 12))), (oI 14 (.pick 10 (.t 13) (.c (.f (.bool false))))), (oI 6 (.mov (.t 14)))] []) .ret))
def tb_r8_within : Tbl := fun _ => ([], .skip)
theorem ok_r8_within : compF Try.prog [24, 26, 28, 68, 101] Try.f40 = some c_r8_within.strip := by kernel_rfl
theorem tk_r8_within : TblOk tb_r8_within c_r8_within.body := ⟨trivial, ⟨trivial, trivial⟩⟩
theorem in_r8_within (n lo hi : Int) (Q : Bool × Unit → Prop) : evF G_r8_within (Lfp G_r8_within tb_r8_within) c_r8_within (VSs.enc e_r8_within.A (n, lo, hi, ())) (dq e_r8_within.R Q) = (
  Q (((decide (lo ≤ n)) && (decide (n ≤ hi))), ())) := by kernel_rfl
theorem au_r8_within (n lo hi : Int) (Q : Bool × Unit → Prop) : evF G_r8_within (Lfp G_r8_within tb_r8_within) c_r8_within (VSs.enc e_r8_within.A (n, lo, hi, ())) (dq e_r8_within.R Q) = Q (e_r8_within.g (n, lo, hi, ())) := (in_r8_within n lo hi Q).trans rfl
/-! netverify/netverifyref4.Mask -/
def G_r4_Mask : Env := ⟨[], []⟩
def b_r4_Mask_0 : ACode := (.seq (.seq (.region [(oI 5 (.mov (.t 4))), (oI 6 (.bin .lss (.t 5) (.c (.f (.int .i64 32)))))] []) (.cond 6 .skip (.exit 0))) (.seq (.block 1 (.seq (.region [(oI 9 (.mov (.t 4))), (oI 10 (.mov (.t 0))), (oI 11 (.bin .lss (.t 9) (.t 10)))] []) (.cond 11 (.region [(oI 12 (.mov (.t 3))), (oI 13 (.mov (.t 4))), (oI 14 (.bin .sub (.c (.f (.int .i64 31))) (.t 13))), (oI 15 (.conv .u64 (.t 14))), (oI 16 (.bin .shl (.c (.f (.int .u32 1))) (.t 15))), (oI 17 (.bin .or (.t 12) (.t 16))), (oI 3 (.mov (.t 17)))] []) .skip))) (.region [(oI 7 (.mov (.t 4))), (oI 8 (.bin .add (.t 7) (.c (.f (.int .i64 1))))), (oI 4 (.mov (.t 8)))] [])))
def r_r4_Mask_0 : ACode := (.seq (.region [(oI 18 (.mov (.t 3))), (oI 2 (.mov (.t 18)))] []) .ret)
def c_r4_Mask : AFunc := AFunc.mk 19 1 [(.t 2)] (.seq (.region [(oI 2 (.mov (.c (.f (.int .u32 0)))))] []) (.seq (.region [(oI 3 (.mov (.c (.f (.int .u32 0)))))] []) (.seq (.seq (.region [(oI 4 (.mov (.c (.f (.int .i64 0)))))] []) (.block 0 (.loop 0 [(0, .no), (3, .no), (4, .no)] b_r4_Mask_0))) r_r4_Mask_0)))
def tb_r4_Mask : Tbl
  | 0 => ([(0, .no), (3, .no), (4, .no)], b_r4_Mask_0)
  | _ => ([], .skip)
theorem ok_r4_Mask : compF Try.prog [24, 26, 28, 68, 101] Try.f102 = some c_r4_Mask.strip := by kernel_rfl
theorem tk_r4_Mask : TblOk tb_r4_Mask c_r4_Mask.body := by repeat' first | exact trivial | rfl | refine ⟨?_, ?_⟩
def k_r4_Mask_0 (Q : Int × Unit → Prop) : K := (kBlock 0 (kSeq (evC G_r4_Mask (Lfp G_r4_Mask tb_r4_Mask) r_r4_Mask_0) (kDone c_r4_Mask (dq e_r4_Mask.R Q))))
def s_r4_Mask_0 (n v0 v1 : Int) : St := ⟨[(0, [], .f (.int .i64 n)), (3, [], .f (.int .u32 v0)), (4, [], .f (.int .i64 v1))], []⟩
def L_r4_Mask_0 (n v0 v1 : Int) (Q : Int × Unit → Prop) : Prop := Lfp G_r4_Mask tb_r4_Mask 0 (s_r4_Mask_0 n v0 v1) (k_r4_Mask_0 Q)
theorem in_r4_Mask (n : Int) (Q : Int × Unit → Prop) : evF G_r4_Mask (Lfp G_r4_Mask tb_r4_Mask) c_r4_Mask (VSs.enc e_r4_Mask.A (n, ())) (dq e_r4_Mask.R Q) = (
  L_r4_Mask_0 n 0 0 Q) := by kernel_rfl
theorem rd_r4_Mask_0 (n v0 v1 : Int) (Q : Int × Unit → Prop) (h :
  cond (decide (v1 < 32))
  (cond (decide (v1 < n))
    (cond (decide (0 ≤ (IntKind.wrap .u64 (IntKind.wrap .i64 (31 - v1)))))
      (L_r4_Mask_0 n (ior .u32 v0 (ishl .u32 1 (IntKind.wrap .u64 (IntKind.wrap .i64 (31 - v1))))) (IntKind.wrap .i64 (v1 + 1)) Q)
      False)
    (L_r4_Mask_0 n v0 (IntKind.wrap .i64 (v1 + 1)) Q))
  (Q (v0, ()))) : L_r4_Mask_0 n v0 v1 Q := Lfp.step (Eq.mpr (by kernel_rfl) h)
theorem lp_r4_Mask_0 (n v00 : Int) (Q : Int × Unit → Prop) (hw : VSs.wf e_r4_Mask.A (n, ()))  : (fun y : Int => Q (y, ())) (S_r4_Mask_0 n v00) → L_r4_Mask_0 n v00 0 Q := by
  let FF := (fun y : Int => Q (y, ()))
  refine upS_loop (F := FF) (k := .i64) (n := 32) (I := fun _ _ => True) (L := (fun (c0 : Int) (s0 : Int) => L_r4_Mask_0 n s0 c0 Q)) (wrap_i64n (by decide)) (fun c0 hc0 s0 hI hF => rd_r4_Mask_0 n s0 (c0 : Int) Q (cond_ge (n := 32) rfl hc0 (id hF))) (fun c0 _ hc0 next0 hn0 s0 hI hF => rd_r4_Mask_0 n s0 (c0 : Int) Q (cond_lt (n := 32) rfl hc0 ((cond_f (F := FF) (fun h0 => (vc_f (F := FF) (by (repeat' (first | rfl | exact nn_d64 _ | exact okIx_nat hc0 | refine and_t ?_ ?_ | refine or_l ?_)); done) (hn0 _ trivial))) (fun h0 => (hn0 _ trivial))) hF))) v00 trivial
theorem ct_r4_Mask (n : Int) (hw : VSs.wf e_r4_Mask.A (n, ())) (Q : Int × Unit → Prop) (hq : Q (e_r4_Mask.g (n, ()))) : EvF G_r4_Mask tb_r4_Mask c_r4_Mask (VSs.enc e_r4_Mask.A (n, ())) (dq e_r4_Mask.R Q) := by
  have _ := hw
  let FF := (fun y : Int => Q (y, ()))
  refine EvF.of (in_r4_Mask n Q) ?_
  exact (lp_r4_Mask_0 n _ Q hw) hq
/-! netverify/netverifyref4.Contains -/
def G_r4_Contains : Env := ⟨[e_r4_Mask], []⟩
def c_r4_Contains : AFunc := AFunc.mk 13 2 [(.t 4)] (.seq (.region [(oI 2 (.box (.t 0))), (oI 4 (.mov (.c (.f (.bool false)))))] []) (.seq (.region [(oI 5 (.mov (.t 1))), (oI 6 (.fld 1 (.t 2))), (oI 7 (.load false 1 (.t 6))), (oI 8 (.call 102 [(.t 7)])), (oI 9 (.bin .and (.t 5) (.t 8))), (oI 10 (.fld 0 (.t 2))), (oI 11 (.load false 1 (.t 10))), (oI 12 (.bin .eql (.t 9) (.t 11))), (oI 4 (.mov (.t 12)))] []) .ret))
def tb_r4_Contains : Tbl := fun _ => ([], .skip)
theorem ok_r4_Contains : compF Try.prog [24, 26, 28, 68, 101] Try.f107 = some c_r4_Contains.strip := by kernel_rfl
theorem tk_r4_Contains : TblOk tb_r4_Contains c_r4_Contains.body := ⟨trivial, ⟨trivial, trivial⟩⟩
theorem in_r4_Contains (p : PrefixT) (a : Int) (Q : Bool × Unit → Prop) : evF G_r4_Contains (Lfp G_r4_Contains tb_r4_Contains) c_r4_Contains (VSs.enc e_r4_Contains.A (p, a, ())) (dq e_r4_Contains.R Q) = (
  Q (((iand .u32 a (g_r4_Mask p.2.1)) == p.1), ())) := by kernel_rfl
theorem au_r4_Contains (p : PrefixT) (a : Int) (Q : Bool × Unit → Prop) : evF G_r4_Contains (Lfp G_r4_Contains tb_r4_Contains) c_r4_Contains (VSs.enc e_r4_Contains.A (p, a, ())) (dq e_r4_Contains.R Q) = Q (e_r4_Contains.g (p, a, ())) := (in_r4_Contains p a Q).trans rfl
/-! netverify/netverifyref4.Covers -/
def G_r4_Covers : Env := ⟨[e_r4_Contains], []⟩
def c_r4_Covers : AFunc := AFunc.mk 16 2 [(.t 4)] (.seq (.region [(oI 2 (.box (.t 0))), (oI 3 (.box (.t 1))), (oI 4 (.mov (.c (.f (.bool false)))))] []) (.seq (.region [(oI 5 (.fld 1 (.t 2))), (oI 6 (.load false 1 (.t 5))), (oI 7 (.fld 1 (.t 3))), (oI 8 (.load false 1 (.t 7))), (oI 9 (.bin .leq (.t 6) (.t 8))), (oI 10 (.mov (.t 9))), (.mk (some 11) (some (10, true)) (.load true 2 (.t 2))), (.mk (some 12) (some (10, true)) (.fld 0 (.t 3))), (.mk (some 13) (some (10, true)) (.load false 1 (.t 12))), (.mk (some 14) (some (10, true)) (.call 107 [(.t 11), (.t 13)])), (oI 15 (.pick 10 (.t 14) (.c (.f (.bool false))))), (oI 4 (.mov (.t 15)))] []) .ret))
def tb_r4_Covers : Tbl := fun _ => ([], .skip)
theorem ok_r4_Covers : compF Try.prog [24, 26, 28, 68, 101] Try.f99 = some c_r4_Covers.strip := by kernel_rfl
theorem tk_r4_Covers : TblOk tb_r4_Covers c_r4_Covers.body := ⟨trivial, ⟨trivial, trivial⟩⟩
theorem in_r4_Covers (p q : PrefixT) (Q : Bool × Unit → Prop) : evF G_r4_Covers (Lfp G_r4_Covers tb_r4_Covers) c_r4_Covers (VSs.enc e_r4_Covers.A (p, q, ())) (dq e_r4_Covers.R Q) = (
  Q (((decide (p.2.1 ≤ q.2.1)) && (g_r4_Contains p q.1)), ())) := by kernel_rfl
theorem au_r4_Covers (p q : PrefixT) (Q : Bool × Unit → Prop) : evF G_r4_Covers (Lfp G_r4_Covers tb_r4_Covers) c_r4_Covers (VSs.enc e_r4_Covers.A (p, q, ())) (dq e_r4_Covers.R Q) = Q (e_r4_Covers.g (p, q, ())) := (in_r4_Covers p q Q).trans rfl
/-! netverify/netverifyref4.Overlaps -/
def G_r4_Overlaps : Env := ⟨[e_r4_Covers], []⟩
def c_r4_Overlaps : AFunc := AFunc.mk 13 2 [(.t 4)] (.seq (.region [(oI 2 (.box (.t 0))), (oI 3 (.box (.t 1))), (oI 4 (.mov (.c (.f (.bool false)))))] []) (.seq (.region [(oI 5 (.load true 2 (.t 2))), (oI 6 (.load true 2 (.t 3))), (oI 7 (.call 99 [(.t 5), (.t 6)])), (oI 8 (.mov (.t 7))), (.mk (some 9) (some (8, false)) (.load true 2 (.t 3))), (.mk (some 10) (some (8, false)) (.load true 2 (.t 2))), (.mk (some 11) (some (8, false)) (.call 99 [(.t 9), (.t 10)])), (oI 12 (.pick 8 (.c (.f (.bool true))) (.t 11))), (oI 4 (.mov (.t 12)))] []) .ret))
def tb_r4_Overlaps : Tbl := fun _ => ([], .skip)
theorem ok_r4_Overlaps : compF Try.prog [24, 26, 28, 68, 101] Try.f71 = some c_r4_Overlaps.strip := by kernel_rfl
theorem tk_r4_Overlaps : TblOk tb_r4_Overlaps c_r4_Overlaps.body := ⟨trivial, ⟨trivial, trivial⟩⟩
theorem in_r4_Overlaps (p q : PrefixT) (Q : Bool × Unit → Prop) : evF G_r4_Overlaps (Lfp G_r4_Overlaps tb_r4_Overlaps) c_r4_Overlaps (VSs.enc e_r4_Overlaps.A (p, q, ())) (dq e_r4_Overlaps.R Q) = (
  Q (((g_r4_Covers p q) || (g_r4_Covers q p)), ())) := by kernel_rfl
theorem au_r4_Overlaps (p q : PrefixT) (Q : Bool × Unit → Prop) : evF G_r4_Overlaps (Lfp G_r4_Overlaps tb_r4_Overlaps) c_r4_Overlaps (VSs.enc e_r4_Overlaps.A (p, q, ())) (dq e_r4_Overlaps.R Q) = Q (e_r4_Overlaps.g (p, q, ())) := (in_r4_Overlaps p q Q).trans rfl
/-! netverify/netverifyref4.Network -/
def G_r4_Network : Env := ⟨[e_r4_Mask], []⟩
def c_r4_Network : AFunc := AFunc.mk 14 2 [(.cell 4 true 2)] (.seq (.region [(oI 4 (.alloc [(.f (.int .u32 0)), (.f (.int .i64 0))]))] []) (.seq (.region [(oI 5 (.mov (.t 1))), (oI 6 (.mm false (.t 5) (.c (.f (.int .i64 32))))), (oI 7 (.mm true (.t 6) (.c (.f (.int .i64 0))))), (oI 1 (.mov (.t 7)))] []) (.seq (.region [(oI 8 (.mov (.t 0))), (oI 9 (.mov (.t 1))), (oI 10 (.call 102 [(.t 9)])), (oI 11 (.bin .and (.t 8) (.t 10))), (oI 12 (.mov (.t 1))), (oI 13 (.build [(.f (.int .u32 0)), (.f (.int .i64 0))] [(0, (1, (.t 11))), (1, (1, (.t 12)))])), (.mk none none (.store 2 (.t 4) (.t 13)))] []) .ret)))
def tb_r4_Network : Tbl := fun _ => ([], .skip)
theorem ok_r4_Network : compF Try.prog [24, 26, 28, 68, 101] Try.f72 = some c_r4_Network.strip := by kernel_rfl
theorem tk_r4_Network : TblOk tb_r4_Network c_r4_Network.body := ⟨trivial, ⟨trivial, ⟨trivial, trivial⟩⟩⟩
theorem in_r4_Network (a n : Int) (Q : PrefixT × Unit → Prop) : evF G_r4_Network (Lfp G_r4_Network tb_r4_Network) c_r4_Network (VSs.enc e_r4_Network.A (a, n, ())) (dq e_r4_Network.R Q) = (
  Q (((iand .u32 a (g_r4_Mask (cond (decide (0 > (cond (decide (32 < n)) 32 n))) 0 (cond (decide (32 < n)) 32 n)))), (cond (decide (0 > (cond (decide (32 < n)) 32 n))) 0 (cond (decide (32 < n)) 32 n)), ()), ())) := by kernel_rfl
theorem au_r4_Network (a n : Int) (Q : PrefixT × Unit → Prop) : evF G_r4_Network (Lfp G_r4_Network tb_r4_Network) c_r4_Network (VSs.enc e_r4_Network.A (a, n, ())) (dq e_r4_Network.R Q) = Q (e_r4_Network.g (a, n, ())) := (in_r4_Network a n Q).trans rfl
/-! netverify/netverifyref8.interfaces -/
def G_r8_interfaces : Env := ⟨[e_r4_Name, e_r8_within, e_r4_Overlaps, e_r4_Network], []⟩
def b_r8_interfaces_1 : ACode := (.seq (.seq (.region [(oI 24 (.mov (.t 5))), (oI 25 (.mov (.t 3))), (oI 26 (.bin .lss (.t 24) (.t 25)))] []) (.cond 26 .skip (.exit 2))) (.seq (.block 3 (.seq (.region [(oI 29 (.mov (.t 0))), (oI 30 (.mov (.t 5))), (oI 31 (.ixa 12 (.t 29) (.t 30))), (oI 32 (.fld 0 (.t 31))), (oI 33 (.load false 1 (.t 32))), (oI 34 (.fld 0 (.t 4))), (oI 35 (.load false 1 (.t 34))), (oI 36 (.bin .eql (.t 33) (.t 35)))] []) (.cond 36 (.seq (.region [(oI 2 (.mov (.c (.f (.int .i64 4)))))] []) .ret) .skip))) (.region [(oI 27 (.mov (.t 5))), (oI 28 (.bin .add (.t 27) (.c (.f (.int .i64 1))))), (oI 5 (.mov (.t 28)))] [])))
def b_r8_interfaces_2 : ACode := (.seq (.seq (.region [(oI 128 (.mov (.t 6))), (oI 129 (.mov (.t 3))), (oI 130 (.bin .lss (.t 128) (.t 129)))] []) (.cond 130 .skip (.exit 4))) (.seq (.block 5 (.seq (.region [(oI 133 (.fld 2 (.t 4))), (oI 134 (.load false 1 (.t 133))), (oI 135 (.bin .neq (.t 134) (.c (.f (.int .i64 0))))), (oI 136 (.mov (.t 135))), (.mk (some 137) (some (136, true)) (.mov (.t 0))), (.mk (some 138) (some (136, true)) (.mov (.t 6))), (.mk (some 139) (some (136, true)) (.ixa 12 (.t 137) (.t 138))), (.mk (some 140) (some (136, true)) (.fld 2 (.t 139))), (.mk (some 141) (some (136, true)) (.load false 1 (.t 140))), (.mk (some 142) (some (136, true)) (.bin .neq (.t 141) (.c (.f (.int .i64 0))))), (oI 143 (.pick 136 (.t 142) (.c (.f (.bool false))))), (oI 144 (.mov (.t 143))), (.mk (some 145) (some (144, true)) (.fld 1 (.t 4))), (.mk (some 146) (some (144, true)) (.load false 1 (.t 145))), (.mk (some 147) (some (144, true)) (.fld 2 (.t 4))), (.mk (some 148) (some (144, true)) (.load false 1 (.t 147))), (.mk (some 149) (some (144, true)) (.call 72 [(.t 146), (.t 148)])), (.mk (some 150) (some (144, true)) (.mov (.t 0))), (.mk (some 151) (some (144, true)) (.mov (.t 6))), (.mk (some 152) (some (144, true)) (.ixa 12 (.t 150) (.t 151))), (.mk (some 153) (some (144, true)) (.fld 1 (.t 152))), (.mk (some 154) (some (144, true)) (.load false 1 (.t 153))), (.mk (some 155) (some (144, true)) (.mov (.t 0))), (.mk (some 156) (some (144, true)) (.mov (.t 6))), (.mk (some 157) (some (144, true)) (.ixa 12 (.t 155) (.t 156))), (.mk (some 158) (some (144, true)) (.fld 2 (.t 157))), (.mk (some 159) (some (144, true)) (.load false 1 (.t 158))), (.mk (some 160) (some (144, true)) (.call 72 [(.t 154), (.t 159)])), (.mk (some 161) (some (144, true)) (.call 71 [(.t 149), (.t 160)])), (oI 162 (.pick 144 (.t 161) (.c (.f (.bool false)))))] []) (.cond 162 (.seq (.region [(oI 2 (.mov (.c (.f (.int .i64 6)))))] []) .ret) .skip))) (.region [(oI 131 (.mov (.t 6))), (oI 132 (.bin .add (.t 131) (.c (.f (.int .i64 1))))), (oI 6 (.mov (.t 132)))] [])))
def r_r8_interfaces_0 : ACode := (.seq (.seq (.region [(oI 37 (.fld 2 (.t 4))), (oI 38 (.load false 1 (.t 37))), (oI 39 (.call 40 [(.t 38), (.c (.f (.int .i64 0))), (.c (.f (.int .i64 32)))])), (oI 40 (.un .not (.t 39))), (oI 41 (.mov (.t 40))), (.mk (some 42) (some (41, false)) (.fld 3 (.t 4))), (.mk (some 43) (some (41, false)) (.load false 1 (.t 42))), (.mk (some 44) (some (41, false)) (.call 40 [(.t 43), (.c (.f (.int .i64 0))), (.c (.f (.int .i64 4094)))])), (.mk (some 45) (some (41, false)) (.un .not (.t 44))), (oI 46 (.pick 41 (.c (.f (.bool true))) (.t 45))), (oI 47 (.mov (.t 46))), (.mk (some 48) (some (47, false)) (.fld 11 (.t 4))), (.mk (some 49) (some (47, false)) (.load false 1 (.t 48))), (.mk (some 50) (some (47, false)) (.call 40 [(.t 49), (.c (.f (.int .i64 0))), (.c (.f (.int .i64 2)))])), (.mk (some 51) (some (47, false)) (.un .not (.t 50))), (oI 52 (.pick 47 (.c (.f (.bool true))) (.t 51)))] []) (.cond 52 (.seq (.region [(oI 2 (.mov (.c (.f (.int .i64 1)))))] []) .ret) .skip)) (.seq (.seq (.region [(oI 53 (.fld 2 (.t 4))), (oI 54 (.load false 1 (.t 53))), (oI 55 (.bin .eql (.t 54) (.c (.f (.int .i64 0))))), (oI 56 (.mov (.t 55))), (.mk (some 57) (some (56, true)) (.fld 1 (.t 4))), (.mk (some 58) (some (56, true)) (.load false 1 (.t 57))), (.mk (some 59) (some (56, true)) (.bin .neq (.t 58) (.c (.f (.int .u32 0))))), (.mk (some 60) (some (56, true)) (.mov (.t 59))), (.mk (some 61) (some (60, false)) (.fld 3 (.t 4))), (.mk (some 62) (some (60, false)) (.load false 1 (.t 61))), (.mk (some 63) (some (60, false)) (.bin .neq (.t 62) (.c (.f (.int .i64 0))))), (.mk (some 64) (some (56, true)) (.pick 60 (.c (.f (.bool true))) (.t 63))), (.mk (some 65) (some (56, true)) (.mov (.t 64))), (.mk (some 66) (some (65, false)) (.fld 11 (.t 4))), (.mk (some 67) (some (65, false)) (.load false 1 (.t 66))), (.mk (some 68) (some (65, false)) (.bin .neq (.t 67) (.c (.f (.int .i64 0))))), (.mk (some 69) (some (56, true)) (.pick 65 (.c (.f (.bool true))) (.t 68))), (.mk (some 70) (some (56, true)) (.mov (.t 69))), (.mk (some 71) (some (70, false)) (.fld 5 (.t 4))), (.mk (some 72) (some (70, false)) (.load false 1 (.t 71))), (.mk (some 73) (some (56, true)) (.pick 70 (.c (.f (.bool true))) (.t 72))), (.mk (some 74) (some (56, true)) (.mov (.t 73))), (.mk (some 75) (some (74, false)) (.fld 8 (.t 4))), (.mk (some 76) (some (74, false)) (.load false 1 (.t 75))), (.mk (some 77) (some (56, true)) (.pick 74 (.c (.f (.bool true))) (.t 76))), (.mk (some 78) (some (56, true)) (.mov (.t 77))), (.mk (some 79) (some (78, false)) (.fld 9 (.t 4))), (.mk (some 80) (some (78, false)) (.load false 1 (.t 79))), (.mk (some 81) (some (78, false)) (.bin .neq (.t 80) (.c (.f (.str []))))), (.mk (some 82) (some (56, true)) (.pick 78 (.c (.f (.bool true))) (.t 81))), (.mk (some 83) (some (56, true)) (.mov (.t 82))), (.mk (some 84) (some (83, false)) (.fld 10 (.t 4))), (.mk (some 85) (some (83, false)) (.load false 1 (.t 84))), (.mk (some 86) (some (83, false)) (.bin .neq (.t 85) (.c (.f (.str []))))), (.mk (some 87) (some (56, true)) (.pick 83 (.c (.f (.bool true))) (.t 86))), (oI 88 (.pick 56 (.t 87) (.c (.f (.bool false))))), (oI 89 (.mov (.t 88))), (.mk (some 90) (some (89, false)) (.fld 2 (.t 4))), (.mk (some 91) (some (89, false)) (.load false 1 (.t 90))), (.mk (some 92) (some (89, false)) (.bin .neq (.t 91) (.c (.f (.int .i64 0))))), (.mk (some 93) (some (89, false)) (.mov (.t 92))), (.mk (some 94) (some (93, true)) (.fld 1 (.t 4))), (.mk (some 95) (some (93, true)) (.load false 1 (.t 94))), (.mk (some 96) (some (93, true)) (.bin .eql (.t 95) (.c (.f (.int .u32 0))))), (.mk (some 97) (some (89, false)) (.pick 93 (.t 96) (.c (.f (.bool false))))), (oI 98 (.pick 89 (.c (.f (.bool true))) (.t 97)))] []) (.cond 98 (.seq (.region [(oI 2 (.mov (.c (.f (.int .i64 1)))))] []) .ret) .skip)) (.seq (.seq (.region [(oI 99 (.fld 5 (.t 4))), (oI 100 (.load false 1 (.t 99))), (oI 101 (.mov (.t 100))), (.mk (some 102) (some (101, true)) (.fld 6 (.t 4))), (.mk (some 103) (some (101, true)) (.load false 1 (.t 102))), (.mk (some 104) (some (101, true)) (.call 40 [(.t 103), (.c (.f (.int .i64 0))), (.c (.f (.int .i64 255)))])), (.mk (some 105) (some (101, true)) (.un .not (.t 104))), (.mk (some 106) (some (101, true)) (.mov (.t 105))), (.mk (some 107) (some (106, false)) (.fld 7 (.t 4))), (.mk (some 108) (some (106, false)) (.load false 1 (.t 107))), (.mk (some 109) (some (106, false)) (.call 40 [(.t 108), (.c (.f (.int .i64 1))), (.c (.f (.int .i64 65535)))])), (.mk (some 110) (some (106, false)) (.un .not (.t 109))), (.mk (some 111) (some (101, true)) (.pick 106 (.c (.f (.bool true))) (.t 110))), (oI 112 (.pick 101 (.t 111) (.c (.f (.bool false))))), (oI 113 (.mov (.t 112))), (.mk (some 114) (some (113, false)) (.fld 5 (.t 4))), (.mk (some 115) (some (113, false)) (.load false 1 (.t 114))), (.mk (some 116) (some (113, false)) (.un .not (.t 115))), (.mk (some 117) (some (113, false)) (.mov (.t 116))), (.mk (some 118) (some (117, true)) (.fld 6 (.t 4))), (.mk (some 119) (some (117, true)) (.load false 1 (.t 118))), (.mk (some 120) (some (117, true)) (.bin .neq (.t 119) (.c (.f (.int .i64 0))))), (.mk (some 121) (some (117, true)) (.mov (.t 120))), (.mk (some 122) (some (121, false)) (.fld 7 (.t 4))), (.mk (some 123) (some (121, false)) (.load false 1 (.t 122))), (.mk (some 124) (some (121, false)) (.bin .neq (.t 123) (.c (.f (.int .i64 0))))), (.mk (some 125) (some (117, true)) (.pick 121 (.c (.f (.bool true))) (.t 124))), (.mk (some 126) (some (113, false)) (.pick 117 (.t 125) (.c (.f (.bool false))))), (oI 127 (.pick 113 (.c (.f (.bool true))) (.t 126)))] []) (.cond 127 (.seq (.region [(oI 2 (.mov (.c (.f (.int .i64 1)))))] []) .ret) .skip)) (.seq (.region [(oI 6 (.mov (.c (.f (.int .i64 0)))))] []) (.block 4 (.loop 2 [(0, .no), (3, .no), (4, .no), (6, .no)] b_r8_interfaces_2))))))
def r_r8_interfaces_1 : ACode := (.region [(oI 14 (.mov (.t 3))), (oI 15 (.bin .add (.t 14) (.c (.f (.int .i64 1))))), (oI 3 (.mov (.t 15)))] [])
def b_r8_interfaces_0 : ACode := (.seq (.seq (.region [(oI 10 (.mov (.t 3))), (oI 11 (.mov (.t 0))), (oI 12 (.len (.t 11))), (oI 13 (.bin .lss (.t 10) (.t 12)))] []) (.cond 13 .skip (.exit 0))) (.seq (.block 1 (.seq (.region [(oI 16 (.mov (.t 0))), (oI 17 (.mov (.t 3))), (oI 18 (.ixa 12 (.t 16) (.t 17))), (oI 19 (.load true 12 (.t 18))), (oI 4 (.alloc [(.f (.str [])), (.f (.int .u32 0)), (.f (.int .i64 0)), (.f (.int .i64 0)), (.f (.bool false)), (.f (.bool false)), (.f (.int .i64 0)), (.f (.int .i64 0)), (.f (.bool false)), (.f (.str [])), (.f (.str [])), (.f (.int .i64 0))])), (.mk none none (.store 12 (.t 4) (.t 19)))] []) (.seq (.seq (.region [(oI 20 (.fld 0 (.t 4))), (oI 21 (.load false 1 (.t 20))), (oI 22 (.call 39 [(.t 21)])), (oI 23 (.un .not (.t 22)))] []) (.cond 23 (.seq (.region [(oI 2 (.mov (.c (.f (.int .i64 3)))))] []) .ret) .skip)) (.seq (.seq (.region [(oI 5 (.mov (.c (.f (.int .i64 0)))))] []) (.block 2 (.loop 1 [(0, .no), (3, .no), (4, .no), (5, .no)] b_r8_interfaces_1))) r_r8_interfaces_0)))) r_r8_interfaces_1))
def r_r8_interfaces_2 : ACode := (.seq (.region [(oI 2 (.mov (.c (.f (.int .i64 0)))))] []) .ret)
def c_r8_interfaces : AFunc := AFunc.mk 163 1 [(.t 2)] (.seq (.region [(oI 2 (.mov (.c (.f (.int .i64 0)))))] []) (.seq (.seq (.region [(oI 7 (.mov (.t 0))), (oI 8 (.len (.t 7))), (oI 9 (.bin .gtr (.t 8) (.c (.f (.int .i64 8)))))] []) (.cond 9 (.seq (.region [(oI 2 (.mov (.c (.f (.int .i64 7)))))] []) .ret) .skip)) (.seq (.seq (.region [(oI 3 (.mov (.c (.f (.int .i64 0)))))] []) (.block 0 (.loop 0 [(0, .no), (3, .no)] b_r8_interfaces_0))) r_r8_interfaces_2)))
def tb_r8_interfaces : Tbl
  | 0 => ([(0, .no), (3, .no)], b_r8_interfaces_0)
  | 1 => ([(0, .no), (3, .no), (4, .no), (5, .no)], b_r8_interfaces_1)
  | 2 => ([(0, .no), (3, .no), (4, .no), (6, .no)], b_r8_interfaces_2)
  | _ => ([], .skip)
theorem ok_r8_interfaces : compF Try.prog [24, 26, 28, 68, 101] Try.f41 = some c_r8_interfaces.strip := by kernel_rfl
theorem tk_r8_interfaces : TblOk tb_r8_interfaces c_r8_interfaces.body := by repeat' first | exact trivial | rfl | refine ⟨?_, ?_⟩
def k_r8_interfaces_0 (Q : Int × Unit → Prop) : K := (kBlock 0 (kSeq (evC G_r8_interfaces (Lfp G_r8_interfaces tb_r8_interfaces) r_r8_interfaces_2) (kDone c_r8_interfaces (dq e_r8_interfaces.R Q))))
def s_r8_interfaces_0 (l : List InterfaceT) (v0 : Int) : St := ⟨[(0, [], .f (.fs InterfaceS l)), (3, [], .f (.int .i64 v0))], []⟩
def L_r8_interfaces_0 (l : List InterfaceT) (v0 : Int) (Q : Int × Unit → Prop) : Prop := Lfp G_r8_interfaces tb_r8_interfaces 0 (s_r8_interfaces_0 l v0) (k_r8_interfaces_0 Q)
def k_r8_interfaces_1 (Q : Int × Unit → Prop) : K := (kBlock 2 (kSeq (evC G_r8_interfaces (Lfp G_r8_interfaces tb_r8_interfaces) r_r8_interfaces_0) (kBlock 1 (kSeq (evC G_r8_interfaces (Lfp G_r8_interfaces tb_r8_interfaces) r_r8_interfaces_1) (kLoop [(0, .no), (3, .no)] (Lfp G_r8_interfaces tb_r8_interfaces 0) (k_r8_interfaces_0 Q))))))
def s_r8_interfaces_1 (l : List InterfaceT) (v0 : Int) (v1 : InterfaceT) (v2 : Int) : St := ⟨[(0, [], .f (.fs InterfaceS l)), (3, [], .f (.int .i64 v0)), (4, [], .ptr 0 0), (5, [], .f (.int .i64 v2))], [.box none ((InterfaceS.enc v1).map .f)]⟩
def L_r8_interfaces_1 (l : List InterfaceT) (v0 : Int) (v1 : InterfaceT) (v2 : Int) (Q : Int × Unit → Prop) : Prop := Lfp G_r8_interfaces tb_r8_interfaces 1 (s_r8_interfaces_1 l v0 v1 v2) (k_r8_interfaces_1 Q)
def k_r8_interfaces_2 (Q : Int × Unit → Prop) : K := (kBlock 4 (kBlock 1 (kSeq (evC G_r8_interfaces (Lfp G_r8_interfaces tb_r8_interfaces) r_r8_interfaces_1) (kLoop [(0, .no), (3, .no)] (Lfp G_r8_interfaces tb_r8_interfaces 0) (k_r8_interfaces_0 Q)))))
def s_r8_interfaces_2 (l : List InterfaceT) (v0 : Int) (v1 : InterfaceT) (v2 : Int) : St := ⟨[(0, [], .f (.fs InterfaceS l)), (3, [], .f (.int .i64 v0)), (4, [], .ptr 0 0), (6, [], .f (.int .i64 v2))], [.box none ((InterfaceS.enc v1).map .f)]⟩
def L_r8_interfaces_2 (l : List InterfaceT) (v0 : Int) (v1 : InterfaceT) (v2 : Int) (Q : Int × Unit → Prop) : Prop := Lfp G_r8_interfaces tb_r8_interfaces 2 (s_r8_interfaces_2 l v0 v1 v2) (k_r8_interfaces_2 Q)
theorem in_r8_interfaces (l : List InterfaceT) (Q : Int × Unit → Prop) : evF G_r8_interfaces (Lfp G_r8_interfaces tb_r8_interfaces) c_r8_interfaces (VSs.enc e_r8_interfaces.A (l, ())) (dq e_r8_interfaces.R Q) = (
  cond (decide ((l.length : Int) > 8))
  (Q (7, ()))
  (L_r8_interfaces_0 l 0 Q)) := by kernel_rfl
theorem rd_r8_interfaces_0 (l : List InterfaceT) (v0 : Int) (Q : Int × Unit → Prop) (h :
  cond (decide (v0 < (l.length : Int)))
  (cond (okIx v0 (l.length : Int))
    (cond (!(g_r4_Name (List.getD l (Int.toNat v0) InterfaceD).1))
      (Q (3, ()))
      (L_r8_interfaces_1 l v0 (List.getD l (Int.toNat v0) InterfaceD) 0 Q))
    False)
  (Q (0, ()))) : L_r8_interfaces_0 l v0 Q := Lfp.step (Eq.mpr (by kernel_rfl) h)
theorem rd_r8_interfaces_1 (l : List InterfaceT) (v0 : Int) (v1 : InterfaceT) (v2 : Int) (Q : Int × Unit → Prop) (h :
  cond (decide (v2 < v0))
  (cond (okIx v2 (l.length : Int))
    (cond ((List.getD l (Int.toNat v2) InterfaceD).1 == v1.1)
      (Q (4, ()))
      (L_r8_interfaces_1 l v0 v1 (IntKind.wrap .i64 (v2 + 1)) Q))
    False)
  (cond (((!(g_r8_within v1.2.2.1 0 32)) || (!(g_r8_within v1.2.2.2.1 0 4094))) || (!(g_r8_within v1.2.2.2.2.2.2.2.2.2.2.2.1 0 2)))
    (Q (1, ()))
    (cond (((v1.2.2.1 == 0) && (((((((v1.2.1 != 0) || (v1.2.2.2.1 != 0)) || (v1.2.2.2.2.2.2.2.2.2.2.2.1 != 0)) || v1.2.2.2.2.2.1) || v1.2.2.2.2.2.2.2.2.1) || (!(v1.2.2.2.2.2.2.2.2.2.1 == []))) || (!(v1.2.2.2.2.2.2.2.2.2.2.1 == [])))) || ((v1.2.2.1 != 0) && (v1.2.1 == 0)))
      (Q (1, ()))
      (cond ((v1.2.2.2.2.2.1 && ((!(g_r8_within v1.2.2.2.2.2.2.1 0 255)) || (!(g_r8_within v1.2.2.2.2.2.2.2.1 1 65535)))) || ((!v1.2.2.2.2.2.1) && ((v1.2.2.2.2.2.2.1 != 0) || (v1.2.2.2.2.2.2.2.1 != 0))))
        (Q (1, ()))
        (L_r8_interfaces_2 l v0 v1 0 Q))))) : L_r8_interfaces_1 l v0 v1 v2 Q := Lfp.step (Eq.mpr (by kernel_rfl) h)
theorem rd_r8_interfaces_2 (l : List InterfaceT) (v0 : Int) (v1 : InterfaceT) (v2 : Int) (Q : Int × Unit → Prop) (h :
  cond (decide (v2 < v0))
  (cond (((((((okIx v2 (l.length : Int)) || (!(((v1.2.2.1 != 0) == true) && true))) && true) && ((okIx v2 (l.length : Int)) || (!((((v1.2.2.1 != 0) && ((List.getD l (Int.toNat v2) InterfaceD).2.2.1 != 0)) == true) && true)))) && ((okIx v2 (l.length : Int)) || (!((((v1.2.2.1 != 0) && ((List.getD l (Int.toNat v2) InterfaceD).2.2.1 != 0)) == true) && true)))) && true) && true)
    (cond (((v1.2.2.1 != 0) && ((List.getD l (Int.toNat v2) InterfaceD).2.2.1 != 0)) && (g_r4_Overlaps (g_r4_Network v1.2.1 v1.2.2.1) (g_r4_Network (List.getD l (Int.toNat v2) InterfaceD).2.1 (List.getD l (Int.toNat v2) InterfaceD).2.2.1)))
      (Q (6, ()))
      (L_r8_interfaces_2 l v0 v1 (IntKind.wrap .i64 (v2 + 1)) Q))
    False)
  (L_r8_interfaces_0 l (IntKind.wrap .i64 (v0 + 1)) Q)) : L_r8_interfaces_2 l v0 v1 v2 Q := Lfp.step (Eq.mpr (by kernel_rfl) h)
theorem lp_r8_interfaces_2 (l : List InterfaceT) (c0 : Nat) (v1 : InterfaceT) (next0 : Int) (Q : Int × Unit → Prop) (hw : VSs.wf e_r8_interfaces.A (l, ())) (hc0 : c0 < l.length) (hn0 : (fun y : Int => Q (y, ())) next0 → L_r8_interfaces_0 l (IntKind.wrap .i64 ((c0 : Int) + 1)) Q) (g0 : (decide ((l.length : Int) > 8)) = false) : (fun y : Int => Q (y, ())) (S_r8_interfaces_2 l c0 v1 next0) → L_r8_interfaces_2 l (c0 : Int) v1 0 Q := by
  let FF := (fun y : Int => Q (y, ()))
  refine upV_loop (F := FF) (k := .i64) (n := c0) (L := (fun c2 : Int => L_r8_interfaces_2 l (c0 : Int) v1 c2 Q)) (wrap_i64n (Nat.le_trans (Nat.le_of_lt hc0) (show _ ≤ _ from (hw.1).1))) (fun c2 hc2 hF => rd_r8_interfaces_2 l (c0 : Int) v1 (c2 : Int) Q (cond_ge (n := c0) rfl hc2 (hn0 hF))) (fun c2 _ hc2 next2 hn2 hF => rd_r8_interfaces_2 l (c0 : Int) v1 (c2 : Int) Q (cond_lt (n := c0) rfl hc2 ((vc_f (F := FF) (by (repeat' (first | rfl | exact nn_d64 _ | exact okIx_nat hc0 | exact okIx_nat hc2 | exact okIx_nat (Nat.lt_trans hc2 hc0) | refine and_t ?_ ?_ | refine or_l ?_)); done) (cond_f (F := FF) (fun h1 => id) (fun h1 => hn2))) hF)))
theorem lp_r8_interfaces_1 (l : List InterfaceT) (c0 : Nat) (v1 : InterfaceT) (next0 : Int) (Q : Int × Unit → Prop) (hw : VSs.wf e_r8_interfaces.A (l, ())) (hc0 : c0 < l.length) (hn0 : (fun y : Int => Q (y, ())) next0 → L_r8_interfaces_0 l (IntKind.wrap .i64 ((c0 : Int) + 1)) Q) (g0 : (decide ((l.length : Int) > 8)) = false) : (fun y : Int => Q (y, ())) (S_r8_interfaces_1 l c0 v1 next0) → L_r8_interfaces_1 l (c0 : Int) v1 0 Q := by
  let FF := (fun y : Int => Q (y, ()))
  refine upV_loop (F := FF) (k := .i64) (n := c0) (L := (fun c1 : Int => L_r8_interfaces_1 l (c0 : Int) v1 c1 Q)) (wrap_i64n (Nat.le_trans (Nat.le_of_lt hc0) (show _ ≤ _ from (hw.1).1))) (fun c1 hc1 hF => rd_r8_interfaces_1 l (c0 : Int) v1 (c1 : Int) Q (cond_ge (n := c0) rfl hc1 ((cond_f (F := FF) (fun h1 => id) (fun h1 => (cond_f (F := FF) (fun h2 => id) (fun h2 => (cond_f (F := FF) (fun h3 => id) (fun h3 => (lp_r8_interfaces_2 l c0 _ _ Q hw hc0 hn0 g0))))))) hF))) (fun c1 _ hc1 next1 hn1 hF => rd_r8_interfaces_1 l (c0 : Int) v1 (c1 : Int) Q (cond_lt (n := c0) rfl hc1 ((vc_f (F := FF) (by (repeat' (first | rfl | exact nn_d64 _ | exact okIx_nat hc0 | exact okIx_nat hc1 | exact okIx_nat (Nat.lt_trans hc1 hc0) | refine and_t ?_ ?_ | refine or_l ?_)); done) (cond_f (F := FF) (fun h1 => id) (fun h1 => hn1))) hF)))
theorem lp_r8_interfaces_0 (l : List InterfaceT) (Q : Int × Unit → Prop) (hw : VSs.wf e_r8_interfaces.A (l, ()))  (g0 : (decide ((l.length : Int) > 8)) = false) : (fun y : Int => Q (y, ())) (S_r8_interfaces_0 l) → L_r8_interfaces_0 l 0 Q := by
  let FF := (fun y : Int => Q (y, ()))
  refine upV_loop (F := FF) (k := .i64) (n := l.length) (L := (fun c0 : Int => L_r8_interfaces_0 l c0 Q)) (wrap_i64n (show _ ≤ _ from (hw.1).1)) (fun c0 hc0 hF => rd_r8_interfaces_0 l (c0 : Int) Q (cond_ge (n := l.length) rfl hc0 (id hF))) (fun c0 _ hc0 next0 hn0 hF => rd_r8_interfaces_0 l (c0 : Int) Q (cond_lt (n := l.length) rfl hc0 ((vc_f (F := FF) (by (repeat' (first | rfl | exact nn_d64 _ | exact okIx_nat hc0 | refine and_t ?_ ?_ | refine or_l ?_)); done) (cond_f (F := FF) (fun h1 => id) (fun h1 => (lp_r8_interfaces_1 l c0 _ _ Q hw hc0 hn0 g0)))) hF)))
theorem ct_r8_interfaces (l : List InterfaceT) (hw : VSs.wf e_r8_interfaces.A (l, ())) (Q : Int × Unit → Prop) (hq : Q (e_r8_interfaces.g (l, ()))) : EvF G_r8_interfaces tb_r8_interfaces c_r8_interfaces (VSs.enc e_r8_interfaces.A (l, ())) (dq e_r8_interfaces.R Q) := by
  have _ := hw
  let FF := (fun y : Int => Q (y, ()))
  refine EvF.of (in_r8_interfaces l Q) ?_
  exact (cond_f (F := FF) (fun h0 => id) (fun h0 => (lp_r8_interfaces_0 l Q hw h0))) hq
/-! netverify/netverifyref4.Valid -/
def G_r4_Valid : Env := ⟨[e_r4_Mask], []⟩
def c_r4_Valid : AFunc := AFunc.mk 20 1 [(.t 2)] (.seq (.region [(oI 1 (.box (.t 0))), (oI 2 (.mov (.c (.f (.bool false)))))] []) (.seq (.region [(oI 3 (.fld 1 (.t 1))), (oI 4 (.load false 1 (.t 3))), (oI 5 (.bin .geq (.t 4) (.c (.f (.int .i64 0))))), (oI 6 (.mov (.t 5))), (.mk (some 7) (some (6, true)) (.fld 1 (.t 1))), (.mk (some 8) (some (6, true)) (.load false 1 (.t 7))), (.mk (some 9) (some (6, true)) (.bin .leq (.t 8) (.c (.f (.int .i64 32))))), (oI 10 (.pick 6 (.t 9) (.c (.f (.bool false))))), (oI 11 (.mov (.t 10))), (.mk (some 12) (some (11, true)) (.fld 0 (.t 1))), (.mk (some 13) (some (11, true)) (.load false 1 (.t 12))), (.mk (some 14) (some (11, true)) (.fld 1 (.t 1))), (.mk (some 15) (some (11, true)) (.load false 1 (.t 14))), (.mk (some 16) (some (11, true)) (.call 102 [(.t 15)])), (.mk (some 17) (some (11, true)) (.bin .andNot (.t 13) (.t 16))), (.mk (some 18) (some (11, true)) (.bin .eql (.t 17) (.c (.f (.int .u32 0))))), (oI 19 (.pick 11 (.t 18) (.c (.f (.bool false))))), (oI 2 (.mov (.t 19)))] []) .ret))
def tb_r4_Valid : Tbl := fun _ => ([], .skip)
theorem ok_r4_Valid : compF Try.prog [24, 26, 28, 68, 101] Try.f76 = some c_r4_Valid.strip := by kernel_rfl
theorem tk_r4_Valid : TblOk tb_r4_Valid c_r4_Valid.body := ⟨trivial, ⟨trivial, trivial⟩⟩
theorem in_r4_Valid (p : PrefixT) (Q : Bool × Unit → Prop) : evF G_r4_Valid (Lfp G_r4_Valid tb_r4_Valid) c_r4_Valid (VSs.enc e_r4_Valid.A (p, ())) (dq e_r4_Valid.R Q) = (
  Q ((((decide (p.2.1 ≥ 0)) && (decide (p.2.1 ≤ 32))) && ((iandnot .u32 p.1 (g_r4_Mask p.2.1)) == 0)), ())) := by kernel_rfl
theorem au_r4_Valid (p : PrefixT) (Q : Bool × Unit → Prop) : evF G_r4_Valid (Lfp G_r4_Valid tb_r4_Valid) c_r4_Valid (VSs.enc e_r4_Valid.A (p, ())) (dq e_r4_Valid.R Q) = Q (e_r4_Valid.g (p, ())) := (in_r4_Valid p Q).trans rfl
/-! netverify/netverifyref8.ValidPrefixRule -/
def G_r8_ValidPrefixRule : Env := ⟨[e_r4_Valid], []⟩
def c_r8_ValidPrefixRule : AFunc := AFunc.mk 26 1 [(.t 2)] (.seq (.region [(oI 1 (.box (.t 0))), (oI 2 (.mov (.c (.f (.bool false)))))] []) (.seq (.region [(oI 3 (.fld 1 (.t 1))), (oI 4 (.load true 2 (.t 3))), (oI 5 (.call 76 [(.t 4)])), (oI 6 (.mov (.t 5))), (.mk (some 7) (some (6, true)) (.fld 1 (.t 1))), (.mk (some 8) (some (6, true)) (.fld 1 (.t 7))), (.mk (some 9) (some (6, true)) (.load false 1 (.t 8))), (.mk (some 10) (some (6, true)) (.fld 3 (.t 1))), (.mk (some 11) (some (6, true)) (.load false 1 (.t 10))), (.mk (some 12) (some (6, true)) (.bin .leq (.t 9) (.t 11))), (oI 13 (.pick 6 (.t 12) (.c (.f (.bool false))))), (oI 14 (.mov (.t 13))), (.mk (some 15) (some (14, true)) (.fld 3 (.t 1))), (.mk (some 16) (some (14, true)) (.load false 1 (.t 15))), (.mk (some 17) (some (14, true)) (.fld 4 (.t 1))), (.mk (some 18) (some (14, true)) (.load false 1 (.t 17))), (.mk (some 19) (some (14, true)) (.bin .leq (.t 16) (.t 18))), (oI 20 (.pick 14 (.t 19) (.c (.f (.bool false))))), (oI 21 (.mov (.t 20))), (.mk (some 22) (some (21, true)) (.fld 4 (.t 1))), (.mk (some 23) (some (21, true)) (.load false 1 (.t 22))), (.mk (some 24) (some (21, true)) (.bin .leq (.t 23) (.c (.f (.int .i64 32))))), (oI 25 (.pick 21 (.t 24) (.c (.f (.bool false))))), (oI 2 (.mov (.t 25)))] []) .ret))
def tb_r8_ValidPrefixRule : Tbl := fun _ => ([], .skip)
theorem ok_r8_ValidPrefixRule : compF Try.prog [24, 26, 28, 68, 101] Try.f73 = some c_r8_ValidPrefixRule.strip := by kernel_rfl
theorem tk_r8_ValidPrefixRule : TblOk tb_r8_ValidPrefixRule c_r8_ValidPrefixRule.body := ⟨trivial, ⟨trivial, trivial⟩⟩
theorem in_r8_ValidPrefixRule (x0 : PrefixRuleT) (Q : Bool × Unit → Prop) : evF G_r8_ValidPrefixRule (Lfp G_r8_ValidPrefixRule tb_r8_ValidPrefixRule) c_r8_ValidPrefixRule (VSs.enc e_r8_ValidPrefixRule.A (x0, ())) (dq e_r8_ValidPrefixRule.R Q) = (
  Q (((((g_r4_Valid (x0.2.1, x0.2.2.1, ())) && (decide (x0.2.2.1 ≤ x0.2.2.2.1))) && (decide (x0.2.2.2.1 ≤ x0.2.2.2.2.1))) && (decide (x0.2.2.2.2.1 ≤ 32))), ())) := by kernel_rfl
theorem au_r8_ValidPrefixRule (x0 : PrefixRuleT) (Q : Bool × Unit → Prop) : evF G_r8_ValidPrefixRule (Lfp G_r8_ValidPrefixRule tb_r8_ValidPrefixRule) c_r8_ValidPrefixRule (VSs.enc e_r8_ValidPrefixRule.A (x0, ())) (dq e_r8_ValidPrefixRule.R Q) = Q (e_r8_ValidPrefixRule.g (x0, ())) := (in_r8_ValidPrefixRule x0 Q).trans rfl
/-! netverify/netverifyref8.prefixLists -/
def G_r8_prefixLists : Env := ⟨[e_r4_Name, e_r8_ValidPrefixRule], []⟩
def b_r8_prefixLists_1 : ACode := (.seq (.seq (.region [(oI 22 (.mov (.t 4))), (oI 23 (.mov (.t 3))), (oI 24 (.bin .lss (.t 22) (.t 23)))] []) (.cond 24 .skip (.exit 2))) (.seq (.block 3 (.seq (.region [(oI 27 (.mov (.t 0))), (oI 28 (.mov (.t 4))), (oI 29 (.ixa 2 (.t 27) (.t 28))), (oI 30 (.fld 0 (.t 29))), (oI 31 (.load false 1 (.t 30))), (oI 32 (.mov (.t 0))), (oI 33 (.mov (.t 3))), (oI 34 (.ixa 2 (.t 32) (.t 33))), (oI 35 (.fld 0 (.t 34))), (oI 36 (.load false 1 (.t 35))), (oI 37 (.bin .eql (.t 31) (.t 36)))] []) (.cond 37 (.seq (.region [(oI 2 (.mov (.c (.f (.int .i64 4)))))] []) .ret) .skip))) (.region [(oI 25 (.mov (.t 4))), (oI 26 (.bin .add (.t 25) (.c (.f (.int .i64 1))))), (oI 4 (.mov (.t 26)))] [])))
def b_r8_prefixLists_2 : ACode := (.seq (.seq (.region [(oI 52 (.mov (.t 5))), (oI 53 (.mov (.t 0))), (oI 54 (.mov (.t 3))), (oI 55 (.ixa 2 (.t 53) (.t 54))), (oI 56 (.fld 1 (.t 55))), (oI 57 (.load false 1 (.t 56))), (oI 58 (.len (.t 57))), (oI 59 (.bin .lss (.t 52) (.t 58)))] []) (.cond 59 .skip (.exit 4))) (.seq (.block 5 (.seq (.region [(oI 62 (.mov (.t 0))), (oI 63 (.mov (.t 3))), (oI 64 (.ixa 2 (.t 62) (.t 63))), (oI 65 (.fld 1 (.t 64))), (oI 66 (.load false 1 (.t 65))), (oI 67 (.mov (.t 5))), (oI 68 (.ixa 5 (.t 66) (.t 67))), (oI 69 (.load true 5 (.t 68))), (oI 70 (.call 73 [(.t 69)])), (oI 71 (.un .not (.t 70)))] []) (.cond 71 (.seq (.region [(oI 2 (.mov (.c (.f (.int .i64 1)))))] []) .ret) .skip))) (.region [(oI 60 (.mov (.t 5))), (oI 61 (.bin .add (.t 60) (.c (.f (.int .i64 1))))), (oI 5 (.mov (.t 61)))] [])))
def r_r8_prefixLists_0 : ACode := (.seq (.seq (.region [(oI 38 (.mov (.t 0))), (oI 39 (.mov (.t 3))), (oI 40 (.ixa 2 (.t 38) (.t 39))), (oI 41 (.fld 1 (.t 40))), (oI 42 (.load false 1 (.t 41))), (oI 43 (.len (.t 42))), (oI 44 (.bin .eql (.t 43) (.c (.f (.int .i64 0)))))] []) (.cond 44 (.seq (.region [(oI 2 (.mov (.c (.f (.int .i64 1)))))] []) .ret) .skip)) (.seq (.seq (.region [(oI 45 (.mov (.t 0))), (oI 46 (.mov (.t 3))), (oI 47 (.ixa 2 (.t 45) (.t 46))), (oI 48 (.fld 1 (.t 47))), (oI 49 (.load false 1 (.t 48))), (oI 50 (.len (.t 49))), (oI 51 (.bin .gtr (.t 50) (.c (.f (.int .i64 16)))))] []) (.cond 51 (.seq (.region [(oI 2 (.mov (.c (.f (.int .i64 7)))))] []) .ret) .skip)) (.seq (.region [(oI 5 (.mov (.c (.f (.int .i64 0)))))] []) (.block 4 (.loop 2 [(0, .no), (3, .no), (5, .no)] b_r8_prefixLists_2)))))
def r_r8_prefixLists_1 : ACode := (.region [(oI 13 (.mov (.t 3))), (oI 14 (.bin .add (.t 13) (.c (.f (.int .i64 1))))), (oI 3 (.mov (.t 14)))] [])
def b_r8_prefixLists_0 : ACode := (.seq (.seq (.region [(oI 9 (.mov (.t 3))), (oI 10 (.mov (.t 0))), (oI 11 (.len (.t 10))), (oI 12 (.bin .lss (.t 9) (.t 11)))] []) (.cond 12 .skip (.exit 0))) (.seq (.block 1 (.seq (.seq (.region [(oI 15 (.mov (.t 0))), (oI 16 (.mov (.t 3))), (oI 17 (.ixa 2 (.t 15) (.t 16))), (oI 18 (.fld 0 (.t 17))), (oI 19 (.load false 1 (.t 18))), (oI 20 (.call 39 [(.t 19)])), (oI 21 (.un .not (.t 20)))] []) (.cond 21 (.seq (.region [(oI 2 (.mov (.c (.f (.int .i64 3)))))] []) .ret) .skip)) (.seq (.seq (.region [(oI 4 (.mov (.c (.f (.int .i64 0)))))] []) (.block 2 (.loop 1 [(0, .no), (3, .no), (4, .no)] b_r8_prefixLists_1))) r_r8_prefixLists_0))) r_r8_prefixLists_1))
def r_r8_prefixLists_2 : ACode := (.seq (.region [(oI 2 (.mov (.c (.f (.int .i64 0)))))] []) .ret)
def c_r8_prefixLists : AFunc := AFunc.mk 72 1 [(.t 2)] (.seq (.region [(oI 2 (.mov (.c (.f (.int .i64 0)))))] []) (.seq (.seq (.region [(oI 6 (.mov (.t 0))), (oI 7 (.len (.t 6))), (oI 8 (.bin .gtr (.t 7) (.c (.f (.int .i64 8)))))] []) (.cond 8 (.seq (.region [(oI 2 (.mov (.c (.f (.int .i64 7)))))] []) .ret) .skip)) (.seq (.seq (.region [(oI 3 (.mov (.c (.f (.int .i64 0)))))] []) (.block 0 (.loop 0 [(0, .no), (3, .no)] b_r8_prefixLists_0))) r_r8_prefixLists_2)))
def tb_r8_prefixLists : Tbl
  | 0 => ([(0, .no), (3, .no)], b_r8_prefixLists_0)
  | 1 => ([(0, .no), (3, .no), (4, .no)], b_r8_prefixLists_1)
  | 2 => ([(0, .no), (3, .no), (5, .no)], b_r8_prefixLists_2)
  | _ => ([], .skip)
theorem ok_r8_prefixLists : compF Try.prog [24, 26, 28, 68, 101] Try.f42 = some c_r8_prefixLists.strip := by kernel_rfl
theorem tk_r8_prefixLists : TblOk tb_r8_prefixLists c_r8_prefixLists.body := by repeat' first | exact trivial | rfl | refine ⟨?_, ?_⟩
def k_r8_prefixLists_0 (Q : Int × Unit → Prop) : K := (kBlock 0 (kSeq (evC G_r8_prefixLists (Lfp G_r8_prefixLists tb_r8_prefixLists) r_r8_prefixLists_2) (kDone c_r8_prefixLists (dq e_r8_prefixLists.R Q))))
def s_r8_prefixLists_0 (l : List PrefixListT) (v0 : Int) : St := ⟨[(0, [], .f (.fs PrefixListS l)), (3, [], .f (.int .i64 v0))], []⟩
def L_r8_prefixLists_0 (l : List PrefixListT) (v0 : Int) (Q : Int × Unit → Prop) : Prop := Lfp G_r8_prefixLists tb_r8_prefixLists 0 (s_r8_prefixLists_0 l v0) (k_r8_prefixLists_0 Q)
def k_r8_prefixLists_1 (Q : Int × Unit → Prop) : K := (kBlock 2 (kSeq (evC G_r8_prefixLists (Lfp G_r8_prefixLists tb_r8_prefixLists) r_r8_prefixLists_0) (kBlock 1 (kSeq (evC G_r8_prefixLists (Lfp G_r8_prefixLists tb_r8_prefixLists) r_r8_prefixLists_1) (kLoop [(0, .no), (3, .no)] (Lfp G_r8_prefixLists tb_r8_prefixLists 0) (k_r8_prefixLists_0 Q))))))
def s_r8_prefixLists_1 (l : List PrefixListT) (v0 v1 : Int) : St := ⟨[(0, [], .f (.fs PrefixListS l)), (3, [], .f (.int .i64 v0)), (4, [], .f (.int .i64 v1))], []⟩
def L_r8_prefixLists_1 (l : List PrefixListT) (v0 v1 : Int) (Q : Int × Unit → Prop) : Prop := Lfp G_r8_prefixLists tb_r8_prefixLists 1 (s_r8_prefixLists_1 l v0 v1) (k_r8_prefixLists_1 Q)
def k_r8_prefixLists_2 (Q : Int × Unit → Prop) : K := (kBlock 4 (kBlock 1 (kSeq (evC G_r8_prefixLists (Lfp G_r8_prefixLists tb_r8_prefixLists) r_r8_prefixLists_1) (kLoop [(0, .no), (3, .no)] (Lfp G_r8_prefixLists tb_r8_prefixLists 0) (k_r8_prefixLists_0 Q)))))
def s_r8_prefixLists_2 (l : List PrefixListT) (v0 v1 : Int) : St := ⟨[(0, [], .f (.fs PrefixListS l)), (3, [], .f (.int .i64 v1)), (5, [], .f (.int .i64 v0))], []⟩
def L_r8_prefixLists_2 (l : List PrefixListT) (v0 v1 : Int) (Q : Int × Unit → Prop) : Prop := Lfp G_r8_prefixLists tb_r8_prefixLists 2 (s_r8_prefixLists_2 l v0 v1) (k_r8_prefixLists_2 Q)
theorem in_r8_prefixLists (l : List PrefixListT) (Q : Int × Unit → Prop) : evF G_r8_prefixLists (Lfp G_r8_prefixLists tb_r8_prefixLists) c_r8_prefixLists (VSs.enc e_r8_prefixLists.A (l, ())) (dq e_r8_prefixLists.R Q) = (
  cond (decide ((l.length : Int) > 8))
  (Q (7, ()))
  (L_r8_prefixLists_0 l 0 Q)) := by kernel_rfl
theorem rd_r8_prefixLists_0 (l : List PrefixListT) (v0 : Int) (Q : Int × Unit → Prop) (h :
  cond (decide (v0 < (l.length : Int)))
  (cond ((okIx v0 (l.length : Int)) && true)
    (cond (!(g_r4_Name (List.getD l (Int.toNat v0) PrefixListD).1))
      (Q (3, ()))
      (L_r8_prefixLists_1 l v0 0 Q))
    False)
  (Q (0, ()))) : L_r8_prefixLists_0 l v0 Q := Lfp.step (Eq.mpr (by kernel_rfl) h)
theorem rd_r8_prefixLists_1 (l : List PrefixListT) (v0 v1 : Int) (Q : Int × Unit → Prop) (h :
  cond (decide (v1 < v0))
  (cond ((okIx v1 (l.length : Int)) && (okIx v0 (l.length : Int)))
    (cond ((List.getD l (Int.toNat v1) PrefixListD).1 == (List.getD l (Int.toNat v0) PrefixListD).1)
      (Q (4, ()))
      (L_r8_prefixLists_1 l v0 (IntKind.wrap .i64 (v1 + 1)) Q))
    False)
  (cond (okIx v0 (l.length : Int))
    (cond (((List.getD l (Int.toNat v0) PrefixListD).2.1.length : Int) == 0)
      (Q (1, ()))
      (cond (okIx v0 (l.length : Int))
        (cond (decide (((List.getD l (Int.toNat v0) PrefixListD).2.1.length : Int) > 16))
          (Q (7, ()))
          (L_r8_prefixLists_2 l 0 v0 Q))
        False))
    False)) : L_r8_prefixLists_1 l v0 v1 Q := Lfp.step (Eq.mpr (by kernel_rfl) h)
theorem rd_r8_prefixLists_2 (l : List PrefixListT) (v0 v1 : Int) (Q : Int × Unit → Prop) (h :
  cond (okIx v1 (l.length : Int))
  (cond (decide (v0 < ((List.getD l (Int.toNat v1) PrefixListD).2.1.length : Int)))
    (cond (((okIx v1 (l.length : Int)) && (okIx v0 ((List.getD l (Int.toNat v1) PrefixListD).2.1.length : Int))) && true)
      (cond (!(g_r8_ValidPrefixRule (List.getD (List.getD l (Int.toNat v1) PrefixListD).2.1 (Int.toNat v0) PrefixRuleD)))
        (Q (1, ()))
        (L_r8_prefixLists_2 l (IntKind.wrap .i64 (v0 + 1)) v1 Q))
      False)
    (L_r8_prefixLists_0 l (IntKind.wrap .i64 (v1 + 1)) Q))
  False) : L_r8_prefixLists_2 l v0 v1 Q := Lfp.step (Eq.mpr (by kernel_rfl) h)
theorem lp_r8_prefixLists_2 (l : List PrefixListT) (c0 : Nat) (next0 : Int) (Q : Int × Unit → Prop) (hw : VSs.wf e_r8_prefixLists.A (l, ())) (hc0 : c0 < l.length) (hn0 : (fun y : Int => Q (y, ())) next0 → L_r8_prefixLists_0 l (IntKind.wrap .i64 ((c0 : Int) + 1)) Q) (g0 : (decide ((l.length : Int) > 8)) = false) : (fun y : Int => Q (y, ())) (S_r8_prefixLists_2 l c0 next0) → L_r8_prefixLists_2 l 0 (c0 : Int) Q := by
  let FF := (fun y : Int => Q (y, ()))
  refine upV_loop (F := FF) (k := .i64) (n := (List.getD l c0 PrefixListD).2.1.length) (L := (fun c2 : Int => L_r8_prefixLists_2 l c2 (c0 : Int) Q)) (wrap_i64n (show _ ≤ _ from (((wf_getD (hw.1) _).2).1).1)) (fun c2 hc2 hF => rd_r8_prefixLists_2 l (c2 : Int) (c0 : Int) Q (vc_i (by (repeat' (first | rfl | exact nn_d64 _ | exact okIx_nat hc0 | refine and_t ?_ ?_ | refine or_l ?_)); done) (cond_ge (n := (List.getD l c0 PrefixListD).2.1.length) rfl hc2 (hn0 hF)))) (fun c2 _ hc2 next2 hn2 hF => rd_r8_prefixLists_2 l (c2 : Int) (c0 : Int) Q (vc_i (by (repeat' (first | rfl | exact nn_d64 _ | exact okIx_nat hc0 | refine and_t ?_ ?_ | refine or_l ?_)); done) (cond_lt (n := (List.getD l c0 PrefixListD).2.1.length) rfl hc2 ((vc_f (F := FF) (by (repeat' (first | rfl | exact nn_d64 _ | exact okIx_nat hc0 | exact okIx_nat hc2 | refine and_t ?_ ?_ | refine or_l ?_)); done) (cond_f (F := FF) (fun h1 => id) (fun h1 => hn2))) hF))))
theorem lp_r8_prefixLists_1 (l : List PrefixListT) (c0 : Nat) (next0 : Int) (Q : Int × Unit → Prop) (hw : VSs.wf e_r8_prefixLists.A (l, ())) (hc0 : c0 < l.length) (hn0 : (fun y : Int => Q (y, ())) next0 → L_r8_prefixLists_0 l (IntKind.wrap .i64 ((c0 : Int) + 1)) Q) (g0 : (decide ((l.length : Int) > 8)) = false) : (fun y : Int => Q (y, ())) (S_r8_prefixLists_1 l c0 next0) → L_r8_prefixLists_1 l (c0 : Int) 0 Q := by
  let FF := (fun y : Int => Q (y, ()))
  refine upV_loop (F := FF) (k := .i64) (n := c0) (L := (fun c1 : Int => L_r8_prefixLists_1 l (c0 : Int) c1 Q)) (wrap_i64n (Nat.le_trans (Nat.le_of_lt hc0) (show _ ≤ _ from (hw.1).1))) (fun c1 hc1 hF => rd_r8_prefixLists_1 l (c0 : Int) (c1 : Int) Q (cond_ge (n := c0) rfl hc1 ((vc_f (F := FF) (by (repeat' (first | rfl | exact nn_d64 _ | exact okIx_nat hc0 | exact okIx_nat hc1 | exact okIx_nat (Nat.lt_trans hc1 hc0) | refine and_t ?_ ?_ | refine or_l ?_)); done) (cond_f (F := FF) (fun h1 => id) (fun h1 => (vc_f (F := FF) (by (repeat' (first | rfl | exact nn_d64 _ | exact okIx_nat hc0 | exact okIx_nat hc1 | exact okIx_nat (Nat.lt_trans hc1 hc0) | refine and_t ?_ ?_ | refine or_l ?_)); done) (cond_f (F := FF) (fun h2 => id) (fun h2 => (lp_r8_prefixLists_2 l c0 _ Q hw hc0 hn0 g0))))))) hF))) (fun c1 _ hc1 next1 hn1 hF => rd_r8_prefixLists_1 l (c0 : Int) (c1 : Int) Q (cond_lt (n := c0) rfl hc1 ((vc_f (F := FF) (by (repeat' (first | rfl | exact nn_d64 _ | exact okIx_nat hc0 | exact okIx_nat hc1 | exact okIx_nat (Nat.lt_trans hc1 hc0) | refine and_t ?_ ?_ | refine or_l ?_)); done) (cond_f (F := FF) (fun h1 => id) (fun h1 => hn1))) hF)))
theorem lp_r8_prefixLists_0 (l : List PrefixListT) (Q : Int × Unit → Prop) (hw : VSs.wf e_r8_prefixLists.A (l, ()))  (g0 : (decide ((l.length : Int) > 8)) = false) : (fun y : Int => Q (y, ())) (S_r8_prefixLists_0 l) → L_r8_prefixLists_0 l 0 Q := by
  let FF := (fun y : Int => Q (y, ()))
  refine upV_loop (F := FF) (k := .i64) (n := l.length) (L := (fun c0 : Int => L_r8_prefixLists_0 l c0 Q)) (wrap_i64n (show _ ≤ _ from (hw.1).1)) (fun c0 hc0 hF => rd_r8_prefixLists_0 l (c0 : Int) Q (cond_ge (n := l.length) rfl hc0 (id hF))) (fun c0 _ hc0 next0 hn0 hF => rd_r8_prefixLists_0 l (c0 : Int) Q (cond_lt (n := l.length) rfl hc0 ((vc_f (F := FF) (by (repeat' (first | rfl | exact nn_d64 _ | exact okIx_nat hc0 | refine and_t ?_ ?_ | refine or_l ?_)); done) (cond_f (F := FF) (fun h1 => id) (fun h1 => (lp_r8_prefixLists_1 l c0 _ Q hw hc0 hn0 g0)))) hF)))
theorem ct_r8_prefixLists (l : List PrefixListT) (hw : VSs.wf e_r8_prefixLists.A (l, ())) (Q : Int × Unit → Prop) (hq : Q (e_r8_prefixLists.g (l, ()))) : EvF G_r8_prefixLists tb_r8_prefixLists c_r8_prefixLists (VSs.enc e_r8_prefixLists.A (l, ())) (dq e_r8_prefixLists.R Q) := by
  have _ := hw
  let FF := (fun y : Int => Q (y, ()))
  refine EvF.of (in_r8_prefixLists l Q) ?_
  exact (cond_f (F := FF) (fun h0 => id) (fun h0 => (lp_r8_prefixLists_0 l Q hw h0))) hq
/-! netverify/netverifyref8.PrefixList -/
def G_r8_PrefixList : Env := ⟨[], []⟩
def b_r8_PrefixList_0 : ACode := (.seq (.seq (.region [(oI 6 (.mov (.t 5))), (oI 7 (.fld 3 (.t 2))), (oI 8 (.load false 1 (.t 7))), (oI 9 (.len (.t 8))), (oI 10 (.bin .lss (.t 6) (.t 9)))] []) (.cond 10 .skip (.exit 0))) (.seq (.block 1 (.seq (.region [(oI 13 (.fld 3 (.t 2))), (oI 14 (.load false 1 (.t 13))), (oI 15 (.mov (.t 5))), (oI 16 (.ixa 2 (.t 14) (.t 15))), (oI 17 (.fld 0 (.t 16))), (oI 18 (.load false 1 (.t 17))), (oI 19 (.mov (.t 1))), (oI 20 (.bin .eql (.t 18) (.t 19)))] []) (.cond 20 (.seq (.region [(oI 21 (.mov (.t 5))), (oI 4 (.mov (.t 21)))] []) .ret) .skip))) (.region [(oI 11 (.mov (.t 5))), (oI 12 (.bin .add (.t 11) (.c (.f (.int .i64 1))))), (oI 5 (.mov (.t 12)))] [])))
def r_r8_PrefixList_0 : ACode := (.seq (.region [(oI 4 (.mov (.c (.f (.int .i64 (-1))))))] []) .ret)
def c_r8_PrefixList : AFunc := AFunc.mk 22 2 [(.t 4)] (.seq (.region [(oI 2 (.box (.t 0))), (oI 4 (.mov (.c (.f (.int .i64 0)))))] []) (.seq (.seq (.region [(oI 5 (.mov (.c (.f (.int .i64 0)))))] []) (.block 0 (.loop 0 [(1, .no), (2, .no), (5, .no)] b_r8_PrefixList_0))) r_r8_PrefixList_0))
def tb_r8_PrefixList : Tbl
  | 0 => ([(1, .no), (2, .no), (5, .no)], b_r8_PrefixList_0)
  | _ => ([], .skip)
theorem ok_r8_PrefixList : compF Try.prog [24, 26, 28, 68, 101] Try.f74 = some c_r8_PrefixList.strip := by kernel_rfl
theorem tk_r8_PrefixList : TblOk tb_r8_PrefixList c_r8_PrefixList.body := by repeat' first | exact trivial | rfl | refine ⟨?_, ?_⟩
def k_r8_PrefixList_0 (Q : Int × Unit → Prop) : K := (kBlock 0 (kSeq (evC G_r8_PrefixList (Lfp G_r8_PrefixList tb_r8_PrefixList) r_r8_PrefixList_0) (kDone c_r8_PrefixList (dq e_r8_PrefixList.R Q))))
def s_r8_PrefixList_0 (r : RouterT) (name : List UInt8) (v0 : Int) : St := ⟨[(1, [], .f (.str name)), (2, [], .ptr 0 0), (5, [], .f (.int .i64 v0))], [.box none ((RouterS.enc r).map .f)]⟩
def L_r8_PrefixList_0 (r : RouterT) (name : List UInt8) (v0 : Int) (Q : Int × Unit → Prop) : Prop := Lfp G_r8_PrefixList tb_r8_PrefixList 0 (s_r8_PrefixList_0 r name v0) (k_r8_PrefixList_0 Q)
theorem in_r8_PrefixList (r : RouterT) (name : List UInt8) (Q : Int × Unit → Prop) : evF G_r8_PrefixList (Lfp G_r8_PrefixList tb_r8_PrefixList) c_r8_PrefixList (VSs.enc e_r8_PrefixList.A (r, name, ())) (dq e_r8_PrefixList.R Q) = (
  L_r8_PrefixList_0 r name 0 Q) := by kernel_rfl
theorem rd_r8_PrefixList_0 (r : RouterT) (name : List UInt8) (v0 : Int) (Q : Int × Unit → Prop) (h :
  cond (decide (v0 < (r.2.2.2.1.length : Int)))
  (cond (okIx v0 (r.2.2.2.1.length : Int))
    (cond ((List.getD r.2.2.2.1 (Int.toNat v0) PrefixListD).1 == name)
      (Q (v0, ()))
      (L_r8_PrefixList_0 r name (IntKind.wrap .i64 (v0 + 1)) Q))
    False)
  (Q ((-1), ()))) : L_r8_PrefixList_0 r name v0 Q := Lfp.step (Eq.mpr (by kernel_rfl) h)
theorem lp_r8_PrefixList_0 (r : RouterT) (name : List UInt8) (Q : Int × Unit → Prop) (hw : VSs.wf e_r8_PrefixList.A (r, name, ()))  : (fun y : Int => Q (y, ())) (S_r8_PrefixList_0 r name) → L_r8_PrefixList_0 r name 0 Q := by
  let FF := (fun y : Int => Q (y, ()))
  refine upV_loop (F := FF) (k := .i64) (n := r.2.2.2.1.length) (L := (fun c0 : Int => L_r8_PrefixList_0 r name c0 Q)) (wrap_i64n (show _ ≤ _ from (((((hw.1).2).2).2).1).1)) (fun c0 hc0 hF => rd_r8_PrefixList_0 r name (c0 : Int) Q (cond_ge (n := r.2.2.2.1.length) rfl hc0 (id hF))) (fun c0 _ hc0 next0 hn0 hF => rd_r8_PrefixList_0 r name (c0 : Int) Q (cond_lt (n := r.2.2.2.1.length) rfl hc0 ((vc_f (F := FF) (by (repeat' (first | rfl | exact nn_d64 _ | exact okIx_nat hc0 | refine and_t ?_ ?_ | refine or_l ?_)); done) (cond_f (F := FF) (fun h0 => id) (fun h0 => hn0))) hF)))
theorem ct_r8_PrefixList (r : RouterT) (name : List UInt8) (hw : VSs.wf e_r8_PrefixList.A (r, name, ())) (Q : Int × Unit → Prop) (hq : Q (e_r8_PrefixList.g (r, name, ()))) : EvF G_r8_PrefixList tb_r8_PrefixList c_r8_PrefixList (VSs.enc e_r8_PrefixList.A (r, name, ())) (dq e_r8_PrefixList.R Q) := by
  have _ := hw
  let FF := (fun y : Int => Q (y, ()))
  refine EvF.of (in_r8_PrefixList r name Q) ?_
  exact (lp_r8_PrefixList_0 r name Q hw) hq
/-! netverify/netverifyref8.routeMaps -/
def G_r8_routeMaps : Env := ⟨[e_r4_Name, e_r8_within, e_r8_PrefixList], []⟩
def b_r8_routeMaps_1 : ACode := (.seq (.seq (.region [(oI 26 (.mov (.t 5))), (oI 27 (.mov (.t 4))), (oI 28 (.bin .lss (.t 26) (.t 27)))] []) (.cond 28 .skip (.exit 2))) (.seq (.block 3 (.seq (.region [(oI 31 (.mov (.t 3))), (oI 32 (.mov (.t 5))), (oI 33 (.ixa 2 (.t 31) (.t 32))), (oI 34 (.fld 0 (.t 33))), (oI 35 (.load false 1 (.t 34))), (oI 36 (.mov (.t 3))), (oI 37 (.mov (.t 4))), (oI 38 (.ixa 2 (.t 36) (.t 37))), (oI 39 (.fld 0 (.t 38))), (oI 40 (.load false 1 (.t 39))), (oI 41 (.bin .eql (.t 35) (.t 40)))] []) (.cond 41 (.seq (.region [(oI 2 (.mov (.c (.f (.int .i64 4)))))] []) .ret) .skip))) (.region [(oI 29 (.mov (.t 5))), (oI 30 (.bin .add (.t 29) (.c (.f (.int .i64 1))))), (oI 5 (.mov (.t 30)))] [])))
def b_r8_routeMaps_2 : ACode := (.seq (.seq (.region [(oI 56 (.mov (.t 6))), (oI 57 (.mov (.t 3))), (oI 58 (.mov (.t 4))), (oI 59 (.ixa 2 (.t 57) (.t 58))), (oI 60 (.fld 1 (.t 59))), (oI 61 (.load false 1 (.t 60))), (oI 62 (.len (.t 61))), (oI 63 (.bin .lss (.t 56) (.t 62)))] []) (.cond 63 .skip (.exit 4))) (.seq (.block 5 (.seq (.region [(oI 66 (.mov (.t 3))), (oI 67 (.mov (.t 4))), (oI 68 (.ixa 2 (.t 66) (.t 67))), (oI 69 (.fld 1 (.t 68))), (oI 70 (.load false 1 (.t 69))), (oI 71 (.mov (.t 6))), (oI 72 (.ixa 7 (.t 70) (.t 71))), (oI 73 (.load true 7 (.t 72))), (oI 7 (.alloc [(.f (.bool false)), (.f (.str [])), (.f (.int .i64 0)), (.f (.int .i64 0)), (.f (.int .i64 0)), (.f (.int .i64 0)), (.f (.int .i64 0))])), (.mk none none (.store 7 (.t 7) (.t 73)))] []) (.seq (.seq (.region [(oI 74 (.fld 1 (.t 7))), (oI 75 (.load false 1 (.t 74))), (oI 76 (.bin .neq (.t 75) (.c (.f (.str []))))), (oI 77 (.mov (.t 76))), (.mk (some 78) (some (77, true)) (.load true 25 (.t 1))), (.mk (some 79) (some (77, true)) (.fld 1 (.t 7))), (.mk (some 80) (some (77, true)) (.load false 1 (.t 79))), (.mk (some 81) (some (77, true)) (.call 74 [(.t 78), (.t 80)])), (.mk (some 82) (some (77, true)) (.bin .lss (.t 81) (.c (.f (.int .i64 0))))), (oI 83 (.pick 77 (.t 82) (.c (.f (.bool false)))))] []) (.cond 83 (.seq (.region [(oI 2 (.mov (.c (.f (.int .i64 5)))))] []) .ret) .skip)) (.seq (.region [(oI 84 (.fld 2 (.t 7))), (oI 85 (.load false 1 (.t 84))), (oI 86 (.call 40 [(.t 85), (.c (.f (.int .i64 (-1)))), (.c (.f (.int .i64 65535)))])), (oI 87 (.un .not (.t 86))), (oI 88 (.mov (.t 87))), (.mk (some 89) (some (88, false)) (.fld 4 (.t 7))), (.mk (some 90) (some (88, false)) (.load false 1 (.t 89))), (.mk (some 91) (some (88, false)) (.call 40 [(.t 90), (.c (.f (.int .i64 (-1)))), (.c (.f (.int .i64 65535)))])), (.mk (some 92) (some (88, false)) (.un .not (.t 91))), (oI 93 (.pick 88 (.c (.f (.bool true))) (.t 92))), (oI 94 (.mov (.t 93))), (.mk (some 95) (some (94, false)) (.fld 3 (.t 7))), (.mk (some 96) (some (94, false)) (.load false 1 (.t 95))), (.mk (some 97) (some (94, false)) (.call 40 [(.t 96), (.c (.f (.int .i64 (-1)))), (.c (.f (.int .i64 16777215)))])), (.mk (some 98) (some (94, false)) (.un .not (.t 97))), (oI 99 (.pick 94 (.c (.f (.bool true))) (.t 98))), (oI 100 (.mov (.t 99))), (.mk (some 101) (some (100, false)) (.fld 5 (.t 7))), (.mk (some 102) (some (100, false)) (.load false 1 (.t 101))), (.mk (some 103) (some (100, false)) (.call 40 [(.t 102), (.c (.f (.int .i64 (-1)))), (.c (.f (.int .i64 1000000)))])), (.mk (some 104) (some (100, false)) (.un .not (.t 103))), (oI 105 (.pick 100 (.c (.f (.bool true))) (.t 104))), (oI 106 (.mov (.t 105))), (.mk (some 107) (some (106, false)) (.fld 6 (.t 7))), (.mk (some 108) (some (106, false)) (.load false 1 (.t 107))), (.mk (some 109) (some (106, false)) (.call 40 [(.t 108), (.c (.f (.int .i64 0))), (.c (.f (.int .i64 8)))])), (.mk (some 110) (some (106, false)) (.un .not (.t 109))), (oI 111 (.pick 106 (.c (.f (.bool true))) (.t 110)))] []) (.cond 111 (.seq (.region [(oI 2 (.mov (.c (.f (.int .i64 1)))))] []) .ret) .skip))))) (.region [(oI 64 (.mov (.t 6))), (oI 65 (.bin .add (.t 64) (.c (.f (.int .i64 1))))), (oI 6 (.mov (.t 65)))] [])))
def r_r8_routeMaps_0 : ACode := (.seq (.seq (.region [(oI 42 (.mov (.t 3))), (oI 43 (.mov (.t 4))), (oI 44 (.ixa 2 (.t 42) (.t 43))), (oI 45 (.fld 1 (.t 44))), (oI 46 (.load false 1 (.t 45))), (oI 47 (.len (.t 46))), (oI 48 (.bin .eql (.t 47) (.c (.f (.int .i64 0)))))] []) (.cond 48 (.seq (.region [(oI 2 (.mov (.c (.f (.int .i64 1)))))] []) .ret) .skip)) (.seq (.seq (.region [(oI 49 (.mov (.t 3))), (oI 50 (.mov (.t 4))), (oI 51 (.ixa 2 (.t 49) (.t 50))), (oI 52 (.fld 1 (.t 51))), (oI 53 (.load false 1 (.t 52))), (oI 54 (.len (.t 53))), (oI 55 (.bin .gtr (.t 54) (.c (.f (.int .i64 8)))))] []) (.cond 55 (.seq (.region [(oI 2 (.mov (.c (.f (.int .i64 7)))))] []) .ret) .skip)) (.seq (.region [(oI 6 (.mov (.c (.f (.int .i64 0)))))] []) (.block 4 (.loop 2 [(1, .no), (3, .no), (4, .no), (6, .no)] b_r8_routeMaps_2)))))
def r_r8_routeMaps_1 : ACode := (.region [(oI 17 (.mov (.t 4))), (oI 18 (.bin .add (.t 17) (.c (.f (.int .i64 1))))), (oI 4 (.mov (.t 18)))] [])
def b_r8_routeMaps_0 : ACode := (.seq (.seq (.region [(oI 13 (.mov (.t 4))), (oI 14 (.mov (.t 3))), (oI 15 (.len (.t 14))), (oI 16 (.bin .lss (.t 13) (.t 15)))] []) (.cond 16 .skip (.exit 0))) (.seq (.block 1 (.seq (.seq (.region [(oI 19 (.mov (.t 3))), (oI 20 (.mov (.t 4))), (oI 21 (.ixa 2 (.t 19) (.t 20))), (oI 22 (.fld 0 (.t 21))), (oI 23 (.load false 1 (.t 22))), (oI 24 (.call 39 [(.t 23)])), (oI 25 (.un .not (.t 24)))] []) (.cond 25 (.seq (.region [(oI 2 (.mov (.c (.f (.int .i64 3)))))] []) .ret) .skip)) (.seq (.seq (.region [(oI 5 (.mov (.c (.f (.int .i64 0)))))] []) (.block 2 (.loop 1 [(1, .no), (3, .no), (4, .no), (5, .no)] b_r8_routeMaps_1))) r_r8_routeMaps_0))) r_r8_routeMaps_1))
def r_r8_routeMaps_2 : ACode := (.seq (.region [(oI 2 (.mov (.c (.f (.int .i64 0)))))] []) .ret)
def c_r8_routeMaps : AFunc := AFunc.mk 112 1 [(.t 2)] (.seq (.region [(oI 1 (.box (.t 0))), (oI 2 (.mov (.c (.f (.int .i64 0)))))] []) (.seq (.region [(oI 8 (.fld 4 (.t 1))), (oI 9 (.load false 1 (.t 8))), (oI 3 (.mov (.t 9)))] []) (.seq (.seq (.region [(oI 10 (.mov (.t 3))), (oI 11 (.len (.t 10))), (oI 12 (.bin .gtr (.t 11) (.c (.f (.int .i64 8)))))] []) (.cond 12 (.seq (.region [(oI 2 (.mov (.c (.f (.int .i64 7)))))] []) .ret) .skip)) (.seq (.seq (.region [(oI 4 (.mov (.c (.f (.int .i64 0)))))] []) (.block 0 (.loop 0 [(1, .no), (3, .no), (4, .no)] b_r8_routeMaps_0))) r_r8_routeMaps_2))))
def tb_r8_routeMaps : Tbl
  | 0 => ([(1, .no), (3, .no), (4, .no)], b_r8_routeMaps_0)
  | 1 => ([(1, .no), (3, .no), (4, .no), (5, .no)], b_r8_routeMaps_1)
  | 2 => ([(1, .no), (3, .no), (4, .no), (6, .no)], b_r8_routeMaps_2)
  | _ => ([], .skip)
theorem ok_r8_routeMaps : compF Try.prog [24, 26, 28, 68, 101] Try.f43 = some c_r8_routeMaps.strip := by kernel_rfl
theorem tk_r8_routeMaps : TblOk tb_r8_routeMaps c_r8_routeMaps.body := by repeat' first | exact trivial | rfl | refine ⟨?_, ?_⟩
def k_r8_routeMaps_0 (Q : Int × Unit → Prop) : K := (kBlock 0 (kSeq (evC G_r8_routeMaps (Lfp G_r8_routeMaps tb_r8_routeMaps) r_r8_routeMaps_2) (kDone c_r8_routeMaps (dq e_r8_routeMaps.R Q))))
def s_r8_routeMaps_0 (r : RouterT) (v0 : Int) : St := ⟨[(1, [], .ptr 0 0), (3, [], .f (.fs RouteMapS r.2.2.2.2.1)), (4, [], .f (.int .i64 v0))], [.box none ((RouterS.enc r).map .f)]⟩
def L_r8_routeMaps_0 (r : RouterT) (v0 : Int) (Q : Int × Unit → Prop) : Prop := Lfp G_r8_routeMaps tb_r8_routeMaps 0 (s_r8_routeMaps_0 r v0) (k_r8_routeMaps_0 Q)
def k_r8_routeMaps_1 (Q : Int × Unit → Prop) : K := (kBlock 2 (kSeq (evC G_r8_routeMaps (Lfp G_r8_routeMaps tb_r8_routeMaps) r_r8_routeMaps_0) (kBlock 1 (kSeq (evC G_r8_routeMaps (Lfp G_r8_routeMaps tb_r8_routeMaps) r_r8_routeMaps_1) (kLoop [(1, .no), (3, .no), (4, .no)] (Lfp G_r8_routeMaps tb_r8_routeMaps 0) (k_r8_routeMaps_0 Q))))))
def s_r8_routeMaps_1 (r : RouterT) (v0 v1 : Int) : St := ⟨[(1, [], .ptr 0 0), (3, [], .f (.fs RouteMapS r.2.2.2.2.1)), (4, [], .f (.int .i64 v0)), (5, [], .f (.int .i64 v1))], [.box none ((RouterS.enc r).map .f)]⟩
def L_r8_routeMaps_1 (r : RouterT) (v0 v1 : Int) (Q : Int × Unit → Prop) : Prop := Lfp G_r8_routeMaps tb_r8_routeMaps 1 (s_r8_routeMaps_1 r v0 v1) (k_r8_routeMaps_1 Q)
def k_r8_routeMaps_2 (Q : Int × Unit → Prop) : K := (kBlock 4 (kBlock 1 (kSeq (evC G_r8_routeMaps (Lfp G_r8_routeMaps tb_r8_routeMaps) r_r8_routeMaps_1) (kLoop [(1, .no), (3, .no), (4, .no)] (Lfp G_r8_routeMaps tb_r8_routeMaps 0) (k_r8_routeMaps_0 Q)))))
def s_r8_routeMaps_2 (r : RouterT) (v0 v1 : Int) : St := ⟨[(1, [], .ptr 0 0), (3, [], .f (.fs RouteMapS r.2.2.2.2.1)), (4, [], .f (.int .i64 v1)), (6, [], .f (.int .i64 v0))], [.box none ((RouterS.enc r).map .f)]⟩
def L_r8_routeMaps_2 (r : RouterT) (v0 v1 : Int) (Q : Int × Unit → Prop) : Prop := Lfp G_r8_routeMaps tb_r8_routeMaps 2 (s_r8_routeMaps_2 r v0 v1) (k_r8_routeMaps_2 Q)
theorem in_r8_routeMaps (r : RouterT) (Q : Int × Unit → Prop) : evF G_r8_routeMaps (Lfp G_r8_routeMaps tb_r8_routeMaps) c_r8_routeMaps (VSs.enc e_r8_routeMaps.A (r, ())) (dq e_r8_routeMaps.R Q) = (
  cond (decide ((r.2.2.2.2.1.length : Int) > 8))
  (Q (7, ()))
  (L_r8_routeMaps_0 r 0 Q)) := by kernel_rfl
theorem rd_r8_routeMaps_0 (r : RouterT) (v0 : Int) (Q : Int × Unit → Prop) (h :
  cond (decide (v0 < (r.2.2.2.2.1.length : Int)))
  (cond ((okIx v0 (r.2.2.2.2.1.length : Int)) && true)
    (cond (!(g_r4_Name (List.getD r.2.2.2.2.1 (Int.toNat v0) RouteMapD).1))
      (Q (3, ()))
      (L_r8_routeMaps_1 r v0 0 Q))
    False)
  (Q (0, ()))) : L_r8_routeMaps_0 r v0 Q := Lfp.step (Eq.mpr (by kernel_rfl) h)
theorem rd_r8_routeMaps_1 (r : RouterT) (v0 v1 : Int) (Q : Int × Unit → Prop) (h :
  cond (decide (v1 < v0))
  (cond ((okIx v1 (r.2.2.2.2.1.length : Int)) && (okIx v0 (r.2.2.2.2.1.length : Int)))
    (cond ((List.getD r.2.2.2.2.1 (Int.toNat v1) RouteMapD).1 == (List.getD r.2.2.2.2.1 (Int.toNat v0) RouteMapD).1)
      (Q (4, ()))
      (L_r8_routeMaps_1 r v0 (IntKind.wrap .i64 (v1 + 1)) Q))
    False)
  (cond (okIx v0 (r.2.2.2.2.1.length : Int))
    (cond (((List.getD r.2.2.2.2.1 (Int.toNat v0) RouteMapD).2.1.length : Int) == 0)
      (Q (1, ()))
      (cond (okIx v0 (r.2.2.2.2.1.length : Int))
        (cond (decide (((List.getD r.2.2.2.2.1 (Int.toNat v0) RouteMapD).2.1.length : Int) > 8))
          (Q (7, ()))
          (L_r8_routeMaps_2 r 0 v0 Q))
        False))
    False)) : L_r8_routeMaps_1 r v0 v1 Q := Lfp.step (Eq.mpr (by kernel_rfl) h)
theorem rd_r8_routeMaps_2 (r : RouterT) (v0 v1 : Int) (Q : Int × Unit → Prop) (h :
  cond (okIx v1 (r.2.2.2.2.1.length : Int))
  (cond (decide (v0 < ((List.getD r.2.2.2.2.1 (Int.toNat v1) RouteMapD).2.1.length : Int)))
    (cond ((okIx v1 (r.2.2.2.2.1.length : Int)) && (okIx v0 ((List.getD r.2.2.2.2.1 (Int.toNat v1) RouteMapD).2.1.length : Int)))
      (cond ((!((List.getD (List.getD r.2.2.2.2.1 (Int.toNat v1) RouteMapD).2.1 (Int.toNat v0) ClauseD).2.1 == [])) && (decide ((g_r8_PrefixList r (List.getD (List.getD r.2.2.2.2.1 (Int.toNat v1) RouteMapD).2.1 (Int.toNat v0) ClauseD).2.1) < 0)))
        (Q (5, ()))
        (cond (((((!(g_r8_within (List.getD (List.getD r.2.2.2.2.1 (Int.toNat v1) RouteMapD).2.1 (Int.toNat v0) ClauseD).2.2.1 (-1) 65535)) || (!(g_r8_within (List.getD (List.getD r.2.2.2.2.1 (Int.toNat v1) RouteMapD).2.1 (Int.toNat v0) ClauseD).2.2.2.2.1 (-1) 65535))) || (!(g_r8_within (List.getD (List.getD r.2.2.2.2.1 (Int.toNat v1) RouteMapD).2.1 (Int.toNat v0) ClauseD).2.2.2.1 (-1) 16777215))) || (!(g_r8_within (List.getD (List.getD r.2.2.2.2.1 (Int.toNat v1) RouteMapD).2.1 (Int.toNat v0) ClauseD).2.2.2.2.2.1 (-1) 1000000))) || (!(g_r8_within (List.getD (List.getD r.2.2.2.2.1 (Int.toNat v1) RouteMapD).2.1 (Int.toNat v0) ClauseD).2.2.2.2.2.2.1 0 8)))
          (Q (1, ()))
          (L_r8_routeMaps_2 r (IntKind.wrap .i64 (v0 + 1)) v1 Q)))
      False)
    (L_r8_routeMaps_0 r (IntKind.wrap .i64 (v1 + 1)) Q))
  False) : L_r8_routeMaps_2 r v0 v1 Q := Lfp.step (Eq.mpr (by kernel_rfl) h)
theorem lp_r8_routeMaps_2 (r : RouterT) (c0 : Nat) (next0 : Int) (Q : Int × Unit → Prop) (hw : VSs.wf e_r8_routeMaps.A (r, ())) (hc0 : c0 < r.2.2.2.2.1.length) (hn0 : (fun y : Int => Q (y, ())) next0 → L_r8_routeMaps_0 r (IntKind.wrap .i64 ((c0 : Int) + 1)) Q) (g0 : (decide ((r.2.2.2.2.1.length : Int) > 8)) = false) : (fun y : Int => Q (y, ())) (S_r8_routeMaps_2 r c0 next0) → L_r8_routeMaps_2 r 0 (c0 : Int) Q := by
  let FF := (fun y : Int => Q (y, ()))
  refine upV_loop (F := FF) (k := .i64) (n := (List.getD r.2.2.2.2.1 c0 RouteMapD).2.1.length) (L := (fun c2 : Int => L_r8_routeMaps_2 r c2 (c0 : Int) Q)) (wrap_i64n (show _ ≤ _ from (((wf_getD ((((((hw.1).2).2).2).2).1) _).2).1).1)) (fun c2 hc2 hF => rd_r8_routeMaps_2 r (c2 : Int) (c0 : Int) Q (vc_i (by (repeat' (first | rfl | exact nn_d64 _ | exact okIx_nat hc0 | refine and_t ?_ ?_ | refine or_l ?_)); done) (cond_ge (n := (List.getD r.2.2.2.2.1 c0 RouteMapD).2.1.length) rfl hc2 (hn0 hF)))) (fun c2 _ hc2 next2 hn2 hF => rd_r8_routeMaps_2 r (c2 : Int) (c0 : Int) Q (vc_i (by (repeat' (first | rfl | exact nn_d64 _ | exact okIx_nat hc0 | refine and_t ?_ ?_ | refine or_l ?_)); done) (cond_lt (n := (List.getD r.2.2.2.2.1 c0 RouteMapD).2.1.length) rfl hc2 ((vc_f (F := FF) (by (repeat' (first | rfl | exact nn_d64 _ | exact okIx_nat hc0 | exact okIx_nat hc2 | refine and_t ?_ ?_ | refine or_l ?_)); done) (cond_f (F := FF) (fun h1 => id) (fun h1 => (cond_f (F := FF) (fun h2 => id) (fun h2 => hn2))))) hF))))
theorem lp_r8_routeMaps_1 (r : RouterT) (c0 : Nat) (next0 : Int) (Q : Int × Unit → Prop) (hw : VSs.wf e_r8_routeMaps.A (r, ())) (hc0 : c0 < r.2.2.2.2.1.length) (hn0 : (fun y : Int => Q (y, ())) next0 → L_r8_routeMaps_0 r (IntKind.wrap .i64 ((c0 : Int) + 1)) Q) (g0 : (decide ((r.2.2.2.2.1.length : Int) > 8)) = false) : (fun y : Int => Q (y, ())) (S_r8_routeMaps_1 r c0 next0) → L_r8_routeMaps_1 r (c0 : Int) 0 Q := by
  let FF := (fun y : Int => Q (y, ()))
  refine upV_loop (F := FF) (k := .i64) (n := c0) (L := (fun c1 : Int => L_r8_routeMaps_1 r (c0 : Int) c1 Q)) (wrap_i64n (Nat.le_trans (Nat.le_of_lt hc0) (show _ ≤ _ from ((((((hw.1).2).2).2).2).1).1))) (fun c1 hc1 hF => rd_r8_routeMaps_1 r (c0 : Int) (c1 : Int) Q (cond_ge (n := c0) rfl hc1 ((vc_f (F := FF) (by (repeat' (first | rfl | exact nn_d64 _ | exact okIx_nat hc0 | exact okIx_nat hc1 | exact okIx_nat (Nat.lt_trans hc1 hc0) | refine and_t ?_ ?_ | refine or_l ?_)); done) (cond_f (F := FF) (fun h1 => id) (fun h1 => (vc_f (F := FF) (by (repeat' (first | rfl | exact nn_d64 _ | exact okIx_nat hc0 | exact okIx_nat hc1 | exact okIx_nat (Nat.lt_trans hc1 hc0) | refine and_t ?_ ?_ | refine or_l ?_)); done) (cond_f (F := FF) (fun h2 => id) (fun h2 => (lp_r8_routeMaps_2 r c0 _ Q hw hc0 hn0 g0))))))) hF))) (fun c1 _ hc1 next1 hn1 hF => rd_r8_routeMaps_1 r (c0 : Int) (c1 : Int) Q (cond_lt (n := c0) rfl hc1 ((vc_f (F := FF) (by (repeat' (first | rfl | exact nn_d64 _ | exact okIx_nat hc0 | exact okIx_nat hc1 | exact okIx_nat (Nat.lt_trans hc1 hc0) | refine and_t ?_ ?_ | refine or_l ?_)); done) (cond_f (F := FF) (fun h1 => id) (fun h1 => hn1))) hF)))
theorem lp_r8_routeMaps_0 (r : RouterT) (Q : Int × Unit → Prop) (hw : VSs.wf e_r8_routeMaps.A (r, ()))  (g0 : (decide ((r.2.2.2.2.1.length : Int) > 8)) = false) : (fun y : Int => Q (y, ())) (S_r8_routeMaps_0 r) → L_r8_routeMaps_0 r 0 Q := by
  let FF := (fun y : Int => Q (y, ()))
  refine upV_loop (F := FF) (k := .i64) (n := r.2.2.2.2.1.length) (L := (fun c0 : Int => L_r8_routeMaps_0 r c0 Q)) (wrap_i64n (show _ ≤ _ from ((((((hw.1).2).2).2).2).1).1)) (fun c0 hc0 hF => rd_r8_routeMaps_0 r (c0 : Int) Q (cond_ge (n := r.2.2.2.2.1.length) rfl hc0 (id hF))) (fun c0 _ hc0 next0 hn0 hF => rd_r8_routeMaps_0 r (c0 : Int) Q (cond_lt (n := r.2.2.2.2.1.length) rfl hc0 ((vc_f (F := FF) (by (repeat' (first | rfl | exact nn_d64 _ | exact okIx_nat hc0 | refine and_t ?_ ?_ | refine or_l ?_)); done) (cond_f (F := FF) (fun h1 => id) (fun h1 => (lp_r8_routeMaps_1 r c0 _ Q hw hc0 hn0 g0)))) hF)))
theorem ct_r8_routeMaps (r : RouterT) (hw : VSs.wf e_r8_routeMaps.A (r, ())) (Q : Int × Unit → Prop) (hq : Q (e_r8_routeMaps.g (r, ()))) : EvF G_r8_routeMaps tb_r8_routeMaps c_r8_routeMaps (VSs.enc e_r8_routeMaps.A (r, ())) (dq e_r8_routeMaps.R Q) := by
  have _ := hw
  let FF := (fun y : Int => Q (y, ()))
  refine EvF.of (in_r8_routeMaps r Q) ?_
  exact (cond_f (F := FF) (fun h0 => id) (fun h0 => (lp_r8_routeMaps_0 r Q hw h0))) hq
/-! netverify/netverifyref8.ports -/
def G_r8_ports : Env := ⟨[], []⟩
def c_r8_ports : AFunc := AFunc.mk 18 1 [(.t 2)] (.seq (.region [(oI 1 (.box (.t 0))), (oI 2 (.mov (.c (.f (.bool false)))))] []) (.seq (.region [(oI 3 (.fld 0 (.t 1))), (oI 4 (.load false 1 (.t 3))), (oI 5 (.bin .leq (.c (.f (.int .i64 0))) (.t 4))), (oI 6 (.mov (.t 5))), (.mk (some 7) (some (6, true)) (.fld 0 (.t 1))), (.mk (some 8) (some (6, true)) (.load false 1 (.t 7))), (.mk (some 9) (some (6, true)) (.fld 1 (.t 1))), (.mk (some 10) (some (6, true)) (.load false 1 (.t 9))), (.mk (some 11) (some (6, true)) (.bin .leq (.t 8) (.t 10))), (oI 12 (.pick 6 (.t 11) (.c (.f (.bool false))))), (oI 13 (.mov (.t 12))), (.mk (some 14) (some (13, true)) (.fld 1 (.t 1))), (.mk (some 15) (some (13, true)) (.load false 1 (.t 14))), (.mk (some 16) (some (13, true)) (.bin .leq (.t 15) (.c (.f (.int .i64 65535))))), (oI 17 (.pick 13 (.t 16) (.c (.f (.bool false))))), (oI 2 (.mov (.t 17)))] []) .ret))
def tb_r8_ports : Tbl := fun _ => ([], .skip)
theorem ok_r8_ports : compF Try.prog [24, 26, 28, 68, 101] Try.f103 = some c_r8_ports.strip := by kernel_rfl
theorem tk_r8_ports : TblOk tb_r8_ports c_r8_ports.body := ⟨trivial, ⟨trivial, trivial⟩⟩
theorem in_r8_ports (x0 : PortRangeT) (Q : Bool × Unit → Prop) : evF G_r8_ports (Lfp G_r8_ports tb_r8_ports) c_r8_ports (VSs.enc e_r8_ports.A (x0, ())) (dq e_r8_ports.R Q) = (
  Q ((((decide (0 ≤ x0.1)) && (decide (x0.1 ≤ x0.2.1))) && (decide (x0.2.1 ≤ 65535))), ())) := by kernel_rfl
theorem au_r8_ports (x0 : PortRangeT) (Q : Bool × Unit → Prop) : evF G_r8_ports (Lfp G_r8_ports tb_r8_ports) c_r8_ports (VSs.enc e_r8_ports.A (x0, ())) (dq e_r8_ports.R Q) = Q (e_r8_ports.g (x0, ())) := (in_r8_ports x0 Q).trans rfl
/-! netverify/netverifyref8.all -/
def G_r8_all : Env := ⟨[], []⟩
def c_r8_all : AFunc := AFunc.mk 6 1 [(.t 2)] (.seq (.region [(oI 1 (.box (.t 0))), (oI 2 (.mov (.c (.f (.bool false)))))] []) (.seq (.region [(oI 3 (.load true 2 (.t 1))), (oI 4 (.build [(.f (.int .i64 0)), (.f (.int .i64 0))] [(0, (1, (.c (.f (.int .i64 0))))), (1, (1, (.c (.f (.int .i64 65535)))))])), (oI 5 (.eqa false [(0, 1), (1, 1)] (.t 3) (.t 4))), (oI 2 (.mov (.t 5)))] []) .ret))
def tb_r8_all : Tbl := fun _ => ([], .skip)
theorem ok_r8_all : compF Try.prog [24, 26, 28, 68, 101] Try.f104 = some c_r8_all.strip := by kernel_rfl
theorem tk_r8_all : TblOk tb_r8_all c_r8_all.body := ⟨trivial, ⟨trivial, trivial⟩⟩
theorem in_r8_all (x0 : PortRangeT) (Q : Bool × Unit → Prop) : evF G_r8_all (Lfp G_r8_all tb_r8_all) c_r8_all (VSs.enc e_r8_all.A (x0, ())) (dq e_r8_all.R Q) = (
  Q (((x0.1 == 0) && (x0.2.1 == 65535)), ())) := by kernel_rfl
theorem au_r8_all (x0 : PortRangeT) (Q : Bool × Unit → Prop) : evF G_r8_all (Lfp G_r8_all tb_r8_all) c_r8_all (VSs.enc e_r8_all.A (x0, ())) (dq e_r8_all.R Q) = Q (e_r8_all.g (x0, ())) := (in_r8_all x0 Q).trans rfl
/-! netverify/netverifyref8.ValidRule -/
def G_r8_ValidRule : Env := ⟨[e_r8_within, e_r8_ports, e_r8_all], []⟩
def c_r8_ValidRule : AFunc := AFunc.mk 57 1 [(.t 2)] (.seq (.region [(oI 1 (.box (.t 0))), (oI 2 (.mov (.c (.f (.bool false)))))] []) (.seq (.seq (.region [(oI 3 (.fld 1 (.t 1))), (oI 4 (.load false 1 (.t 3))), (oI 5 (.call 40 [(.t 4), (.c (.f (.int .i64 (-1)))), (.c (.f (.int .i64 255)))])), (oI 6 (.un .not (.t 5))), (oI 7 (.mov (.t 6))), (.mk (some 8) (some (7, false)) (.fld 2 (.t 1))), (.mk (some 9) (some (7, false)) (.fld 0 (.t 8))), (.mk (some 10) (some (7, false)) (.load false 1 (.t 9))), (.mk (some 11) (some (7, false)) (.fld 2 (.t 1))), (.mk (some 12) (some (7, false)) (.fld 1 (.t 11))), (.mk (some 13) (some (7, false)) (.load false 1 (.t 12))), (.mk (some 14) (some (7, false)) (.bin .and (.t 10) (.t 13))), (.mk (some 15) (some (7, false)) (.bin .neq (.t 14) (.c (.f (.int .u32 0))))), (oI 16 (.pick 7 (.c (.f (.bool true))) (.t 15))), (oI 17 (.mov (.t 16))), (.mk (some 18) (some (17, false)) (.fld 4 (.t 1))), (.mk (some 19) (some (17, false)) (.fld 0 (.t 18))), (.mk (some 20) (some (17, false)) (.load false 1 (.t 19))), (.mk (some 21) (some (17, false)) (.fld 4 (.t 1))), (.mk (some 22) (some (17, false)) (.fld 1 (.t 21))), (.mk (some 23) (some (17, false)) (.load false 1 (.t 22))), (.mk (some 24) (some (17, false)) (.bin .and (.t 20) (.t 23))), (.mk (some 25) (some (17, false)) (.bin .neq (.t 24) (.c (.f (.int .u32 0))))), (oI 26 (.pick 17 (.c (.f (.bool true))) (.t 25))), (oI 27 (.mov (.t 26))), (.mk (some 28) (some (27, false)) (.fld 6 (.t 1))), (.mk (some 29) (some (27, false)) (.load true 2 (.t 28))), (.mk (some 30) (some (27, false)) (.call 103 [(.t 29)])), (.mk (some 31) (some (27, false)) (.un .not (.t 30))), (oI 32 (.pick 27 (.c (.f (.bool true))) (.t 31))), (oI 33 (.mov (.t 32))), (.mk (some 34) (some (33, false)) (.fld 8 (.t 1))), (.mk (some 35) (some (33, false)) (.load true 2 (.t 34))), (.mk (some 36) (some (33, false)) (.call 103 [(.t 35)])), (.mk (some 37) (some (33, false)) (.un .not (.t 36))), (oI 38 (.pick 33 (.c (.f (.bool true))) (.t 37)))] []) (.cond 38 (.seq (.region [(oI 2 (.mov (.c (.f (.bool false)))))] []) .ret) .skip)) (.seq (.region [(oI 39 (.fld 1 (.t 1))), (oI 40 (.load false 1 (.t 39))), (oI 41 (.bin .eql (.t 40) (.c (.f (.int .i64 6))))), (oI 42 (.mov (.t 41))), (.mk (some 43) (some (42, false)) (.fld 1 (.t 1))), (.mk (some 44) (some (42, false)) (.load false 1 (.t 43))), (.mk (some 45) (some (42, false)) (.bin .eql (.t 44) (.c (.f (.int .i64 17))))), (oI 46 (.pick 42 (.c (.f (.bool true))) (.t 45))), (oI 47 (.mov (.t 46))), (.mk (some 48) (some (47, false)) (.fld 6 (.t 1))), (.mk (some 49) (some (47, false)) (.load true 2 (.t 48))), (.mk (some 50) (some (47, false)) (.call 104 [(.t 49)])), (.mk (some 51) (some (47, false)) (.mov (.t 50))), (.mk (some 52) (some (51, true)) (.fld 8 (.t 1))), (.mk (some 53) (some (51, true)) (.load true 2 (.t 52))), (.mk (some 54) (some (51, true)) (.call 104 [(.t 53)])), (.mk (some 55) (some (47, false)) (.pick 51 (.t 54) (.c (.f (.bool false))))), (oI 56 (.pick 47 (.c (.f (.bool true))) (.t 55))), (oI 2 (.mov (.t 56)))] []) .ret)))
def tb_r8_ValidRule : Tbl := fun _ => ([], .skip)
theorem ok_r8_ValidRule : compF Try.prog [24, 26, 28, 68, 101] Try.f75 = some c_r8_ValidRule.strip := by kernel_rfl
theorem tk_r8_ValidRule : TblOk tb_r8_ValidRule c_r8_ValidRule.body := by repeat' first | exact trivial | rfl | refine ⟨?_, ?_⟩
theorem in_r8_ValidRule (x0 : RuleT) (Q : Bool × Unit → Prop) : evF G_r8_ValidRule (Lfp G_r8_ValidRule tb_r8_ValidRule) c_r8_ValidRule (VSs.enc e_r8_ValidRule.A (x0, ())) (dq e_r8_ValidRule.R Q) = (
  cond (((((!(g_r8_within x0.2.1 (-1) 255)) || ((iand .u32 x0.2.2.1 x0.2.2.2.1) != 0)) || ((iand .u32 x0.2.2.2.2.1 x0.2.2.2.2.2.1) != 0)) || (!(g_r8_ports (x0.2.2.2.2.2.2.1, x0.2.2.2.2.2.2.2.1, ())))) || (!(g_r8_ports x0.2.2.2.2.2.2.2.2)))
  (Q (false, ()))
  (Q ((((x0.2.1 == 6) || (x0.2.1 == 17)) || ((g_r8_all (x0.2.2.2.2.2.2.1, x0.2.2.2.2.2.2.2.1, ())) && (g_r8_all x0.2.2.2.2.2.2.2.2))), ()))) := by kernel_rfl
theorem au_r8_ValidRule (x0 : RuleT) (Q : Bool × Unit → Prop) : evF G_r8_ValidRule (Lfp G_r8_ValidRule tb_r8_ValidRule) c_r8_ValidRule (VSs.enc e_r8_ValidRule.A (x0, ())) (dq e_r8_ValidRule.R Q) = Q (e_r8_ValidRule.g (x0, ())) := (in_r8_ValidRule x0 Q).trans (cond_q (F := fun y : Bool => Q (y, ())) rfl rfl)
/-! netverify/netverifyref8.accessLists -/
def G_r8_accessLists : Env := ⟨[e_r4_Name, e_r8_ValidRule], []⟩
def b_r8_accessLists_1 : ACode := (.seq (.seq (.region [(oI 22 (.mov (.t 4))), (oI 23 (.mov (.t 3))), (oI 24 (.bin .lss (.t 22) (.t 23)))] []) (.cond 24 .skip (.exit 2))) (.seq (.block 3 (.seq (.region [(oI 27 (.mov (.t 0))), (oI 28 (.mov (.t 4))), (oI 29 (.ixa 2 (.t 27) (.t 28))), (oI 30 (.fld 0 (.t 29))), (oI 31 (.load false 1 (.t 30))), (oI 32 (.mov (.t 0))), (oI 33 (.mov (.t 3))), (oI 34 (.ixa 2 (.t 32) (.t 33))), (oI 35 (.fld 0 (.t 34))), (oI 36 (.load false 1 (.t 35))), (oI 37 (.bin .eql (.t 31) (.t 36)))] []) (.cond 37 (.seq (.region [(oI 2 (.mov (.c (.f (.int .i64 4)))))] []) .ret) .skip))) (.region [(oI 25 (.mov (.t 4))), (oI 26 (.bin .add (.t 25) (.c (.f (.int .i64 1))))), (oI 4 (.mov (.t 26)))] [])))
def b_r8_accessLists_2 : ACode := (.seq (.seq (.region [(oI 52 (.mov (.t 5))), (oI 53 (.mov (.t 0))), (oI 54 (.mov (.t 3))), (oI 55 (.ixa 2 (.t 53) (.t 54))), (oI 56 (.fld 1 (.t 55))), (oI 57 (.load false 1 (.t 56))), (oI 58 (.len (.t 57))), (oI 59 (.bin .lss (.t 52) (.t 58)))] []) (.cond 59 .skip (.exit 4))) (.seq (.block 5 (.seq (.region [(oI 62 (.mov (.t 0))), (oI 63 (.mov (.t 3))), (oI 64 (.ixa 2 (.t 62) (.t 63))), (oI 65 (.fld 1 (.t 64))), (oI 66 (.load false 1 (.t 65))), (oI 67 (.mov (.t 5))), (oI 68 (.ixa 10 (.t 66) (.t 67))), (oI 69 (.load true 10 (.t 68))), (oI 70 (.call 75 [(.t 69)])), (oI 71 (.un .not (.t 70)))] []) (.cond 71 (.seq (.region [(oI 2 (.mov (.c (.f (.int .i64 1)))))] []) .ret) .skip))) (.region [(oI 60 (.mov (.t 5))), (oI 61 (.bin .add (.t 60) (.c (.f (.int .i64 1))))), (oI 5 (.mov (.t 61)))] [])))
def r_r8_accessLists_0 : ACode := (.seq (.seq (.region [(oI 38 (.mov (.t 0))), (oI 39 (.mov (.t 3))), (oI 40 (.ixa 2 (.t 38) (.t 39))), (oI 41 (.fld 1 (.t 40))), (oI 42 (.load false 1 (.t 41))), (oI 43 (.len (.t 42))), (oI 44 (.bin .eql (.t 43) (.c (.f (.int .i64 0)))))] []) (.cond 44 (.seq (.region [(oI 2 (.mov (.c (.f (.int .i64 1)))))] []) .ret) .skip)) (.seq (.seq (.region [(oI 45 (.mov (.t 0))), (oI 46 (.mov (.t 3))), (oI 47 (.ixa 2 (.t 45) (.t 46))), (oI 48 (.fld 1 (.t 47))), (oI 49 (.load false 1 (.t 48))), (oI 50 (.len (.t 49))), (oI 51 (.bin .gtr (.t 50) (.c (.f (.int .i64 16)))))] []) (.cond 51 (.seq (.region [(oI 2 (.mov (.c (.f (.int .i64 7)))))] []) .ret) .skip)) (.seq (.region [(oI 5 (.mov (.c (.f (.int .i64 0)))))] []) (.block 4 (.loop 2 [(0, .no), (3, .no), (5, .no)] b_r8_accessLists_2)))))
def r_r8_accessLists_1 : ACode := (.region [(oI 13 (.mov (.t 3))), (oI 14 (.bin .add (.t 13) (.c (.f (.int .i64 1))))), (oI 3 (.mov (.t 14)))] [])
def b_r8_accessLists_0 : ACode := (.seq (.seq (.region [(oI 9 (.mov (.t 3))), (oI 10 (.mov (.t 0))), (oI 11 (.len (.t 10))), (oI 12 (.bin .lss (.t 9) (.t 11)))] []) (.cond 12 .skip (.exit 0))) (.seq (.block 1 (.seq (.seq (.region [(oI 15 (.mov (.t 0))), (oI 16 (.mov (.t 3))), (oI 17 (.ixa 2 (.t 15) (.t 16))), (oI 18 (.fld 0 (.t 17))), (oI 19 (.load false 1 (.t 18))), (oI 20 (.call 39 [(.t 19)])), (oI 21 (.un .not (.t 20)))] []) (.cond 21 (.seq (.region [(oI 2 (.mov (.c (.f (.int .i64 3)))))] []) .ret) .skip)) (.seq (.seq (.region [(oI 4 (.mov (.c (.f (.int .i64 0)))))] []) (.block 2 (.loop 1 [(0, .no), (3, .no), (4, .no)] b_r8_accessLists_1))) r_r8_accessLists_0))) r_r8_accessLists_1))
def r_r8_accessLists_2 : ACode := (.seq (.region [(oI 2 (.mov (.c (.f (.int .i64 0)))))] []) .ret)
def c_r8_accessLists : AFunc := AFunc.mk 72 1 [(.t 2)] (.seq (.region [(oI 2 (.mov (.c (.f (.int .i64 0)))))] []) (.seq (.seq (.region [(oI 6 (.mov (.t 0))), (oI 7 (.len (.t 6))), (oI 8 (.bin .gtr (.t 7) (.c (.f (.int .i64 8)))))] []) (.cond 8 (.seq (.region [(oI 2 (.mov (.c (.f (.int .i64 7)))))] []) .ret) .skip)) (.seq (.seq (.region [(oI 3 (.mov (.c (.f (.int .i64 0)))))] []) (.block 0 (.loop 0 [(0, .no), (3, .no)] b_r8_accessLists_0))) r_r8_accessLists_2)))
def tb_r8_accessLists : Tbl
  | 0 => ([(0, .no), (3, .no)], b_r8_accessLists_0)
  | 1 => ([(0, .no), (3, .no), (4, .no)], b_r8_accessLists_1)
  | 2 => ([(0, .no), (3, .no), (5, .no)], b_r8_accessLists_2)
  | _ => ([], .skip)
theorem ok_r8_accessLists : compF Try.prog [24, 26, 28, 68, 101] Try.f44 = some c_r8_accessLists.strip := by kernel_rfl
theorem tk_r8_accessLists : TblOk tb_r8_accessLists c_r8_accessLists.body := by repeat' first | exact trivial | rfl | refine ⟨?_, ?_⟩
def k_r8_accessLists_0 (Q : Int × Unit → Prop) : K := (kBlock 0 (kSeq (evC G_r8_accessLists (Lfp G_r8_accessLists tb_r8_accessLists) r_r8_accessLists_2) (kDone c_r8_accessLists (dq e_r8_accessLists.R Q))))
def s_r8_accessLists_0 (l : List ACLT) (v0 : Int) : St := ⟨[(0, [], .f (.fs ACLS l)), (3, [], .f (.int .i64 v0))], []⟩
def L_r8_accessLists_0 (l : List ACLT) (v0 : Int) (Q : Int × Unit → Prop) : Prop := Lfp G_r8_accessLists tb_r8_accessLists 0 (s_r8_accessLists_0 l v0) (k_r8_accessLists_0 Q)
def k_r8_accessLists_1 (Q : Int × Unit → Prop) : K := (kBlock 2 (kSeq (evC G_r8_accessLists (Lfp G_r8_accessLists tb_r8_accessLists) r_r8_accessLists_0) (kBlock 1 (kSeq (evC G_r8_accessLists (Lfp G_r8_accessLists tb_r8_accessLists) r_r8_accessLists_1) (kLoop [(0, .no), (3, .no)] (Lfp G_r8_accessLists tb_r8_accessLists 0) (k_r8_accessLists_0 Q))))))
def s_r8_accessLists_1 (l : List ACLT) (v0 v1 : Int) : St := ⟨[(0, [], .f (.fs ACLS l)), (3, [], .f (.int .i64 v0)), (4, [], .f (.int .i64 v1))], []⟩
def L_r8_accessLists_1 (l : List ACLT) (v0 v1 : Int) (Q : Int × Unit → Prop) : Prop := Lfp G_r8_accessLists tb_r8_accessLists 1 (s_r8_accessLists_1 l v0 v1) (k_r8_accessLists_1 Q)
def k_r8_accessLists_2 (Q : Int × Unit → Prop) : K := (kBlock 4 (kBlock 1 (kSeq (evC G_r8_accessLists (Lfp G_r8_accessLists tb_r8_accessLists) r_r8_accessLists_1) (kLoop [(0, .no), (3, .no)] (Lfp G_r8_accessLists tb_r8_accessLists 0) (k_r8_accessLists_0 Q)))))
def s_r8_accessLists_2 (l : List ACLT) (v0 v1 : Int) : St := ⟨[(0, [], .f (.fs ACLS l)), (3, [], .f (.int .i64 v1)), (5, [], .f (.int .i64 v0))], []⟩
def L_r8_accessLists_2 (l : List ACLT) (v0 v1 : Int) (Q : Int × Unit → Prop) : Prop := Lfp G_r8_accessLists tb_r8_accessLists 2 (s_r8_accessLists_2 l v0 v1) (k_r8_accessLists_2 Q)
theorem in_r8_accessLists (l : List ACLT) (Q : Int × Unit → Prop) : evF G_r8_accessLists (Lfp G_r8_accessLists tb_r8_accessLists) c_r8_accessLists (VSs.enc e_r8_accessLists.A (l, ())) (dq e_r8_accessLists.R Q) = (
  cond (decide ((l.length : Int) > 8))
  (Q (7, ()))
  (L_r8_accessLists_0 l 0 Q)) := by kernel_rfl
theorem rd_r8_accessLists_0 (l : List ACLT) (v0 : Int) (Q : Int × Unit → Prop) (h :
  cond (decide (v0 < (l.length : Int)))
  (cond ((okIx v0 (l.length : Int)) && true)
    (cond (!(g_r4_Name (List.getD l (Int.toNat v0) ACLD).1))
      (Q (3, ()))
      (L_r8_accessLists_1 l v0 0 Q))
    False)
  (Q (0, ()))) : L_r8_accessLists_0 l v0 Q := Lfp.step (Eq.mpr (by kernel_rfl) h)
theorem rd_r8_accessLists_1 (l : List ACLT) (v0 v1 : Int) (Q : Int × Unit → Prop) (h :
  cond (decide (v1 < v0))
  (cond ((okIx v1 (l.length : Int)) && (okIx v0 (l.length : Int)))
    (cond ((List.getD l (Int.toNat v1) ACLD).1 == (List.getD l (Int.toNat v0) ACLD).1)
      (Q (4, ()))
      (L_r8_accessLists_1 l v0 (IntKind.wrap .i64 (v1 + 1)) Q))
    False)
  (cond (okIx v0 (l.length : Int))
    (cond (((List.getD l (Int.toNat v0) ACLD).2.1.length : Int) == 0)
      (Q (1, ()))
      (cond (okIx v0 (l.length : Int))
        (cond (decide (((List.getD l (Int.toNat v0) ACLD).2.1.length : Int) > 16))
          (Q (7, ()))
          (L_r8_accessLists_2 l 0 v0 Q))
        False))
    False)) : L_r8_accessLists_1 l v0 v1 Q := Lfp.step (Eq.mpr (by kernel_rfl) h)
theorem rd_r8_accessLists_2 (l : List ACLT) (v0 v1 : Int) (Q : Int × Unit → Prop) (h :
  cond (okIx v1 (l.length : Int))
  (cond (decide (v0 < ((List.getD l (Int.toNat v1) ACLD).2.1.length : Int)))
    (cond (((okIx v1 (l.length : Int)) && (okIx v0 ((List.getD l (Int.toNat v1) ACLD).2.1.length : Int))) && true)
      (cond (!(g_r8_ValidRule (List.getD (List.getD l (Int.toNat v1) ACLD).2.1 (Int.toNat v0) RuleD)))
        (Q (1, ()))
        (L_r8_accessLists_2 l (IntKind.wrap .i64 (v0 + 1)) v1 Q))
      False)
    (L_r8_accessLists_0 l (IntKind.wrap .i64 (v1 + 1)) Q))
  False) : L_r8_accessLists_2 l v0 v1 Q := Lfp.step (Eq.mpr (by kernel_rfl) h)
theorem lp_r8_accessLists_2 (l : List ACLT) (c0 : Nat) (next0 : Int) (Q : Int × Unit → Prop) (hw : VSs.wf e_r8_accessLists.A (l, ())) (hc0 : c0 < l.length) (hn0 : (fun y : Int => Q (y, ())) next0 → L_r8_accessLists_0 l (IntKind.wrap .i64 ((c0 : Int) + 1)) Q) (g0 : (decide ((l.length : Int) > 8)) = false) : (fun y : Int => Q (y, ())) (S_r8_accessLists_2 l c0 next0) → L_r8_accessLists_2 l 0 (c0 : Int) Q := by
  let FF := (fun y : Int => Q (y, ()))
  refine upV_loop (F := FF) (k := .i64) (n := (List.getD l c0 ACLD).2.1.length) (L := (fun c2 : Int => L_r8_accessLists_2 l c2 (c0 : Int) Q)) (wrap_i64n (show _ ≤ _ from (((wf_getD (hw.1) _).2).1).1)) (fun c2 hc2 hF => rd_r8_accessLists_2 l (c2 : Int) (c0 : Int) Q (vc_i (by (repeat' (first | rfl | exact nn_d64 _ | exact okIx_nat hc0 | refine and_t ?_ ?_ | refine or_l ?_)); done) (cond_ge (n := (List.getD l c0 ACLD).2.1.length) rfl hc2 (hn0 hF)))) (fun c2 _ hc2 next2 hn2 hF => rd_r8_accessLists_2 l (c2 : Int) (c0 : Int) Q (vc_i (by (repeat' (first | rfl | exact nn_d64 _ | exact okIx_nat hc0 | refine and_t ?_ ?_ | refine or_l ?_)); done) (cond_lt (n := (List.getD l c0 ACLD).2.1.length) rfl hc2 ((vc_f (F := FF) (by (repeat' (first | rfl | exact nn_d64 _ | exact okIx_nat hc0 | exact okIx_nat hc2 | refine and_t ?_ ?_ | refine or_l ?_)); done) (cond_f (F := FF) (fun h1 => id) (fun h1 => hn2))) hF))))
theorem lp_r8_accessLists_1 (l : List ACLT) (c0 : Nat) (next0 : Int) (Q : Int × Unit → Prop) (hw : VSs.wf e_r8_accessLists.A (l, ())) (hc0 : c0 < l.length) (hn0 : (fun y : Int => Q (y, ())) next0 → L_r8_accessLists_0 l (IntKind.wrap .i64 ((c0 : Int) + 1)) Q) (g0 : (decide ((l.length : Int) > 8)) = false) : (fun y : Int => Q (y, ())) (S_r8_accessLists_1 l c0 next0) → L_r8_accessLists_1 l (c0 : Int) 0 Q := by
  let FF := (fun y : Int => Q (y, ()))
  refine upV_loop (F := FF) (k := .i64) (n := c0) (L := (fun c1 : Int => L_r8_accessLists_1 l (c0 : Int) c1 Q)) (wrap_i64n (Nat.le_trans (Nat.le_of_lt hc0) (show _ ≤ _ from (hw.1).1))) (fun c1 hc1 hF => rd_r8_accessLists_1 l (c0 : Int) (c1 : Int) Q (cond_ge (n := c0) rfl hc1 ((vc_f (F := FF) (by (repeat' (first | rfl | exact nn_d64 _ | exact okIx_nat hc0 | exact okIx_nat hc1 | exact okIx_nat (Nat.lt_trans hc1 hc0) | refine and_t ?_ ?_ | refine or_l ?_)); done) (cond_f (F := FF) (fun h1 => id) (fun h1 => (vc_f (F := FF) (by (repeat' (first | rfl | exact nn_d64 _ | exact okIx_nat hc0 | exact okIx_nat hc1 | exact okIx_nat (Nat.lt_trans hc1 hc0) | refine and_t ?_ ?_ | refine or_l ?_)); done) (cond_f (F := FF) (fun h2 => id) (fun h2 => (lp_r8_accessLists_2 l c0 _ Q hw hc0 hn0 g0))))))) hF))) (fun c1 _ hc1 next1 hn1 hF => rd_r8_accessLists_1 l (c0 : Int) (c1 : Int) Q (cond_lt (n := c0) rfl hc1 ((vc_f (F := FF) (by (repeat' (first | rfl | exact nn_d64 _ | exact okIx_nat hc0 | exact okIx_nat hc1 | exact okIx_nat (Nat.lt_trans hc1 hc0) | refine and_t ?_ ?_ | refine or_l ?_)); done) (cond_f (F := FF) (fun h1 => id) (fun h1 => hn1))) hF)))
theorem lp_r8_accessLists_0 (l : List ACLT) (Q : Int × Unit → Prop) (hw : VSs.wf e_r8_accessLists.A (l, ()))  (g0 : (decide ((l.length : Int) > 8)) = false) : (fun y : Int => Q (y, ())) (S_r8_accessLists_0 l) → L_r8_accessLists_0 l 0 Q := by
  let FF := (fun y : Int => Q (y, ()))
  refine upV_loop (F := FF) (k := .i64) (n := l.length) (L := (fun c0 : Int => L_r8_accessLists_0 l c0 Q)) (wrap_i64n (show _ ≤ _ from (hw.1).1)) (fun c0 hc0 hF => rd_r8_accessLists_0 l (c0 : Int) Q (cond_ge (n := l.length) rfl hc0 (id hF))) (fun c0 _ hc0 next0 hn0 hF => rd_r8_accessLists_0 l (c0 : Int) Q (cond_lt (n := l.length) rfl hc0 ((vc_f (F := FF) (by (repeat' (first | rfl | exact nn_d64 _ | exact okIx_nat hc0 | refine and_t ?_ ?_ | refine or_l ?_)); done) (cond_f (F := FF) (fun h1 => id) (fun h1 => (lp_r8_accessLists_1 l c0 _ Q hw hc0 hn0 g0)))) hF)))
theorem ct_r8_accessLists (l : List ACLT) (hw : VSs.wf e_r8_accessLists.A (l, ())) (Q : Int × Unit → Prop) (hq : Q (e_r8_accessLists.g (l, ()))) : EvF G_r8_accessLists tb_r8_accessLists c_r8_accessLists (VSs.enc e_r8_accessLists.A (l, ())) (dq e_r8_accessLists.R Q) := by
  have _ := hw
  let FF := (fun y : Int => Q (y, ()))
  refine EvF.of (in_r8_accessLists l Q) ?_
  exact (cond_f (F := FF) (fun h0 => id) (fun h0 => (lp_r8_accessLists_0 l Q hw h0))) hq
/-! netverify/netverifyref8.ACL -/
def G_r8_ACL : Env := ⟨[], []⟩
def b_r8_ACL_0 : ACode := (.seq (.seq (.region [(oI 6 (.mov (.t 5))), (oI 7 (.fld 5 (.t 2))), (oI 8 (.load false 1 (.t 7))), (oI 9 (.len (.t 8))), (oI 10 (.bin .lss (.t 6) (.t 9)))] []) (.cond 10 .skip (.exit 0))) (.seq (.block 1 (.seq (.region [(oI 13 (.fld 5 (.t 2))), (oI 14 (.load false 1 (.t 13))), (oI 15 (.mov (.t 5))), (oI 16 (.ixa 2 (.t 14) (.t 15))), (oI 17 (.fld 0 (.t 16))), (oI 18 (.load false 1 (.t 17))), (oI 19 (.mov (.t 1))), (oI 20 (.bin .eql (.t 18) (.t 19)))] []) (.cond 20 (.seq (.region [(oI 21 (.mov (.t 5))), (oI 4 (.mov (.t 21)))] []) .ret) .skip))) (.region [(oI 11 (.mov (.t 5))), (oI 12 (.bin .add (.t 11) (.c (.f (.int .i64 1))))), (oI 5 (.mov (.t 12)))] [])))
def r_r8_ACL_0 : ACode := (.seq (.region [(oI 4 (.mov (.c (.f (.int .i64 (-1))))))] []) .ret)
def c_r8_ACL : AFunc := AFunc.mk 22 2 [(.t 4)] (.seq (.region [(oI 2 (.box (.t 0))), (oI 4 (.mov (.c (.f (.int .i64 0)))))] []) (.seq (.seq (.region [(oI 5 (.mov (.c (.f (.int .i64 0)))))] []) (.block 0 (.loop 0 [(1, .no), (2, .no), (5, .no)] b_r8_ACL_0))) r_r8_ACL_0))
def tb_r8_ACL : Tbl
  | 0 => ([(1, .no), (2, .no), (5, .no)], b_r8_ACL_0)
  | _ => ([], .skip)
theorem ok_r8_ACL : compF Try.prog [24, 26, 28, 68, 101] Try.f20 = some c_r8_ACL.strip := by kernel_rfl
theorem tk_r8_ACL : TblOk tb_r8_ACL c_r8_ACL.body := by repeat' first | exact trivial | rfl | refine ⟨?_, ?_⟩
def k_r8_ACL_0 (Q : Int × Unit → Prop) : K := (kBlock 0 (kSeq (evC G_r8_ACL (Lfp G_r8_ACL tb_r8_ACL) r_r8_ACL_0) (kDone c_r8_ACL (dq e_r8_ACL.R Q))))
def s_r8_ACL_0 (r : RouterT) (name : List UInt8) (v0 : Int) : St := ⟨[(1, [], .f (.str name)), (2, [], .ptr 0 0), (5, [], .f (.int .i64 v0))], [.box none ((RouterS.enc r).map .f)]⟩
def L_r8_ACL_0 (r : RouterT) (name : List UInt8) (v0 : Int) (Q : Int × Unit → Prop) : Prop := Lfp G_r8_ACL tb_r8_ACL 0 (s_r8_ACL_0 r name v0) (k_r8_ACL_0 Q)
theorem in_r8_ACL (r : RouterT) (name : List UInt8) (Q : Int × Unit → Prop) : evF G_r8_ACL (Lfp G_r8_ACL tb_r8_ACL) c_r8_ACL (VSs.enc e_r8_ACL.A (r, name, ())) (dq e_r8_ACL.R Q) = (
  L_r8_ACL_0 r name 0 Q) := by kernel_rfl
theorem rd_r8_ACL_0 (r : RouterT) (name : List UInt8) (v0 : Int) (Q : Int × Unit → Prop) (h :
  cond (decide (v0 < (r.2.2.2.2.2.1.length : Int)))
  (cond (okIx v0 (r.2.2.2.2.2.1.length : Int))
    (cond ((List.getD r.2.2.2.2.2.1 (Int.toNat v0) ACLD).1 == name)
      (Q (v0, ()))
      (L_r8_ACL_0 r name (IntKind.wrap .i64 (v0 + 1)) Q))
    False)
  (Q ((-1), ()))) : L_r8_ACL_0 r name v0 Q := Lfp.step (Eq.mpr (by kernel_rfl) h)
theorem lp_r8_ACL_0 (r : RouterT) (name : List UInt8) (Q : Int × Unit → Prop) (hw : VSs.wf e_r8_ACL.A (r, name, ()))  : (fun y : Int => Q (y, ())) (S_r8_ACL_0 r name) → L_r8_ACL_0 r name 0 Q := by
  let FF := (fun y : Int => Q (y, ()))
  refine upV_loop (F := FF) (k := .i64) (n := r.2.2.2.2.2.1.length) (L := (fun c0 : Int => L_r8_ACL_0 r name c0 Q)) (wrap_i64n (show _ ≤ _ from (((((((hw.1).2).2).2).2).2).1).1)) (fun c0 hc0 hF => rd_r8_ACL_0 r name (c0 : Int) Q (cond_ge (n := r.2.2.2.2.2.1.length) rfl hc0 (id hF))) (fun c0 _ hc0 next0 hn0 hF => rd_r8_ACL_0 r name (c0 : Int) Q (cond_lt (n := r.2.2.2.2.2.1.length) rfl hc0 ((vc_f (F := FF) (by (repeat' (first | rfl | exact nn_d64 _ | exact okIx_nat hc0 | refine and_t ?_ ?_ | refine or_l ?_)); done) (cond_f (F := FF) (fun h0 => id) (fun h0 => hn0))) hF)))
theorem ct_r8_ACL (r : RouterT) (name : List UInt8) (hw : VSs.wf e_r8_ACL.A (r, name, ())) (Q : Int × Unit → Prop) (hq : Q (e_r8_ACL.g (r, name, ()))) : EvF G_r8_ACL tb_r8_ACL c_r8_ACL (VSs.enc e_r8_ACL.A (r, name, ())) (dq e_r8_ACL.R Q) := by
  have _ := hw
  let FF := (fun y : Int => Q (y, ()))
  refine EvF.of (in_r8_ACL r name Q) ?_
  exact (lp_r8_ACL_0 r name Q hw) hq
/-! netverify/netverifyref8.translations -/
def G_r8_translations : Env := ⟨[e_r8_ACL, e_r8_within], []⟩
def b_r8_translations_0 : ACode := (.seq (.seq (.region [(oI 10 (.mov (.t 3))), (oI 11 (.fld 6 (.t 1))), (oI 12 (.load false 1 (.t 11))), (oI 13 (.len (.t 12))), (oI 14 (.bin .lss (.t 10) (.t 13)))] []) (.cond 14 .skip (.exit 0))) (.seq (.block 1 (.seq (.region [(oI 17 (.fld 6 (.t 1))), (oI 18 (.load false 1 (.t 17))), (oI 19 (.mov (.t 3))), (oI 20 (.ixa 9 (.t 18) (.t 19))), (oI 21 (.load true 9 (.t 20))), (oI 4 (.alloc [(.f (.int .i64 0)), (.f (.int .u32 0)), (.f (.int .u32 0)), (.f (.int .i64 0)), (.f (.int .i64 0)), (.f (.int .i64 0)), (.f (.str [])), (.f (.int .u32 0)), (.f (.int .u32 0))])), (.mk none none (.store 9 (.t 4) (.t 21)))] []) (.seq (.region [(oI 5 (.mov (.c (.f (.bool false)))))] []) (.seq (.seq (.region [(oI 22 (.fld 0 (.t 4))), (oI 23 (.load false 1 (.t 22)))] []) (.block 2 (.seq (.region [(oI 25 (.bin .eql (.t 23) (.c (.f (.int .i64 1))))), (oI 24 (.mov (.t 25)))] []) (.cond 24 (.region [(oI 26 (.fld 1 (.t 4))), (oI 27 (.load false 1 (.t 26))), (oI 28 (.bin .neq (.t 27) (.c (.f (.int .u32 0))))), (oI 29 (.mov (.t 28))), (.mk (some 30) (some (29, true)) (.fld 2 (.t 4))), (.mk (some 31) (some (29, true)) (.load false 1 (.t 30))), (.mk (some 32) (some (29, true)) (.bin .neq (.t 31) (.c (.f (.int .u32 0))))), (oI 33 (.pick 29 (.t 32) (.c (.f (.bool false))))), (oI 34 (.mov (.t 33))), (.mk (some 35) (some (34, true)) (.load true 9 (.t 4))), (.mk (some 36) (some (34, true)) (.fld 0 (.t 4))), (.mk (some 37) (some (34, true)) (.load false 1 (.t 36))), (.mk (some 38) (some (34, true)) (.fld 1 (.t 4))), (.mk (some 39) (some (34, true)) (.load false 1 (.t 38))), (.mk (some 40) (some (34, true)) (.fld 2 (.t 4))), (.mk (some 41) (some (34, true)) (.load false 1 (.t 40))), (.mk (some 42) (some (34, true)) (.build [(.f (.int .i64 0)), (.f (.int .u32 0)), (.f (.int .u32 0)), (.f (.int .i64 0)), (.f (.int .i64 0)), (.f (.int .i64 0)), (.f (.str [])), (.f (.int .u32 0)), (.f (.int .u32 0))] [(0, (1, (.t 37))), (1, (1, (.t 39))), (2, (1, (.t 41)))])), (.mk (some 43) (some (34, true)) (.eqa false [(0, 1), (1, 1), (2, 1), (3, 1), (4, 1), (5, 1), (6, 2), (7, 1), (8, 1)] (.t 35) (.t 42))), (oI 44 (.pick 34 (.t 43) (.c (.f (.bool false))))), (oI 5 (.mov (.t 44)))] []) (.seq (.region [(oI 46 (.bin .eql (.t 23) (.c (.f (.int .i64 2))))), (oI 45 (.mov (.t 46)))] []) (.cond 45 (.region [(oI 47 (.fld 7 (.t 4))), (oI 48 (.load false 1 (.t 47))), (oI 49 (.bin .neq (.t 48) (.c (.f (.int .u32 0))))), (oI 50 (.mov (.t 49))), (.mk (some 51) (some (50, true)) (.fld 7 (.t 4))), (.mk (some 52) (some (50, true)) (.load false 1 (.t 51))), (.mk (some 53) (some (50, true)) (.fld 8 (.t 4))), (.mk (some 54) (some (50, true)) (.load false 1 (.t 53))), (.mk (some 55) (some (50, true)) (.bin .leq (.t 52) (.t 54))), (oI 56 (.pick 50 (.t 55) (.c (.f (.bool false))))), (oI 57 (.mov (.t 56))), (.mk (some 58) (some (57, true)) (.fld 8 (.t 4))), (.mk (some 59) (some (57, true)) (.load false 1 (.t 58))), (.mk (some 60) (some (57, true)) (.fld 7 (.t 4))), (.mk (some 61) (some (57, true)) (.load false 1 (.t 60))), (.mk (some 62) (some (57, true)) (.bin .sub (.t 59) (.t 61))), (.mk (some 63) (some (57, true)) (.bin .lss (.t 62) (.c (.f (.int .u32 8))))), (oI 64 (.pick 57 (.t 63) (.c (.f (.bool false))))), (oI 65 (.mov (.t 64))), (.mk (some 66) (some (65, true)) (.load true 9 (.t 4))), (.mk (some 67) (some (65, true)) (.fld 0 (.t 4))), (.mk (some 68) (some (65, true)) (.load false 1 (.t 67))), (.mk (some 69) (some (65, true)) (.fld 6 (.t 4))), (.mk (some 70) (some (65, true)) (.load false 1 (.t 69))), (.mk (some 71) (some (65, true)) (.fld 7 (.t 4))), (.mk (some 72) (some (65, true)) (.load false 1 (.t 71))), (.mk (some 73) (some (65, true)) (.fld 8 (.t 4))), (.mk (some 74) (some (65, true)) (.load false 1 (.t 73))), (.mk (some 75) (some (65, true)) (.build [(.f (.int .i64 0)), (.f (.int .u32 0)), (.f (.int .u32 0)), (.f (.int .i64 0)), (.f (.int .i64 0)), (.f (.int .i64 0)), (.f (.str [])), (.f (.int .u32 0)), (.f (.int .u32 0))] [(0, (1, (.t 68))), (6, (1, (.t 70))), (7, (1, (.t 72))), (8, (1, (.t 74)))])), (.mk (some 76) (some (65, true)) (.eqa false [(0, 1), (1, 1), (2, 1), (3, 1), (4, 1), (5, 1), (6, 2), (7, 1), (8, 1)] (.t 66) (.t 75))), (oI 77 (.pick 65 (.t 76) (.c (.f (.bool false))))), (oI 5 (.mov (.t 77)))] []) (.seq (.region [(oI 79 (.bin .eql (.t 23) (.c (.f (.int .i64 3))))), (oI 78 (.mov (.t 79)))] []) (.cond 78 (.region [(oI 80 (.fld 1 (.t 4))), (oI 81 (.load false 1 (.t 80))), (oI 82 (.bin .neq (.t 81) (.c (.f (.int .u32 0))))), (oI 83 (.mov (.t 82))), (.mk (some 84) (some (83, true)) (.fld 2 (.t 4))), (.mk (some 85) (some (83, true)) (.load false 1 (.t 84))), (.mk (some 86) (some (83, true)) (.bin .neq (.t 85) (.c (.f (.int .u32 0))))), (oI 87 (.pick 83 (.t 86) (.c (.f (.bool false))))), (oI 88 (.mov (.t 87))), (.mk (some 89) (some (88, true)) (.fld 3 (.t 4))), (.mk (some 90) (some (88, true)) (.load false 1 (.t 89))), (.mk (some 91) (some (88, true)) (.bin .eql (.t 90) (.c (.f (.int .i64 6))))), (.mk (some 92) (some (88, true)) (.mov (.t 91))), (.mk (some 93) (some (92, false)) (.fld 3 (.t 4))), (.mk (some 94) (some (92, false)) (.load false 1 (.t 93))), (.mk (some 95) (some (92, false)) (.bin .eql (.t 94) (.c (.f (.int .i64 17))))), (.mk (some 96) (some (88, true)) (.pick 92 (.c (.f (.bool true))) (.t 95))), (oI 97 (.pick 88 (.t 96) (.c (.f (.bool false))))), (oI 98 (.mov (.t 97))), (.mk (some 99) (some (98, true)) (.fld 4 (.t 4))), (.mk (some 100) (some (98, true)) (.load false 1 (.t 99))), (.mk (some 101) (some (98, true)) (.call 40 [(.t 100), (.c (.f (.int .i64 0))), (.c (.f (.int .i64 65535)))])), (oI 102 (.pick 98 (.t 101) (.c (.f (.bool false))))), (oI 103 (.mov (.t 102))), (.mk (some 104) (some (103, true)) (.fld 5 (.t 4))), (.mk (some 105) (some (103, true)) (.load false 1 (.t 104))), (.mk (some 106) (some (103, true)) (.call 40 [(.t 105), (.c (.f (.int .i64 0))), (.c (.f (.int .i64 65535)))])), (oI 107 (.pick 103 (.t 106) (.c (.f (.bool false))))), (oI 108 (.mov (.t 107))), (.mk (some 109) (some (108, true)) (.fld 6 (.t 4))), (.mk (some 110) (some (108, true)) (.load false 1 (.t 109))), (.mk (some 111) (some (108, true)) (.bin .eql (.t 110) (.c (.f (.str []))))), (oI 112 (.pick 108 (.t 111) (.c (.f (.bool false))))), (oI 113 (.mov (.t 112))), (.mk (some 114) (some (113, true)) (.fld 7 (.t 4))), (.mk (some 115) (some (113, true)) (.load false 1 (.t 114))), (.mk (some 116) (some (113, true)) (.bin .eql (.t 115) (.c (.f (.int .u32 0))))), (oI 117 (.pick 113 (.t 116) (.c (.f (.bool false))))), (oI 118 (.mov (.t 117))), (.mk (some 119) (some (118, true)) (.fld 8 (.t 4))), (.mk (some 120) (some (118, true)) (.load false 1 (.t 119))), (.mk (some 121) (some (118, true)) (.bin .eql (.t 120) (.c (.f (.int .u32 0))))), (oI 122 (.pick 118 (.t 121) (.c (.f (.bool false))))), (oI 5 (.mov (.t 122)))] []) .skip)))))))) (.seq (.seq (.region [(oI 123 (.mov (.t 5))), (oI 124 (.un .not (.t 123)))] []) (.cond 124 (.seq (.region [(oI 2 (.mov (.c (.f (.int .i64 1)))))] []) .ret) .skip)) (.seq (.region [(oI 125 (.fld 0 (.t 4))), (oI 126 (.load false 1 (.t 125))), (oI 127 (.bin .eql (.t 126) (.c (.f (.int .i64 2))))), (oI 128 (.mov (.t 127))), (.mk (some 129) (some (128, true)) (.load true 25 (.t 1))), (.mk (some 130) (some (128, true)) (.fld 6 (.t 4))), (.mk (some 131) (some (128, true)) (.load false 1 (.t 130))), (.mk (some 132) (some (128, true)) (.call 20 [(.t 129), (.t 131)])), (.mk (some 133) (some (128, true)) (.bin .lss (.t 132) (.c (.f (.int .i64 0))))), (oI 134 (.pick 128 (.t 133) (.c (.f (.bool false)))))] []) (.cond 134 (.seq (.region [(oI 2 (.mov (.c (.f (.int .i64 5)))))] []) .ret) .skip))))))) (.region [(oI 15 (.mov (.t 3))), (oI 16 (.bin .add (.t 15) (.c (.f (.int .i64 1))))), (oI 3 (.mov (.t 16)))] [])))
def r_r8_translations_0 : ACode := (.seq (.region [(oI 2 (.mov (.c (.f (.int .i64 0)))))] []) .ret)
def c_r8_translations : AFunc := AFunc.mk 135 1 [(.t 2)] (.seq (.region [(oI 1 (.box (.t 0))), (oI 2 (.mov (.c (.f (.int .i64 0)))))] []) (.seq (.seq (.region [(oI 6 (.fld 6 (.t 1))), (oI 7 (.load false 1 (.t 6))), (oI 8 (.len (.t 7))), (oI 9 (.bin .gtr (.t 8) (.c (.f (.int .i64 8)))))] []) (.cond 9 (.seq (.region [(oI 2 (.mov (.c (.f (.int .i64 7)))))] []) .ret) .skip)) (.seq (.seq (.region [(oI 3 (.mov (.c (.f (.int .i64 0)))))] []) (.block 0 (.loop 0 [(1, .no), (3, .no)] b_r8_translations_0))) r_r8_translations_0)))
def tb_r8_translations : Tbl
  | 0 => ([(1, .no), (3, .no)], b_r8_translations_0)
  | _ => ([], .skip)
theorem ok_r8_translations : compF Try.prog [24, 26, 28, 68, 101] Try.f45 = some c_r8_translations.strip := by kernel_rfl
theorem tk_r8_translations : TblOk tb_r8_translations c_r8_translations.body := by repeat' first | exact trivial | rfl | refine ⟨?_, ?_⟩
def k_r8_translations_0 (Q : Int × Unit → Prop) : K := (kBlock 0 (kSeq (evC G_r8_translations (Lfp G_r8_translations tb_r8_translations) r_r8_translations_0) (kDone c_r8_translations (dq e_r8_translations.R Q))))
def s_r8_translations_0 (r : RouterT) (v0 : Int) : St := ⟨[(1, [], .ptr 0 0), (3, [], .f (.int .i64 v0))], [.box none ((RouterS.enc r).map .f)]⟩
def L_r8_translations_0 (r : RouterT) (v0 : Int) (Q : Int × Unit → Prop) : Prop := Lfp G_r8_translations tb_r8_translations 0 (s_r8_translations_0 r v0) (k_r8_translations_0 Q)
theorem in_r8_translations (r : RouterT) (Q : Int × Unit → Prop) : evF G_r8_translations (Lfp G_r8_translations tb_r8_translations) c_r8_translations (VSs.enc e_r8_translations.A (r, ())) (dq e_r8_translations.R Q) = (
  cond (decide ((r.2.2.2.2.2.2.1.length : Int) > 8))
  (Q (7, ()))
  (L_r8_translations_0 r 0 Q)) := by kernel_rfl
theorem rd_r8_translations_0 (r : RouterT) (v0 : Int) (Q : Int × Unit → Prop) (h :
  cond (decide (v0 < (r.2.2.2.2.2.2.1.length : Int)))
  (cond (okIx v0 (r.2.2.2.2.2.2.1.length : Int))
    (cond ((List.getD r.2.2.2.2.2.2.1 (Int.toNat v0) TranslationD).1 == 1)
      (cond (!((((List.getD r.2.2.2.2.2.2.1 (Int.toNat v0) TranslationD).2.1 != 0) && ((List.getD r.2.2.2.2.2.2.1 (Int.toNat v0) TranslationD).2.2.1 != 0)) && (((List.getD r.2.2.2.2.2.2.1 (Int.toNat v0) TranslationD).1 == (List.getD r.2.2.2.2.2.2.1 (Int.toNat v0) TranslationD).1) && (((List.getD r.2.2.2.2.2.2.1 (Int.toNat v0) TranslationD).2.1 == (List.getD r.2.2.2.2.2.2.1 (Int.toNat v0) TranslationD).2.1) && (((List.getD r.2.2.2.2.2.2.1 (Int.toNat v0) TranslationD).2.2.1 == (List.getD r.2.2.2.2.2.2.1 (Int.toNat v0) TranslationD).2.2.1) && (((List.getD r.2.2.2.2.2.2.1 (Int.toNat v0) TranslationD).2.2.2.1 == 0) && (((List.getD r.2.2.2.2.2.2.1 (Int.toNat v0) TranslationD).2.2.2.2.1 == 0) && (((List.getD r.2.2.2.2.2.2.1 (Int.toNat v0) TranslationD).2.2.2.2.2.1 == 0) && (((List.getD r.2.2.2.2.2.2.1 (Int.toNat v0) TranslationD).2.2.2.2.2.2.1 == []) && (((List.getD r.2.2.2.2.2.2.1 (Int.toNat v0) TranslationD).2.2.2.2.2.2.2.1 == 0) && ((List.getD r.2.2.2.2.2.2.1 (Int.toNat v0) TranslationD).2.2.2.2.2.2.2.2.1 == 0)))))))))))
        (Q (1, ()))
        (cond (((List.getD r.2.2.2.2.2.2.1 (Int.toNat v0) TranslationD).1 == 2) && (decide ((g_r8_ACL r (List.getD r.2.2.2.2.2.2.1 (Int.toNat v0) TranslationD).2.2.2.2.2.2.1) < 0)))
          (Q (5, ()))
          (L_r8_translations_0 r (IntKind.wrap .i64 (v0 + 1)) Q)))
      (cond ((List.getD r.2.2.2.2.2.2.1 (Int.toNat v0) TranslationD).1 == 2)
        (cond (!(((((List.getD r.2.2.2.2.2.2.1 (Int.toNat v0) TranslationD).2.2.2.2.2.2.2.1 != 0) && (decide ((List.getD r.2.2.2.2.2.2.1 (Int.toNat v0) TranslationD).2.2.2.2.2.2.2.1 ≤ (List.getD r.2.2.2.2.2.2.1 (Int.toNat v0) TranslationD).2.2.2.2.2.2.2.2.1))) && (decide ((IntKind.wrap .u32 ((List.getD r.2.2.2.2.2.2.1 (Int.toNat v0) TranslationD).2.2.2.2.2.2.2.2.1 - (List.getD r.2.2.2.2.2.2.1 (Int.toNat v0) TranslationD).2.2.2.2.2.2.2.1)) < 8))) && (((List.getD r.2.2.2.2.2.2.1 (Int.toNat v0) TranslationD).1 == (List.getD r.2.2.2.2.2.2.1 (Int.toNat v0) TranslationD).1) && (((List.getD r.2.2.2.2.2.2.1 (Int.toNat v0) TranslationD).2.1 == 0) && (((List.getD r.2.2.2.2.2.2.1 (Int.toNat v0) TranslationD).2.2.1 == 0) && (((List.getD r.2.2.2.2.2.2.1 (Int.toNat v0) TranslationD).2.2.2.1 == 0) && (((List.getD r.2.2.2.2.2.2.1 (Int.toNat v0) TranslationD).2.2.2.2.1 == 0) && (((List.getD r.2.2.2.2.2.2.1 (Int.toNat v0) TranslationD).2.2.2.2.2.1 == 0) && (((List.getD r.2.2.2.2.2.2.1 (Int.toNat v0) TranslationD).2.2.2.2.2.2.1 == (List.getD r.2.2.2.2.2.2.1 (Int.toNat v0) TranslationD).2.2.2.2.2.2.1) && (((List.getD r.2.2.2.2.2.2.1 (Int.toNat v0) TranslationD).2.2.2.2.2.2.2.1 == (List.getD r.2.2.2.2.2.2.1 (Int.toNat v0) TranslationD).2.2.2.2.2.2.2.1) && ((List.getD r.2.2.2.2.2.2.1 (Int.toNat v0) TranslationD).2.2.2.2.2.2.2.2.1 == (List.getD r.2.2.2.2.2.2.1 (Int.toNat v0) TranslationD).2.2.2.2.2.2.2.2.1)))))))))))
          (Q (1, ()))
          (cond (((List.getD r.2.2.2.2.2.2.1 (Int.toNat v0) TranslationD).1 == 2) && (decide ((g_r8_ACL r (List.getD r.2.2.2.2.2.2.1 (Int.toNat v0) TranslationD).2.2.2.2.2.2.1) < 0)))
            (Q (5, ()))
            (L_r8_translations_0 r (IntKind.wrap .i64 (v0 + 1)) Q)))
        (cond ((List.getD r.2.2.2.2.2.2.1 (Int.toNat v0) TranslationD).1 == 3)
          (cond (!(((((((((List.getD r.2.2.2.2.2.2.1 (Int.toNat v0) TranslationD).2.1 != 0) && ((List.getD r.2.2.2.2.2.2.1 (Int.toNat v0) TranslationD).2.2.1 != 0)) && (((List.getD r.2.2.2.2.2.2.1 (Int.toNat v0) TranslationD).2.2.2.1 == 6) || ((List.getD r.2.2.2.2.2.2.1 (Int.toNat v0) TranslationD).2.2.2.1 == 17))) && (g_r8_within (List.getD r.2.2.2.2.2.2.1 (Int.toNat v0) TranslationD).2.2.2.2.1 0 65535)) && (g_r8_within (List.getD r.2.2.2.2.2.2.1 (Int.toNat v0) TranslationD).2.2.2.2.2.1 0 65535)) && ((List.getD r.2.2.2.2.2.2.1 (Int.toNat v0) TranslationD).2.2.2.2.2.2.1 == [])) && ((List.getD r.2.2.2.2.2.2.1 (Int.toNat v0) TranslationD).2.2.2.2.2.2.2.1 == 0)) && ((List.getD r.2.2.2.2.2.2.1 (Int.toNat v0) TranslationD).2.2.2.2.2.2.2.2.1 == 0)))
            (Q (1, ()))
            (cond (((List.getD r.2.2.2.2.2.2.1 (Int.toNat v0) TranslationD).1 == 2) && (decide ((g_r8_ACL r (List.getD r.2.2.2.2.2.2.1 (Int.toNat v0) TranslationD).2.2.2.2.2.2.1) < 0)))
              (Q (5, ()))
              (L_r8_translations_0 r (IntKind.wrap .i64 (v0 + 1)) Q)))
          (Q (1, ())))))
    False)
  (Q (0, ()))) : L_r8_translations_0 r v0 Q := Lfp.step (Eq.mpr (by kernel_rfl) h)
theorem lp_r8_translations_0 (r : RouterT) (Q : Int × Unit → Prop) (hw : VSs.wf e_r8_translations.A (r, ()))  (g0 : (decide ((r.2.2.2.2.2.2.1.length : Int) > 8)) = false) : (fun y : Int => Q (y, ())) (S_r8_translations_0 r) → L_r8_translations_0 r 0 Q := by
  let FF := (fun y : Int => Q (y, ()))
  refine upV_loop (F := FF) (k := .i64) (n := r.2.2.2.2.2.2.1.length) (L := (fun c0 : Int => L_r8_translations_0 r c0 Q)) (wrap_i64n (show _ ≤ _ from ((((((((hw.1).2).2).2).2).2).2).1).1)) (fun c0 hc0 hF => rd_r8_translations_0 r (c0 : Int) Q (cond_ge (n := r.2.2.2.2.2.2.1.length) rfl hc0 (id hF))) (fun c0 _ hc0 next0 hn0 hF => rd_r8_translations_0 r (c0 : Int) Q (cond_lt (n := r.2.2.2.2.2.2.1.length) rfl hc0 ((vc_f (F := FF) (by (repeat' (first | rfl | exact nn_d64 _ | exact okIx_nat hc0 | refine and_t ?_ ?_ | refine or_l ?_)); done) (cond_f (F := FF) (fun h1 => (cond_f (F := FF) (fun h2 => id) (fun h2 => (cond_f (F := FF) (fun h3 => id) (fun h3 => hn0))))) (fun h1 => (cond_f (F := FF) (fun h2 => (cond_f (F := FF) (fun h3 => id) (fun h3 => (cond_f (F := FF) (fun h4 => id) (fun h4 => hn0))))) (fun h2 => (cond_f (F := FF) (fun h3 => (cond_f (F := FF) (fun h4 => id) (fun h4 => (cond_f (F := FF) (fun h5 => id) (fun h5 => hn0))))) (fun h3 => id))))))) hF)))
theorem ct_r8_translations (r : RouterT) (hw : VSs.wf e_r8_translations.A (r, ())) (Q : Int × Unit → Prop) (hq : Q (e_r8_translations.g (r, ()))) : EvF G_r8_translations tb_r8_translations c_r8_translations (VSs.enc e_r8_translations.A (r, ())) (dq e_r8_translations.R Q) := by
  have _ := hw
  let FF := (fun y : Int => Q (y, ()))
  refine EvF.of (in_r8_translations r Q) ?_
  exact (cond_f (F := FF) (fun h0 => id) (fun h0 => (lp_r8_translations_0 r Q hw h0))) hq
/-! netverify/netverifyref8.filters -/
def G_r8_filters : Env := ⟨[e_r8_ACL], []⟩
def b_r8_filters_0 : ACode := (.seq (.seq (.region [(oI 5 (.mov (.t 3))), (oI 6 (.fld 2 (.t 1))), (oI 7 (.load false 1 (.t 6))), (oI 8 (.len (.t 7))), (oI 9 (.bin .lss (.t 5) (.t 8)))] []) (.cond 9 .skip (.exit 0))) (.seq (.block 1 (.seq (.region [(oI 12 (.fld 2 (.t 1))), (oI 13 (.load false 1 (.t 12))), (oI 14 (.mov (.t 3))), (oI 15 (.ixa 12 (.t 13) (.t 14))), (oI 16 (.load true 12 (.t 15))), (oI 4 (.alloc [(.f (.str [])), (.f (.int .u32 0)), (.f (.int .i64 0)), (.f (.int .i64 0)), (.f (.bool false)), (.f (.bool false)), (.f (.int .i64 0)), (.f (.int .i64 0)), (.f (.bool false)), (.f (.str [])), (.f (.str [])), (.f (.int .i64 0))])), (.mk none none (.store 12 (.t 4) (.t 16)))] []) (.seq (.region [(oI 17 (.fld 9 (.t 4))), (oI 18 (.load false 1 (.t 17))), (oI 19 (.bin .neq (.t 18) (.c (.f (.str []))))), (oI 20 (.mov (.t 19))), (.mk (some 21) (some (20, true)) (.load true 25 (.t 1))), (.mk (some 22) (some (20, true)) (.fld 9 (.t 4))), (.mk (some 23) (some (20, true)) (.load false 1 (.t 22))), (.mk (some 24) (some (20, true)) (.call 20 [(.t 21), (.t 23)])), (.mk (some 25) (some (20, true)) (.bin .lss (.t 24) (.c (.f (.int .i64 0))))), (oI 26 (.pick 20 (.t 25) (.c (.f (.bool false))))), (oI 27 (.mov (.t 26))), (.mk (some 28) (some (27, false)) (.fld 10 (.t 4))), (.mk (some 29) (some (27, false)) (.load false 1 (.t 28))), (.mk (some 30) (some (27, false)) (.bin .neq (.t 29) (.c (.f (.str []))))), (.mk (some 31) (some (27, false)) (.mov (.t 30))), (.mk (some 32) (some (31, true)) (.load true 25 (.t 1))), (.mk (some 33) (some (31, true)) (.fld 10 (.t 4))), (.mk (some 34) (some (31, true)) (.load false 1 (.t 33))), (.mk (some 35) (some (31, true)) (.call 20 [(.t 32), (.t 34)])), (.mk (some 36) (some (31, true)) (.bin .lss (.t 35) (.c (.f (.int .i64 0))))), (.mk (some 37) (some (27, false)) (.pick 31 (.t 36) (.c (.f (.bool false))))), (oI 38 (.pick 27 (.c (.f (.bool true))) (.t 37)))] []) (.cond 38 (.seq (.region [(oI 2 (.mov (.c (.f (.int .i64 5)))))] []) .ret) .skip)))) (.region [(oI 10 (.mov (.t 3))), (oI 11 (.bin .add (.t 10) (.c (.f (.int .i64 1))))), (oI 3 (.mov (.t 11)))] [])))
def r_r8_filters_0 : ACode := (.seq (.region [(oI 2 (.mov (.c (.f (.int .i64 0)))))] []) .ret)
def c_r8_filters : AFunc := AFunc.mk 39 1 [(.t 2)] (.seq (.region [(oI 1 (.box (.t 0))), (oI 2 (.mov (.c (.f (.int .i64 0)))))] []) (.seq (.seq (.region [(oI 3 (.mov (.c (.f (.int .i64 0)))))] []) (.block 0 (.loop 0 [(1, .no), (3, .no)] b_r8_filters_0))) r_r8_filters_0))
def tb_r8_filters : Tbl
  | 0 => ([(1, .no), (3, .no)], b_r8_filters_0)
  | _ => ([], .skip)
theorem ok_r8_filters : compF Try.prog [24, 26, 28, 68, 101] Try.f46 = some c_r8_filters.strip := by kernel_rfl
theorem tk_r8_filters : TblOk tb_r8_filters c_r8_filters.body := by repeat' first | exact trivial | rfl | refine ⟨?_, ?_⟩
def k_r8_filters_0 (Q : Int × Unit → Prop) : K := (kBlock 0 (kSeq (evC G_r8_filters (Lfp G_r8_filters tb_r8_filters) r_r8_filters_0) (kDone c_r8_filters (dq e_r8_filters.R Q))))
def s_r8_filters_0 (r : RouterT) (v0 : Int) : St := ⟨[(1, [], .ptr 0 0), (3, [], .f (.int .i64 v0))], [.box none ((RouterS.enc r).map .f)]⟩
def L_r8_filters_0 (r : RouterT) (v0 : Int) (Q : Int × Unit → Prop) : Prop := Lfp G_r8_filters tb_r8_filters 0 (s_r8_filters_0 r v0) (k_r8_filters_0 Q)
theorem in_r8_filters (r : RouterT) (Q : Int × Unit → Prop) : evF G_r8_filters (Lfp G_r8_filters tb_r8_filters) c_r8_filters (VSs.enc e_r8_filters.A (r, ())) (dq e_r8_filters.R Q) = (
  L_r8_filters_0 r 0 Q) := by kernel_rfl
theorem rd_r8_filters_0 (r : RouterT) (v0 : Int) (Q : Int × Unit → Prop) (h :
  cond (decide (v0 < (r.2.2.1.length : Int)))
  (cond (okIx v0 (r.2.2.1.length : Int))
    (cond (((!((List.getD r.2.2.1 (Int.toNat v0) InterfaceD).2.2.2.2.2.2.2.2.2.1 == [])) && (decide ((g_r8_ACL r (List.getD r.2.2.1 (Int.toNat v0) InterfaceD).2.2.2.2.2.2.2.2.2.1) < 0))) || ((!((List.getD r.2.2.1 (Int.toNat v0) InterfaceD).2.2.2.2.2.2.2.2.2.2.1 == [])) && (decide ((g_r8_ACL r (List.getD r.2.2.1 (Int.toNat v0) InterfaceD).2.2.2.2.2.2.2.2.2.2.1) < 0))))
      (Q (5, ()))
      (L_r8_filters_0 r (IntKind.wrap .i64 (v0 + 1)) Q))
    False)
  (Q (0, ()))) : L_r8_filters_0 r v0 Q := Lfp.step (Eq.mpr (by kernel_rfl) h)
theorem lp_r8_filters_0 (r : RouterT) (Q : Int × Unit → Prop) (hw : VSs.wf e_r8_filters.A (r, ()))  : (fun y : Int => Q (y, ())) (S_r8_filters_0 r) → L_r8_filters_0 r 0 Q := by
  let FF := (fun y : Int => Q (y, ()))
  refine upV_loop (F := FF) (k := .i64) (n := r.2.2.1.length) (L := (fun c0 : Int => L_r8_filters_0 r c0 Q)) (wrap_i64n (show _ ≤ _ from ((((hw.1).2).2).1).1)) (fun c0 hc0 hF => rd_r8_filters_0 r (c0 : Int) Q (cond_ge (n := r.2.2.1.length) rfl hc0 (id hF))) (fun c0 _ hc0 next0 hn0 hF => rd_r8_filters_0 r (c0 : Int) Q (cond_lt (n := r.2.2.1.length) rfl hc0 ((vc_f (F := FF) (by (repeat' (first | rfl | exact nn_d64 _ | exact okIx_nat hc0 | refine and_t ?_ ?_ | refine or_l ?_)); done) (cond_f (F := FF) (fun h0 => id) (fun h0 => hn0))) hF)))
theorem ct_r8_filters (r : RouterT) (hw : VSs.wf e_r8_filters.A (r, ())) (Q : Int × Unit → Prop) (hq : Q (e_r8_filters.g (r, ()))) : EvF G_r8_filters tb_r8_filters c_r8_filters (VSs.enc e_r8_filters.A (r, ())) (dq e_r8_filters.R Q) := by
  have _ := hw
  let FF := (fun y : Int => Q (y, ()))
  refine EvF.of (in_r8_filters r Q) ?_
  exact (lp_r8_filters_0 r Q hw) hq
/-! netverify/netverifyref8.Address -/
def G_r8_Address : Env := ⟨[], []⟩
def b_r8_Address_0 : ACode := (.seq (.seq (.region [(oI 6 (.mov (.t 5))), (oI 7 (.fld 2 (.t 2))), (oI 8 (.load false 1 (.t 7))), (oI 9 (.len (.t 8))), (oI 10 (.bin .lss (.t 6) (.t 9)))] []) (.cond 10 .skip (.exit 0))) (.seq (.block 1 (.seq (.region [(oI 13 (.fld 2 (.t 2))), (oI 14 (.load false 1 (.t 13))), (oI 15 (.mov (.t 5))), (oI 16 (.ixa 12 (.t 14) (.t 15))), (oI 17 (.fld 2 (.t 16))), (oI 18 (.load false 1 (.t 17))), (oI 19 (.bin .neq (.t 18) (.c (.f (.int .i64 0))))), (oI 20 (.mov (.t 19))), (.mk (some 21) (some (20, true)) (.fld 2 (.t 2))), (.mk (some 22) (some (20, true)) (.load false 1 (.t 21))), (.mk (some 23) (some (20, true)) (.mov (.t 5))), (.mk (some 24) (some (20, true)) (.ixa 12 (.t 22) (.t 23))), (.mk (some 25) (some (20, true)) (.fld 1 (.t 24))), (.mk (some 26) (some (20, true)) (.load false 1 (.t 25))), (.mk (some 27) (some (20, true)) (.mov (.t 1))), (.mk (some 28) (some (20, true)) (.bin .eql (.t 26) (.t 27))), (oI 29 (.pick 20 (.t 28) (.c (.f (.bool false)))))] []) (.cond 29 (.seq (.region [(oI 30 (.mov (.t 5))), (oI 4 (.mov (.t 30)))] []) .ret) .skip))) (.region [(oI 11 (.mov (.t 5))), (oI 12 (.bin .add (.t 11) (.c (.f (.int .i64 1))))), (oI 5 (.mov (.t 12)))] [])))
def r_r8_Address_0 : ACode := (.seq (.region [(oI 4 (.mov (.c (.f (.int .i64 (-1))))))] []) .ret)
def c_r8_Address : AFunc := AFunc.mk 31 2 [(.t 4)] (.seq (.region [(oI 2 (.box (.t 0))), (oI 4 (.mov (.c (.f (.int .i64 0)))))] []) (.seq (.seq (.region [(oI 5 (.mov (.c (.f (.int .i64 0)))))] []) (.block 0 (.loop 0 [(1, .no), (2, .no), (5, .no)] b_r8_Address_0))) r_r8_Address_0))
def tb_r8_Address : Tbl
  | 0 => ([(1, .no), (2, .no), (5, .no)], b_r8_Address_0)
  | _ => ([], .skip)
theorem ok_r8_Address : compF Try.prog [24, 26, 28, 68, 101] Try.f77 = some c_r8_Address.strip := by kernel_rfl
theorem tk_r8_Address : TblOk tb_r8_Address c_r8_Address.body := by repeat' first | exact trivial | rfl | refine ⟨?_, ?_⟩
def k_r8_Address_0 (Q : Int × Unit → Prop) : K := (kBlock 0 (kSeq (evC G_r8_Address (Lfp G_r8_Address tb_r8_Address) r_r8_Address_0) (kDone c_r8_Address (dq e_r8_Address.R Q))))
def s_r8_Address_0 (r : RouterT) (a v0 : Int) : St := ⟨[(1, [], .f (.int .u32 a)), (2, [], .ptr 0 0), (5, [], .f (.int .i64 v0))], [.box none ((RouterS.enc r).map .f)]⟩
def L_r8_Address_0 (r : RouterT) (a v0 : Int) (Q : Int × Unit → Prop) : Prop := Lfp G_r8_Address tb_r8_Address 0 (s_r8_Address_0 r a v0) (k_r8_Address_0 Q)
theorem in_r8_Address (r : RouterT) (a : Int) (Q : Int × Unit → Prop) : evF G_r8_Address (Lfp G_r8_Address tb_r8_Address) c_r8_Address (VSs.enc e_r8_Address.A (r, a, ())) (dq e_r8_Address.R Q) = (
  L_r8_Address_0 r a 0 Q) := by kernel_rfl
theorem rd_r8_Address_0 (r : RouterT) (a v0 : Int) (Q : Int × Unit → Prop) (h :
  cond (decide (v0 < (r.2.2.1.length : Int)))
  (cond ((okIx v0 (r.2.2.1.length : Int)) && ((okIx v0 (r.2.2.1.length : Int)) || (!((((List.getD r.2.2.1 (Int.toNat v0) InterfaceD).2.2.1 != 0) == true) && true))))
    (cond (((List.getD r.2.2.1 (Int.toNat v0) InterfaceD).2.2.1 != 0) && ((List.getD r.2.2.1 (Int.toNat v0) InterfaceD).2.1 == a))
      (Q (v0, ()))
      (L_r8_Address_0 r a (IntKind.wrap .i64 (v0 + 1)) Q))
    False)
  (Q ((-1), ()))) : L_r8_Address_0 r a v0 Q := Lfp.step (Eq.mpr (by kernel_rfl) h)
theorem lp_r8_Address_0 (r : RouterT) (a : Int) (Q : Int × Unit → Prop) (hw : VSs.wf e_r8_Address.A (r, a, ()))  : (fun y : Int => Q (y, ())) (S_r8_Address_0 r a) → L_r8_Address_0 r a 0 Q := by
  let FF := (fun y : Int => Q (y, ()))
  refine upV_loop (F := FF) (k := .i64) (n := r.2.2.1.length) (L := (fun c0 : Int => L_r8_Address_0 r a c0 Q)) (wrap_i64n (show _ ≤ _ from ((((hw.1).2).2).1).1)) (fun c0 hc0 hF => rd_r8_Address_0 r a (c0 : Int) Q (cond_ge (n := r.2.2.1.length) rfl hc0 (id hF))) (fun c0 _ hc0 next0 hn0 hF => rd_r8_Address_0 r a (c0 : Int) Q (cond_lt (n := r.2.2.1.length) rfl hc0 ((vc_f (F := FF) (by (repeat' (first | rfl | exact nn_d64 _ | exact okIx_nat hc0 | refine and_t ?_ ?_ | refine or_l ?_)); done) (cond_f (F := FF) (fun h0 => id) (fun h0 => hn0))) hF)))
theorem ct_r8_Address (r : RouterT) (a : Int) (hw : VSs.wf e_r8_Address.A (r, a, ())) (Q : Int × Unit → Prop) (hq : Q (e_r8_Address.g (r, a, ()))) : EvF G_r8_Address tb_r8_Address c_r8_Address (VSs.enc e_r8_Address.A (r, a, ())) (dq e_r8_Address.R Q) := by
  have _ := hw
  let FF := (fun y : Int => Q (y, ()))
  refine EvF.of (in_r8_Address r a Q) ?_
  exact (lp_r8_Address_0 r a Q hw) hq
/-! netverify/netverifyref8.Interface -/
def G_r8_Interface : Env := ⟨[], []⟩
def b_r8_Interface_0 : ACode := (.seq (.seq (.region [(oI 6 (.mov (.t 5))), (oI 7 (.fld 2 (.t 2))), (oI 8 (.load false 1 (.t 7))), (oI 9 (.len (.t 8))), (oI 10 (.bin .lss (.t 6) (.t 9)))] []) (.cond 10 .skip (.exit 0))) (.seq (.block 1 (.seq (.region [(oI 13 (.fld 2 (.t 2))), (oI 14 (.load false 1 (.t 13))), (oI 15 (.mov (.t 5))), (oI 16 (.ixa 12 (.t 14) (.t 15))), (oI 17 (.fld 0 (.t 16))), (oI 18 (.load false 1 (.t 17))), (oI 19 (.mov (.t 1))), (oI 20 (.bin .eql (.t 18) (.t 19)))] []) (.cond 20 (.seq (.region [(oI 21 (.mov (.t 5))), (oI 4 (.mov (.t 21)))] []) .ret) .skip))) (.region [(oI 11 (.mov (.t 5))), (oI 12 (.bin .add (.t 11) (.c (.f (.int .i64 1))))), (oI 5 (.mov (.t 12)))] [])))
def r_r8_Interface_0 : ACode := (.seq (.region [(oI 4 (.mov (.c (.f (.int .i64 (-1))))))] []) .ret)
def c_r8_Interface : AFunc := AFunc.mk 22 2 [(.t 4)] (.seq (.region [(oI 2 (.box (.t 0))), (oI 4 (.mov (.c (.f (.int .i64 0)))))] []) (.seq (.seq (.region [(oI 5 (.mov (.c (.f (.int .i64 0)))))] []) (.block 0 (.loop 0 [(1, .no), (2, .no), (5, .no)] b_r8_Interface_0))) r_r8_Interface_0))
def tb_r8_Interface : Tbl
  | 0 => ([(1, .no), (2, .no), (5, .no)], b_r8_Interface_0)
  | _ => ([], .skip)
theorem ok_r8_Interface : compF Try.prog [24, 26, 28, 68, 101] Try.f78 = some c_r8_Interface.strip := by kernel_rfl
theorem tk_r8_Interface : TblOk tb_r8_Interface c_r8_Interface.body := by repeat' first | exact trivial | rfl | refine ⟨?_, ?_⟩
def k_r8_Interface_0 (Q : Int × Unit → Prop) : K := (kBlock 0 (kSeq (evC G_r8_Interface (Lfp G_r8_Interface tb_r8_Interface) r_r8_Interface_0) (kDone c_r8_Interface (dq e_r8_Interface.R Q))))
def s_r8_Interface_0 (r : RouterT) (name : List UInt8) (v0 : Int) : St := ⟨[(1, [], .f (.str name)), (2, [], .ptr 0 0), (5, [], .f (.int .i64 v0))], [.box none ((RouterS.enc r).map .f)]⟩
def L_r8_Interface_0 (r : RouterT) (name : List UInt8) (v0 : Int) (Q : Int × Unit → Prop) : Prop := Lfp G_r8_Interface tb_r8_Interface 0 (s_r8_Interface_0 r name v0) (k_r8_Interface_0 Q)
theorem in_r8_Interface (r : RouterT) (name : List UInt8) (Q : Int × Unit → Prop) : evF G_r8_Interface (Lfp G_r8_Interface tb_r8_Interface) c_r8_Interface (VSs.enc e_r8_Interface.A (r, name, ())) (dq e_r8_Interface.R Q) = (
  L_r8_Interface_0 r name 0 Q) := by kernel_rfl
theorem rd_r8_Interface_0 (r : RouterT) (name : List UInt8) (v0 : Int) (Q : Int × Unit → Prop) (h :
  cond (decide (v0 < (r.2.2.1.length : Int)))
  (cond (okIx v0 (r.2.2.1.length : Int))
    (cond ((List.getD r.2.2.1 (Int.toNat v0) InterfaceD).1 == name)
      (Q (v0, ()))
      (L_r8_Interface_0 r name (IntKind.wrap .i64 (v0 + 1)) Q))
    False)
  (Q ((-1), ()))) : L_r8_Interface_0 r name v0 Q := Lfp.step (Eq.mpr (by kernel_rfl) h)
theorem lp_r8_Interface_0 (r : RouterT) (name : List UInt8) (Q : Int × Unit → Prop) (hw : VSs.wf e_r8_Interface.A (r, name, ()))  : (fun y : Int => Q (y, ())) (S_r8_Interface_0 r name) → L_r8_Interface_0 r name 0 Q := by
  let FF := (fun y : Int => Q (y, ()))
  refine upV_loop (F := FF) (k := .i64) (n := r.2.2.1.length) (L := (fun c0 : Int => L_r8_Interface_0 r name c0 Q)) (wrap_i64n (show _ ≤ _ from ((((hw.1).2).2).1).1)) (fun c0 hc0 hF => rd_r8_Interface_0 r name (c0 : Int) Q (cond_ge (n := r.2.2.1.length) rfl hc0 (id hF))) (fun c0 _ hc0 next0 hn0 hF => rd_r8_Interface_0 r name (c0 : Int) Q (cond_lt (n := r.2.2.1.length) rfl hc0 ((vc_f (F := FF) (by (repeat' (first | rfl | exact nn_d64 _ | exact okIx_nat hc0 | refine and_t ?_ ?_ | refine or_l ?_)); done) (cond_f (F := FF) (fun h0 => id) (fun h0 => hn0))) hF)))
theorem ct_r8_Interface (r : RouterT) (name : List UInt8) (hw : VSs.wf e_r8_Interface.A (r, name, ())) (Q : Int × Unit → Prop) (hq : Q (e_r8_Interface.g (r, name, ()))) : EvF G_r8_Interface tb_r8_Interface c_r8_Interface (VSs.enc e_r8_Interface.A (r, name, ())) (dq e_r8_Interface.R Q) := by
  have _ := hw
  let FF := (fun y : Int => Q (y, ()))
  refine EvF.of (in_r8_Interface r name Q) ?_
  exact (lp_r8_Interface_0 r name Q hw) hq
/-! netverify/netverifyref8.statics -/
def G_r8_statics : Env := ⟨[e_r8_within, e_r4_Valid, e_r8_Address, e_r8_Interface], []⟩
def b_r8_statics_1 : ACode := (.seq (.seq (.region [(oI 86 (.mov (.t 7))), (oI 87 (.mov (.t 3))), (oI 88 (.bin .lss (.t 86) (.t 87)))] []) (.cond 88 .skip (.exit 2))) (.seq (.block 3 (.seq (.region [(oI 91 (.fld 7 (.t 1))), (oI 92 (.load false 1 (.t 91))), (oI 93 (.mov (.t 7))), (oI 94 (.ixa 7 (.t 92) (.t 93))), (oI 95 (.fld 0 (.t 94))), (oI 96 (.load true 2 (.t 95))), (oI 97 (.fld 0 (.t 4))), (oI 98 (.load true 2 (.t 97))), (oI 99 (.eqa false [(0, 1), (1, 1)] (.t 96) (.t 98))), (oI 100 (.mov (.t 99))), (.mk (some 101) (some (100, true)) (.fld 7 (.t 1))), (.mk (some 102) (some (100, true)) (.load false 1 (.t 101))), (.mk (some 103) (some (100, true)) (.mov (.t 7))), (.mk (some 104) (some (100, true)) (.ixa 7 (.t 102) (.t 103))), (.mk (some 105) (some (100, true)) (.fld 5 (.t 104))), (.mk (some 106) (some (100, true)) (.load false 1 (.t 105))), (.mk (some 107) (some (100, true)) (.fld 5 (.t 4))), (.mk (some 108) (some (100, true)) (.load false 1 (.t 107))), (.mk (some 109) (some (100, true)) (.bin .eql (.t 106) (.t 108))), (oI 110 (.pick 100 (.t 109) (.c (.f (.bool false)))))] []) (.cond 110 (.seq (.region [(oI 2 (.mov (.c (.f (.int .i64 6)))))] []) .ret) .skip))) (.region [(oI 89 (.mov (.t 7))), (oI 90 (.bin .add (.t 89) (.c (.f (.int .i64 1))))), (oI 7 (.mov (.t 90)))] [])))
def r_r8_statics_0 : ACode := (.region [(oI 17 (.mov (.t 3))), (oI 18 (.bin .add (.t 17) (.c (.f (.int .i64 1))))), (oI 3 (.mov (.t 18)))] [])
def b_r8_statics_0 : ACode := (.seq (.seq (.region [(oI 12 (.mov (.t 3))), (oI 13 (.fld 7 (.t 1))), (oI 14 (.load false 1 (.t 13))), (oI 15 (.len (.t 14))), (oI 16 (.bin .lss (.t 12) (.t 15)))] []) (.cond 16 .skip (.exit 0))) (.seq (.block 1 (.seq (.region [(oI 19 (.fld 7 (.t 1))), (oI 20 (.load false 1 (.t 19))), (oI 21 (.mov (.t 3))), (oI 22 (.ixa 7 (.t 20) (.t 21))), (oI 23 (.load true 7 (.t 22))), (oI 4 (.alloc [(.f (.int .u32 0)), (.f (.int .i64 0)), (.f (.int .u32 0)), (.f (.str [])), (.f (.bool false)), (.f (.int .i64 0)), (.f (.int .i64 0))])), (.mk none none (.store 7 (.t 4) (.t 23)))] []) (.seq (.region [(oI 5 (.mov (.c (.f (.int .i64 0)))))] []) (.seq (.seq (.region [(oI 24 (.fld 2 (.t 4))), (oI 25 (.load false 1 (.t 24))), (oI 26 (.bin .neq (.t 25) (.c (.f (.int .u32 0)))))] []) (.cond 26 (.region [(oI 27 (.mov (.t 5))), (oI 28 (.bin .add (.t 27) (.c (.f (.int .i64 1))))), (oI 5 (.mov (.t 28)))] []) .skip)) (.seq (.seq (.region [(oI 29 (.fld 3 (.t 4))), (oI 30 (.load false 1 (.t 29))), (oI 31 (.bin .neq (.t 30) (.c (.f (.str [])))))] []) (.cond 31 (.region [(oI 32 (.mov (.t 5))), (oI 33 (.bin .add (.t 32) (.c (.f (.int .i64 1))))), (oI 5 (.mov (.t 33)))] []) .skip)) (.seq (.seq (.region [(oI 34 (.fld 4 (.t 4))), (oI 35 (.load false 1 (.t 34)))] []) (.cond 35 (.region [(oI 36 (.mov (.t 5))), (oI 37 (.bin .add (.t 36) (.c (.f (.int .i64 1))))), (oI 5 (.mov (.t 37)))] []) .skip)) (.seq (.seq (.region [(oI 38 (.fld 0 (.t 4))), (oI 39 (.load true 2 (.t 38))), (oI 40 (.call 76 [(.t 39)])), (oI 41 (.un .not (.t 40))), (oI 42 (.mov (.t 41))), (.mk (some 43) (some (42, false)) (.mov (.t 5))), (.mk (some 44) (some (42, false)) (.bin .neq (.t 43) (.c (.f (.int .i64 1))))), (oI 45 (.pick 42 (.c (.f (.bool true))) (.t 44))), (oI 46 (.mov (.t 45))), (.mk (some 47) (some (46, false)) (.fld 2 (.t 4))), (.mk (some 48) (some (46, false)) (.load false 1 (.t 47))), (.mk (some 49) (some (46, false)) (.bin .neq (.t 48) (.c (.f (.int .u32 0))))), (.mk (some 50) (some (46, false)) (.mov (.t 49))), (.mk (some 51) (some (50, true)) (.load true 25 (.t 1))), (.mk (some 52) (some (50, true)) (.fld 2 (.t 4))), (.mk (some 53) (some (50, true)) (.load false 1 (.t 52))), (.mk (some 54) (some (50, true)) (.call 77 [(.t 51), (.t 53)])), (.mk (some 55) (some (50, true)) (.bin .geq (.t 54) (.c (.f (.int .i64 0))))), (.mk (some 56) (some (46, false)) (.pick 50 (.t 55) (.c (.f (.bool false))))), (oI 57 (.pick 46 (.c (.f (.bool true))) (.t 56))), (oI 58 (.mov (.t 57))), (.mk (some 59) (some (58, false)) (.fld 5 (.t 4))), (.mk (some 60) (some (58, false)) (.load false 1 (.t 59))), (.mk (some 61) (some (58, false)) (.call 40 [(.t 60), (.c (.f (.int .i64 1))), (.c (.f (.int .i64 255)))])), (.mk (some 62) (some (58, false)) (.un .not (.t 61))), (oI 63 (.pick 58 (.c (.f (.bool true))) (.t 62))), (oI 64 (.mov (.t 63))), (.mk (some 65) (some (64, false)) (.fld 6 (.t 4))), (.mk (some 66) (some (64, false)) (.load false 1 (.t 65))), (.mk (some 67) (some (64, false)) (.call 40 [(.t 66), (.c (.f (.int .i64 0))), (.c (.f (.int .i64 65535)))])), (.mk (some 68) (some (64, false)) (.un .not (.t 67))), (oI 69 (.pick 64 (.c (.f (.bool true))) (.t 68)))] []) (.cond 69 (.seq (.region [(oI 2 (.mov (.c (.f (.int .i64 1)))))] []) .ret) .skip)) (.seq (.seq (.region [(oI 70 (.fld 3 (.t 4))), (oI 71 (.load false 1 (.t 70))), (oI 72 (.bin .neq (.t 71) (.c (.f (.str [])))))] []) (.cond 72 (.seq (.region [(oI 73 (.load true 25 (.t 1))), (oI 74 (.fld 3 (.t 4))), (oI 75 (.load false 1 (.t 74))), (oI 76 (.call 78 [(.t 73), (.t 75)])), (oI 6 (.mov (.t 76)))] []) (.seq (.seq (.region [(oI 77 (.mov (.t 6))), (oI 78 (.bin .lss (.t 77) (.c (.f (.int .i64 0)))))] []) (.cond 78 (.seq (.region [(oI 2 (.mov (.c (.f (.int .i64 5)))))] []) .ret) .skip)) (.seq (.region [(oI 79 (.fld 2 (.t 1))), (oI 80 (.load false 1 (.t 79))), (oI 81 (.mov (.t 6))), (oI 82 (.ixa 12 (.t 80) (.t 81))), (oI 83 (.fld 2 (.t 82))), (oI 84 (.load false 1 (.t 83))), (oI 85 (.bin .eql (.t 84) (.c (.f (.int .i64 0)))))] []) (.cond 85 (.seq (.region [(oI 2 (.mov (.c (.f (.int .i64 1)))))] []) .ret) .skip)))) .skip)) (.seq (.region [(oI 7 (.mov (.c (.f (.int .i64 0)))))] []) (.block 2 (.loop 1 [(1, .no), (3, .no), (4, .no), (7, .no)] b_r8_statics_1))))))))))) r_r8_statics_0))
def r_r8_statics_1 : ACode := (.seq (.region [(oI 2 (.mov (.c (.f (.int .i64 0)))))] []) .ret)
def c_r8_statics : AFunc := AFunc.mk 111 1 [(.t 2)] (.seq (.region [(oI 1 (.box (.t 0))), (oI 2 (.mov (.c (.f (.int .i64 0)))))] []) (.seq (.seq (.region [(oI 8 (.fld 7 (.t 1))), (oI 9 (.load false 1 (.t 8))), (oI 10 (.len (.t 9))), (oI 11 (.bin .gtr (.t 10) (.c (.f (.int .i64 16)))))] []) (.cond 11 (.seq (.region [(oI 2 (.mov (.c (.f (.int .i64 7)))))] []) .ret) .skip)) (.seq (.seq (.region [(oI 3 (.mov (.c (.f (.int .i64 0)))))] []) (.block 0 (.loop 0 [(1, .no), (3, .no)] b_r8_statics_0))) r_r8_statics_1)))
def tb_r8_statics : Tbl
  | 0 => ([(1, .no), (3, .no)], b_r8_statics_0)
  | 1 => ([(1, .no), (3, .no), (4, .no), (7, .no)], b_r8_statics_1)
  | _ => ([], .skip)
theorem ok_r8_statics : compF Try.prog [24, 26, 28, 68, 101] Try.f47 = some c_r8_statics.strip := by kernel_rfl
theorem tk_r8_statics : TblOk tb_r8_statics c_r8_statics.body := by repeat' first | exact trivial | rfl | refine ⟨?_, ?_⟩
def k_r8_statics_0 (Q : Int × Unit → Prop) : K := (kBlock 0 (kSeq (evC G_r8_statics (Lfp G_r8_statics tb_r8_statics) r_r8_statics_1) (kDone c_r8_statics (dq e_r8_statics.R Q))))
def s_r8_statics_0 (r : RouterT) (v0 : Int) : St := ⟨[(1, [], .ptr 0 0), (3, [], .f (.int .i64 v0))], [.box none ((RouterS.enc r).map .f)]⟩
def L_r8_statics_0 (r : RouterT) (v0 : Int) (Q : Int × Unit → Prop) : Prop := Lfp G_r8_statics tb_r8_statics 0 (s_r8_statics_0 r v0) (k_r8_statics_0 Q)
def k_r8_statics_1 (Q : Int × Unit → Prop) : K := (kBlock 2 (kBlock 1 (kSeq (evC G_r8_statics (Lfp G_r8_statics tb_r8_statics) r_r8_statics_0) (kLoop [(1, .no), (3, .no)] (Lfp G_r8_statics tb_r8_statics 0) (k_r8_statics_0 Q)))))
def s_r8_statics_1 (r : RouterT) (v0 : Int) (v1 : StaticRouteT) (v2 : Int) : St := ⟨[(1, [], .ptr 0 0), (3, [], .f (.int .i64 v0)), (4, [], .ptr 1 0), (7, [], .f (.int .i64 v2))], [.box none ((RouterS.enc r).map .f), .box none ((StaticRouteS.enc v1).map .f)]⟩
def L_r8_statics_1 (r : RouterT) (v0 : Int) (v1 : StaticRouteT) (v2 : Int) (Q : Int × Unit → Prop) : Prop := Lfp G_r8_statics tb_r8_statics 1 (s_r8_statics_1 r v0 v1 v2) (k_r8_statics_1 Q)
theorem in_r8_statics (r : RouterT) (Q : Int × Unit → Prop) : evF G_r8_statics (Lfp G_r8_statics tb_r8_statics) c_r8_statics (VSs.enc e_r8_statics.A (r, ())) (dq e_r8_statics.R Q) = (
  cond (decide ((r.2.2.2.2.2.2.2.1.length : Int) > 16))
  (Q (7, ()))
  (L_r8_statics_0 r 0 Q)) := by kernel_rfl
theorem rd_r8_statics_0 (r : RouterT) (v0 : Int) (Q : Int × Unit → Prop) (h :
  cond (decide (v0 < (r.2.2.2.2.2.2.2.1.length : Int)))
  (cond (okIx v0 (r.2.2.2.2.2.2.2.1.length : Int))
    (cond ((List.getD r.2.2.2.2.2.2.2.1 (Int.toNat v0) StaticRouteD).2.2.1 != 0)
      (cond (!((List.getD r.2.2.2.2.2.2.2.1 (Int.toNat v0) StaticRouteD).2.2.2.1 == []))
        (cond (List.getD r.2.2.2.2.2.2.2.1 (Int.toNat v0) StaticRouteD).2.2.2.2.1
          (cond (((((!(g_r4_Valid ((List.getD r.2.2.2.2.2.2.2.1 (Int.toNat v0) StaticRouteD).1, (List.getD r.2.2.2.2.2.2.2.1 (Int.toNat v0) StaticRouteD).2.1, ()))) || true) || (((List.getD r.2.2.2.2.2.2.2.1 (Int.toNat v0) StaticRouteD).2.2.1 != 0) && (decide ((g_r8_Address r (List.getD r.2.2.2.2.2.2.2.1 (Int.toNat v0) StaticRouteD).2.2.1) ≥ 0)))) || (!(g_r8_within (List.getD r.2.2.2.2.2.2.2.1 (Int.toNat v0) StaticRouteD).2.2.2.2.2.1 1 255))) || (!(g_r8_within (List.getD r.2.2.2.2.2.2.2.1 (Int.toNat v0) StaticRouteD).2.2.2.2.2.2.1 0 65535)))
            (Q (1, ()))
            (cond (!((List.getD r.2.2.2.2.2.2.2.1 (Int.toNat v0) StaticRouteD).2.2.2.1 == []))
              (cond (decide ((g_r8_Interface r (List.getD r.2.2.2.2.2.2.2.1 (Int.toNat v0) StaticRouteD).2.2.2.1) < 0))
                (Q (5, ()))
                (cond (okIx (g_r8_Interface r (List.getD r.2.2.2.2.2.2.2.1 (Int.toNat v0) StaticRouteD).2.2.2.1) (r.2.2.1.length : Int))
                  (cond ((List.getD r.2.2.1 (Int.toNat (g_r8_Interface r (List.getD r.2.2.2.2.2.2.2.1 (Int.toNat v0) StaticRouteD).2.2.2.1)) InterfaceD).2.2.1 == 0)
                    (Q (1, ()))
                    (L_r8_statics_1 r v0 (List.getD r.2.2.2.2.2.2.2.1 (Int.toNat v0) StaticRouteD) 0 Q))
                  False))
              (L_r8_statics_1 r v0 (List.getD r.2.2.2.2.2.2.2.1 (Int.toNat v0) StaticRouteD) 0 Q)))
          (cond (((((!(g_r4_Valid ((List.getD r.2.2.2.2.2.2.2.1 (Int.toNat v0) StaticRouteD).1, (List.getD r.2.2.2.2.2.2.2.1 (Int.toNat v0) StaticRouteD).2.1, ()))) || true) || (((List.getD r.2.2.2.2.2.2.2.1 (Int.toNat v0) StaticRouteD).2.2.1 != 0) && (decide ((g_r8_Address r (List.getD r.2.2.2.2.2.2.2.1 (Int.toNat v0) StaticRouteD).2.2.1) ≥ 0)))) || (!(g_r8_within (List.getD r.2.2.2.2.2.2.2.1 (Int.toNat v0) StaticRouteD).2.2.2.2.2.1 1 255))) || (!(g_r8_within (List.getD r.2.2.2.2.2.2.2.1 (Int.toNat v0) StaticRouteD).2.2.2.2.2.2.1 0 65535)))
            (Q (1, ()))
            (cond (!((List.getD r.2.2.2.2.2.2.2.1 (Int.toNat v0) StaticRouteD).2.2.2.1 == []))
              (cond (decide ((g_r8_Interface r (List.getD r.2.2.2.2.2.2.2.1 (Int.toNat v0) StaticRouteD).2.2.2.1) < 0))
                (Q (5, ()))
                (cond (okIx (g_r8_Interface r (List.getD r.2.2.2.2.2.2.2.1 (Int.toNat v0) StaticRouteD).2.2.2.1) (r.2.2.1.length : Int))
                  (cond ((List.getD r.2.2.1 (Int.toNat (g_r8_Interface r (List.getD r.2.2.2.2.2.2.2.1 (Int.toNat v0) StaticRouteD).2.2.2.1)) InterfaceD).2.2.1 == 0)
                    (Q (1, ()))
                    (L_r8_statics_1 r v0 (List.getD r.2.2.2.2.2.2.2.1 (Int.toNat v0) StaticRouteD) 0 Q))
                  False))
              (L_r8_statics_1 r v0 (List.getD r.2.2.2.2.2.2.2.1 (Int.toNat v0) StaticRouteD) 0 Q))))
        (cond (List.getD r.2.2.2.2.2.2.2.1 (Int.toNat v0) StaticRouteD).2.2.2.2.1
          (cond (((((!(g_r4_Valid ((List.getD r.2.2.2.2.2.2.2.1 (Int.toNat v0) StaticRouteD).1, (List.getD r.2.2.2.2.2.2.2.1 (Int.toNat v0) StaticRouteD).2.1, ()))) || true) || (((List.getD r.2.2.2.2.2.2.2.1 (Int.toNat v0) StaticRouteD).2.2.1 != 0) && (decide ((g_r8_Address r (List.getD r.2.2.2.2.2.2.2.1 (Int.toNat v0) StaticRouteD).2.2.1) ≥ 0)))) || (!(g_r8_within (List.getD r.2.2.2.2.2.2.2.1 (Int.toNat v0) StaticRouteD).2.2.2.2.2.1 1 255))) || (!(g_r8_within (List.getD r.2.2.2.2.2.2.2.1 (Int.toNat v0) StaticRouteD).2.2.2.2.2.2.1 0 65535)))
            (Q (1, ()))
            (cond (!((List.getD r.2.2.2.2.2.2.2.1 (Int.toNat v0) StaticRouteD).2.2.2.1 == []))
              (cond (decide ((g_r8_Interface r (List.getD r.2.2.2.2.2.2.2.1 (Int.toNat v0) StaticRouteD).2.2.2.1) < 0))
                (Q (5, ()))
                (cond (okIx (g_r8_Interface r (List.getD r.2.2.2.2.2.2.2.1 (Int.toNat v0) StaticRouteD).2.2.2.1) (r.2.2.1.length : Int))
                  (cond ((List.getD r.2.2.1 (Int.toNat (g_r8_Interface r (List.getD r.2.2.2.2.2.2.2.1 (Int.toNat v0) StaticRouteD).2.2.2.1)) InterfaceD).2.2.1 == 0)
                    (Q (1, ()))
                    (L_r8_statics_1 r v0 (List.getD r.2.2.2.2.2.2.2.1 (Int.toNat v0) StaticRouteD) 0 Q))
                  False))
              (L_r8_statics_1 r v0 (List.getD r.2.2.2.2.2.2.2.1 (Int.toNat v0) StaticRouteD) 0 Q)))
          (cond (((((!(g_r4_Valid ((List.getD r.2.2.2.2.2.2.2.1 (Int.toNat v0) StaticRouteD).1, (List.getD r.2.2.2.2.2.2.2.1 (Int.toNat v0) StaticRouteD).2.1, ()))) && true) || (((List.getD r.2.2.2.2.2.2.2.1 (Int.toNat v0) StaticRouteD).2.2.1 != 0) && (decide ((g_r8_Address r (List.getD r.2.2.2.2.2.2.2.1 (Int.toNat v0) StaticRouteD).2.2.1) ≥ 0)))) || (!(g_r8_within (List.getD r.2.2.2.2.2.2.2.1 (Int.toNat v0) StaticRouteD).2.2.2.2.2.1 1 255))) || (!(g_r8_within (List.getD r.2.2.2.2.2.2.2.1 (Int.toNat v0) StaticRouteD).2.2.2.2.2.2.1 0 65535)))
            (Q (1, ()))
            (cond (!((List.getD r.2.2.2.2.2.2.2.1 (Int.toNat v0) StaticRouteD).2.2.2.1 == []))
              (cond (decide ((g_r8_Interface r (List.getD r.2.2.2.2.2.2.2.1 (Int.toNat v0) StaticRouteD).2.2.2.1) < 0))
                (Q (5, ()))
                (cond (okIx (g_r8_Interface r (List.getD r.2.2.2.2.2.2.2.1 (Int.toNat v0) StaticRouteD).2.2.2.1) (r.2.2.1.length : Int))
                  (cond ((List.getD r.2.2.1 (Int.toNat (g_r8_Interface r (List.getD r.2.2.2.2.2.2.2.1 (Int.toNat v0) StaticRouteD).2.2.2.1)) InterfaceD).2.2.1 == 0)
                    (Q (1, ()))
                    (L_r8_statics_1 r v0 (List.getD r.2.2.2.2.2.2.2.1 (Int.toNat v0) StaticRouteD) 0 Q))
                  False))
              (L_r8_statics_1 r v0 (List.getD r.2.2.2.2.2.2.2.1 (Int.toNat v0) StaticRouteD) 0 Q)))))
      (cond (!((List.getD r.2.2.2.2.2.2.2.1 (Int.toNat v0) StaticRouteD).2.2.2.1 == []))
        (cond (List.getD r.2.2.2.2.2.2.2.1 (Int.toNat v0) StaticRouteD).2.2.2.2.1
          (cond (((((!(g_r4_Valid ((List.getD r.2.2.2.2.2.2.2.1 (Int.toNat v0) StaticRouteD).1, (List.getD r.2.2.2.2.2.2.2.1 (Int.toNat v0) StaticRouteD).2.1, ()))) || true) || (((List.getD r.2.2.2.2.2.2.2.1 (Int.toNat v0) StaticRouteD).2.2.1 != 0) && (decide ((g_r8_Address r (List.getD r.2.2.2.2.2.2.2.1 (Int.toNat v0) StaticRouteD).2.2.1) ≥ 0)))) || (!(g_r8_within (List.getD r.2.2.2.2.2.2.2.1 (Int.toNat v0) StaticRouteD).2.2.2.2.2.1 1 255))) || (!(g_r8_within (List.getD r.2.2.2.2.2.2.2.1 (Int.toNat v0) StaticRouteD).2.2.2.2.2.2.1 0 65535)))
            (Q (1, ()))
            (cond (!((List.getD r.2.2.2.2.2.2.2.1 (Int.toNat v0) StaticRouteD).2.2.2.1 == []))
              (cond (decide ((g_r8_Interface r (List.getD r.2.2.2.2.2.2.2.1 (Int.toNat v0) StaticRouteD).2.2.2.1) < 0))
                (Q (5, ()))
                (cond (okIx (g_r8_Interface r (List.getD r.2.2.2.2.2.2.2.1 (Int.toNat v0) StaticRouteD).2.2.2.1) (r.2.2.1.length : Int))
                  (cond ((List.getD r.2.2.1 (Int.toNat (g_r8_Interface r (List.getD r.2.2.2.2.2.2.2.1 (Int.toNat v0) StaticRouteD).2.2.2.1)) InterfaceD).2.2.1 == 0)
                    (Q (1, ()))
                    (L_r8_statics_1 r v0 (List.getD r.2.2.2.2.2.2.2.1 (Int.toNat v0) StaticRouteD) 0 Q))
                  False))
              (L_r8_statics_1 r v0 (List.getD r.2.2.2.2.2.2.2.1 (Int.toNat v0) StaticRouteD) 0 Q)))
          (cond (((((!(g_r4_Valid ((List.getD r.2.2.2.2.2.2.2.1 (Int.toNat v0) StaticRouteD).1, (List.getD r.2.2.2.2.2.2.2.1 (Int.toNat v0) StaticRouteD).2.1, ()))) && true) || (((List.getD r.2.2.2.2.2.2.2.1 (Int.toNat v0) StaticRouteD).2.2.1 != 0) && (decide ((g_r8_Address r (List.getD r.2.2.2.2.2.2.2.1 (Int.toNat v0) StaticRouteD).2.2.1) ≥ 0)))) || (!(g_r8_within (List.getD r.2.2.2.2.2.2.2.1 (Int.toNat v0) StaticRouteD).2.2.2.2.2.1 1 255))) || (!(g_r8_within (List.getD r.2.2.2.2.2.2.2.1 (Int.toNat v0) StaticRouteD).2.2.2.2.2.2.1 0 65535)))
            (Q (1, ()))
            (cond (!((List.getD r.2.2.2.2.2.2.2.1 (Int.toNat v0) StaticRouteD).2.2.2.1 == []))
              (cond (decide ((g_r8_Interface r (List.getD r.2.2.2.2.2.2.2.1 (Int.toNat v0) StaticRouteD).2.2.2.1) < 0))
                (Q (5, ()))
                (cond (okIx (g_r8_Interface r (List.getD r.2.2.2.2.2.2.2.1 (Int.toNat v0) StaticRouteD).2.2.2.1) (r.2.2.1.length : Int))
                  (cond ((List.getD r.2.2.1 (Int.toNat (g_r8_Interface r (List.getD r.2.2.2.2.2.2.2.1 (Int.toNat v0) StaticRouteD).2.2.2.1)) InterfaceD).2.2.1 == 0)
                    (Q (1, ()))
                    (L_r8_statics_1 r v0 (List.getD r.2.2.2.2.2.2.2.1 (Int.toNat v0) StaticRouteD) 0 Q))
                  False))
              (L_r8_statics_1 r v0 (List.getD r.2.2.2.2.2.2.2.1 (Int.toNat v0) StaticRouteD) 0 Q))))
        (cond (List.getD r.2.2.2.2.2.2.2.1 (Int.toNat v0) StaticRouteD).2.2.2.2.1
          (cond (((((!(g_r4_Valid ((List.getD r.2.2.2.2.2.2.2.1 (Int.toNat v0) StaticRouteD).1, (List.getD r.2.2.2.2.2.2.2.1 (Int.toNat v0) StaticRouteD).2.1, ()))) && true) || (((List.getD r.2.2.2.2.2.2.2.1 (Int.toNat v0) StaticRouteD).2.2.1 != 0) && (decide ((g_r8_Address r (List.getD r.2.2.2.2.2.2.2.1 (Int.toNat v0) StaticRouteD).2.2.1) ≥ 0)))) || (!(g_r8_within (List.getD r.2.2.2.2.2.2.2.1 (Int.toNat v0) StaticRouteD).2.2.2.2.2.1 1 255))) || (!(g_r8_within (List.getD r.2.2.2.2.2.2.2.1 (Int.toNat v0) StaticRouteD).2.2.2.2.2.2.1 0 65535)))
            (Q (1, ()))
            (cond (!((List.getD r.2.2.2.2.2.2.2.1 (Int.toNat v0) StaticRouteD).2.2.2.1 == []))
              (cond (decide ((g_r8_Interface r (List.getD r.2.2.2.2.2.2.2.1 (Int.toNat v0) StaticRouteD).2.2.2.1) < 0))
                (Q (5, ()))
                (cond (okIx (g_r8_Interface r (List.getD r.2.2.2.2.2.2.2.1 (Int.toNat v0) StaticRouteD).2.2.2.1) (r.2.2.1.length : Int))
                  (cond ((List.getD r.2.2.1 (Int.toNat (g_r8_Interface r (List.getD r.2.2.2.2.2.2.2.1 (Int.toNat v0) StaticRouteD).2.2.2.1)) InterfaceD).2.2.1 == 0)
                    (Q (1, ()))
                    (L_r8_statics_1 r v0 (List.getD r.2.2.2.2.2.2.2.1 (Int.toNat v0) StaticRouteD) 0 Q))
                  False))
              (L_r8_statics_1 r v0 (List.getD r.2.2.2.2.2.2.2.1 (Int.toNat v0) StaticRouteD) 0 Q)))
          (cond (((((!(g_r4_Valid ((List.getD r.2.2.2.2.2.2.2.1 (Int.toNat v0) StaticRouteD).1, (List.getD r.2.2.2.2.2.2.2.1 (Int.toNat v0) StaticRouteD).2.1, ()))) || true) || (((List.getD r.2.2.2.2.2.2.2.1 (Int.toNat v0) StaticRouteD).2.2.1 != 0) && (decide ((g_r8_Address r (List.getD r.2.2.2.2.2.2.2.1 (Int.toNat v0) StaticRouteD).2.2.1) ≥ 0)))) || (!(g_r8_within (List.getD r.2.2.2.2.2.2.2.1 (Int.toNat v0) StaticRouteD).2.2.2.2.2.1 1 255))) || (!(g_r8_within (List.getD r.2.2.2.2.2.2.2.1 (Int.toNat v0) StaticRouteD).2.2.2.2.2.2.1 0 65535)))
            (Q (1, ()))
            (cond (!((List.getD r.2.2.2.2.2.2.2.1 (Int.toNat v0) StaticRouteD).2.2.2.1 == []))
              (cond (decide ((g_r8_Interface r (List.getD r.2.2.2.2.2.2.2.1 (Int.toNat v0) StaticRouteD).2.2.2.1) < 0))
                (Q (5, ()))
                (cond (okIx (g_r8_Interface r (List.getD r.2.2.2.2.2.2.2.1 (Int.toNat v0) StaticRouteD).2.2.2.1) (r.2.2.1.length : Int))
                  (cond ((List.getD r.2.2.1 (Int.toNat (g_r8_Interface r (List.getD r.2.2.2.2.2.2.2.1 (Int.toNat v0) StaticRouteD).2.2.2.1)) InterfaceD).2.2.1 == 0)
                    (Q (1, ()))
                    (L_r8_statics_1 r v0 (List.getD r.2.2.2.2.2.2.2.1 (Int.toNat v0) StaticRouteD) 0 Q))
                  False))
              (L_r8_statics_1 r v0 (List.getD r.2.2.2.2.2.2.2.1 (Int.toNat v0) StaticRouteD) 0 Q))))))
    False)
  (Q (0, ()))) : L_r8_statics_0 r v0 Q := Lfp.step (Eq.mpr (by kernel_rfl) h)
theorem rd_r8_statics_1 (r : RouterT) (v0 : Int) (v1 : StaticRouteT) (v2 : Int) (Q : Int × Unit → Prop) (h :
  cond (decide (v2 < v0))
  (cond ((okIx v2 (r.2.2.2.2.2.2.2.1.length : Int)) && ((okIx v2 (r.2.2.2.2.2.2.2.1.length : Int)) || (!(((((List.getD r.2.2.2.2.2.2.2.1 (Int.toNat v2) StaticRouteD).1 == v1.1) && ((List.getD r.2.2.2.2.2.2.2.1 (Int.toNat v2) StaticRouteD).2.1 == v1.2.1)) == true) && true))))
    (cond ((((List.getD r.2.2.2.2.2.2.2.1 (Int.toNat v2) StaticRouteD).1 == v1.1) && ((List.getD r.2.2.2.2.2.2.2.1 (Int.toNat v2) StaticRouteD).2.1 == v1.2.1)) && ((List.getD r.2.2.2.2.2.2.2.1 (Int.toNat v2) StaticRouteD).2.2.2.2.2.1 == v1.2.2.2.2.2.1))
      (Q (6, ()))
      (L_r8_statics_1 r v0 v1 (IntKind.wrap .i64 (v2 + 1)) Q))
    False)
  (L_r8_statics_0 r (IntKind.wrap .i64 (v0 + 1)) Q)) : L_r8_statics_1 r v0 v1 v2 Q := Lfp.step (Eq.mpr (by kernel_rfl) h)
theorem lp_r8_statics_1 (r : RouterT) (c0 : Nat) (v1 : StaticRouteT) (next0 : Int) (Q : Int × Unit → Prop) (hw : VSs.wf e_r8_statics.A (r, ())) (hc0 : c0 < r.2.2.2.2.2.2.2.1.length) (hn0 : (fun y : Int => Q (y, ())) next0 → L_r8_statics_0 r (IntKind.wrap .i64 ((c0 : Int) + 1)) Q) (g0 : (decide ((r.2.2.2.2.2.2.2.1.length : Int) > 16)) = false) : (fun y : Int => Q (y, ())) (S_r8_statics_1 r c0 v1 next0) → L_r8_statics_1 r (c0 : Int) v1 0 Q := by
  let FF := (fun y : Int => Q (y, ()))
  refine upV_loop (F := FF) (k := .i64) (n := c0) (L := (fun c1 : Int => L_r8_statics_1 r (c0 : Int) v1 c1 Q)) (wrap_i64n (Nat.le_trans (Nat.le_of_lt hc0) (show _ ≤ _ from (((((((((hw.1).2).2).2).2).2).2).2).1).1))) (fun c1 hc1 hF => rd_r8_statics_1 r (c0 : Int) v1 (c1 : Int) Q (cond_ge (n := c0) rfl hc1 (hn0 hF))) (fun c1 _ hc1 next1 hn1 hF => rd_r8_statics_1 r (c0 : Int) v1 (c1 : Int) Q (cond_lt (n := c0) rfl hc1 ((vc_f (F := FF) (by (repeat' (first | rfl | exact nn_d64 _ | exact okIx_nat hc0 | exact okIx_nat hc1 | exact okIx_nat (Nat.lt_trans hc1 hc0) | refine and_t ?_ ?_ | refine or_l ?_)); done) (cond_f (F := FF) (fun h1 => id) (fun h1 => hn1))) hF)))
theorem lp_r8_statics_0 (r : RouterT) (Q : Int × Unit → Prop) (hw : VSs.wf e_r8_statics.A (r, ()))  (g0 : (decide ((r.2.2.2.2.2.2.2.1.length : Int) > 16)) = false) : (fun y : Int => Q (y, ())) (S_r8_statics_0 r) → L_r8_statics_0 r 0 Q := by
  let FF := (fun y : Int => Q (y, ()))
  refine upV_loop (F := FF) (k := .i64) (n := r.2.2.2.2.2.2.2.1.length) (L := (fun c0 : Int => L_r8_statics_0 r c0 Q)) (wrap_i64n (show _ ≤ _ from (((((((((hw.1).2).2).2).2).2).2).2).1).1)) (fun c0 hc0 hF => rd_r8_statics_0 r (c0 : Int) Q (cond_ge (n := r.2.2.2.2.2.2.2.1.length) rfl hc0 (id hF))) (fun c0 _ hc0 next0 hn0 hF => rd_r8_statics_0 r (c0 : Int) Q (cond_lt (n := r.2.2.2.2.2.2.2.1.length) rfl hc0 ((vc_f (F := FF) (by (repeat' (first | rfl | exact nn_d64 _ | exact okIx_nat hc0 | refine and_t ?_ ?_ | refine or_l ?_)); done) (cond_f (F := FF) (fun h1 => (cond_f (F := FF) (fun h2 => (cond_f (F := FF) (fun h3 => (cond_f (F := FF) (fun h4 => id) (fun h4 => (cond_f (F := FF) (fun h5 => (cond_f (F := FF) (fun h6 => id) (fun h6 => (vc_f (F := FF) (by (exact ixi_r8_Interface (not_neg (by assumption))); done) (cond_f (F := FF) (fun h7 => id) (fun h7 => (lp_r8_statics_1 r c0 _ _ Q hw hc0 hn0 g0))))))) (fun h5 => (lp_r8_statics_1 r c0 _ _ Q hw hc0 hn0 g0)))))) (fun h3 => (cond_f (F := FF) (fun h4 => id) (fun h4 => (cond_f (F := FF) (fun h5 => (cond_f (F := FF) (fun h6 => id) (fun h6 => (vc_f (F := FF) (by (exact ixi_r8_Interface (not_neg (by assumption))); done) (cond_f (F := FF) (fun h7 => id) (fun h7 => (lp_r8_statics_1 r c0 _ _ Q hw hc0 hn0 g0))))))) (fun h5 => (lp_r8_statics_1 r c0 _ _ Q hw hc0 hn0 g0)))))))) (fun h2 => (cond_f (F := FF) (fun h3 => (cond_f (F := FF) (fun h4 => id) (fun h4 => (cond_f (F := FF) (fun h5 => (cond_f (F := FF) (fun h6 => id) (fun h6 => (vc_f (F := FF) (by (exact ixi_r8_Interface (not_neg (by assumption))); done) (cond_f (F := FF) (fun h7 => id) (fun h7 => (lp_r8_statics_1 r c0 _ _ Q hw hc0 hn0 g0))))))) (fun h5 => (lp_r8_statics_1 r c0 _ _ Q hw hc0 hn0 g0)))))) (fun h3 => (cond_f (F := FF) (fun h4 => id) (fun h4 => (cond_f (F := FF) (fun h5 => (cond_f (F := FF) (fun h6 => id) (fun h6 => (vc_f (F := FF) (by (exact ixi_r8_Interface (not_neg (by assumption))); done) (cond_f (F := FF) (fun h7 => id) (fun h7 => (lp_r8_statics_1 r c0 _ _ Q hw hc0 hn0 g0))))))) (fun h5 => (lp_r8_statics_1 r c0 _ _ Q hw hc0 hn0 g0)))))))))) (fun h1 => (cond_f (F := FF) (fun h2 => (cond_f (F := FF) (fun h3 => (cond_f (F := FF) (fun h4 => id) (fun h4 => (cond_f (F := FF) (fun h5 => (cond_f (F := FF) (fun h6 => id) (fun h6 => (vc_f (F := FF) (by (exact ixi_r8_Interface (not_neg (by assumption))); done) (cond_f (F := FF) (fun h7 => id) (fun h7 => (lp_r8_statics_1 r c0 _ _ Q hw hc0 hn0 g0))))))) (fun h5 => (lp_r8_statics_1 r c0 _ _ Q hw hc0 hn0 g0)))))) (fun h3 => (cond_f (F := FF) (fun h4 => id) (fun h4 => (cond_f (F := FF) (fun h5 => (cond_f (F := FF) (fun h6 => id) (fun h6 => (vc_f (F := FF) (by (exact ixi_r8_Interface (not_neg (by assumption))); done) (cond_f (F := FF) (fun h7 => id) (fun h7 => (lp_r8_statics_1 r c0 _ _ Q hw hc0 hn0 g0))))))) (fun h5 => (lp_r8_statics_1 r c0 _ _ Q hw hc0 hn0 g0)))))))) (fun h2 => (cond_f (F := FF) (fun h3 => (cond_f (F := FF) (fun h4 => id) (fun h4 => (cond_f (F := FF) (fun h5 => (cond_f (F := FF) (fun h6 => id) (fun h6 => (vc_f (F := FF) (by (exact ixi_r8_Interface (not_neg (by assumption))); done) (cond_f (F := FF) (fun h7 => id) (fun h7 => (lp_r8_statics_1 r c0 _ _ Q hw hc0 hn0 g0))))))) (fun h5 => (lp_r8_statics_1 r c0 _ _ Q hw hc0 hn0 g0)))))) (fun h3 => (cond_f (F := FF) (fun h4 => id) (fun h4 => (cond_f (F := FF) (fun h5 => (cond_f (F := FF) (fun h6 => id) (fun h6 => (vc_f (F := FF) (by (exact ixi_r8_Interface (not_neg (by assumption))); done) (cond_f (F := FF) (fun h7 => id) (fun h7 => (lp_r8_statics_1 r c0 _ _ Q hw hc0 hn0 g0))))))) (fun h5 => (lp_r8_statics_1 r c0 _ _ Q hw hc0 hn0 g0)))))))))))) hF)))
theorem ct_r8_statics (r : RouterT) (hw : VSs.wf e_r8_statics.A (r, ())) (Q : Int × Unit → Prop) (hq : Q (e_r8_statics.g (r, ()))) : EvF G_r8_statics tb_r8_statics c_r8_statics (VSs.enc e_r8_statics.A (r, ())) (dq e_r8_statics.R Q) := by
  have _ := hw
  let FF := (fun y : Int => Q (y, ()))
  refine EvF.of (in_r8_statics r Q) ?_
  exact (cond_f (F := FF) (fun h0 => id) (fun h0 => (lp_r8_statics_0 r Q hw h0))) hq
/-! netverify/netverifyref8.RouteMap -/
def G_r8_RouteMap : Env := ⟨[], []⟩
def b_r8_RouteMap_0 : ACode := (.seq (.seq (.region [(oI 6 (.mov (.t 5))), (oI 7 (.fld 4 (.t 2))), (oI 8 (.load false 1 (.t 7))), (oI 9 (.len (.t 8))), (oI 10 (.bin .lss (.t 6) (.t 9)))] []) (.cond 10 .skip (.exit 0))) (.seq (.block 1 (.seq (.region [(oI 13 (.fld 4 (.t 2))), (oI 14 (.load false 1 (.t 13))), (oI 15 (.mov (.t 5))), (oI 16 (.ixa 2 (.t 14) (.t 15))), (oI 17 (.fld 0 (.t 16))), (oI 18 (.load false 1 (.t 17))), (oI 19 (.mov (.t 1))), (oI 20 (.bin .eql (.t 18) (.t 19)))] []) (.cond 20 (.seq (.region [(oI 21 (.mov (.t 5))), (oI 4 (.mov (.t 21)))] []) .ret) .skip))) (.region [(oI 11 (.mov (.t 5))), (oI 12 (.bin .add (.t 11) (.c (.f (.int .i64 1))))), (oI 5 (.mov (.t 12)))] [])))
def r_r8_RouteMap_0 : ACode := (.seq (.region [(oI 4 (.mov (.c (.f (.int .i64 (-1))))))] []) .ret)
def c_r8_RouteMap : AFunc := AFunc.mk 22 2 [(.t 4)] (.seq (.region [(oI 2 (.box (.t 0))), (oI 4 (.mov (.c (.f (.int .i64 0)))))] []) (.seq (.seq (.region [(oI 5 (.mov (.c (.f (.int .i64 0)))))] []) (.block 0 (.loop 0 [(1, .no), (2, .no), (5, .no)] b_r8_RouteMap_0))) r_r8_RouteMap_0))
def tb_r8_RouteMap : Tbl
  | 0 => ([(1, .no), (2, .no), (5, .no)], b_r8_RouteMap_0)
  | _ => ([], .skip)
theorem ok_r8_RouteMap : compF Try.prog [24, 26, 28, 68, 101] Try.f105 = some c_r8_RouteMap.strip := by kernel_rfl
theorem tk_r8_RouteMap : TblOk tb_r8_RouteMap c_r8_RouteMap.body := by repeat' first | exact trivial | rfl | refine ⟨?_, ?_⟩
def k_r8_RouteMap_0 (Q : Int × Unit → Prop) : K := (kBlock 0 (kSeq (evC G_r8_RouteMap (Lfp G_r8_RouteMap tb_r8_RouteMap) r_r8_RouteMap_0) (kDone c_r8_RouteMap (dq e_r8_RouteMap.R Q))))
def s_r8_RouteMap_0 (r : RouterT) (name : List UInt8) (v0 : Int) : St := ⟨[(1, [], .f (.str name)), (2, [], .ptr 0 0), (5, [], .f (.int .i64 v0))], [.box none ((RouterS.enc r).map .f)]⟩
def L_r8_RouteMap_0 (r : RouterT) (name : List UInt8) (v0 : Int) (Q : Int × Unit → Prop) : Prop := Lfp G_r8_RouteMap tb_r8_RouteMap 0 (s_r8_RouteMap_0 r name v0) (k_r8_RouteMap_0 Q)
theorem in_r8_RouteMap (r : RouterT) (name : List UInt8) (Q : Int × Unit → Prop) : evF G_r8_RouteMap (Lfp G_r8_RouteMap tb_r8_RouteMap) c_r8_RouteMap (VSs.enc e_r8_RouteMap.A (r, name, ())) (dq e_r8_RouteMap.R Q) = (
  L_r8_RouteMap_0 r name 0 Q) := by kernel_rfl
theorem rd_r8_RouteMap_0 (r : RouterT) (name : List UInt8) (v0 : Int) (Q : Int × Unit → Prop) (h :
  cond (decide (v0 < (r.2.2.2.2.1.length : Int)))
  (cond (okIx v0 (r.2.2.2.2.1.length : Int))
    (cond ((List.getD r.2.2.2.2.1 (Int.toNat v0) RouteMapD).1 == name)
      (Q (v0, ()))
      (L_r8_RouteMap_0 r name (IntKind.wrap .i64 (v0 + 1)) Q))
    False)
  (Q ((-1), ()))) : L_r8_RouteMap_0 r name v0 Q := Lfp.step (Eq.mpr (by kernel_rfl) h)
theorem lp_r8_RouteMap_0 (r : RouterT) (name : List UInt8) (Q : Int × Unit → Prop) (hw : VSs.wf e_r8_RouteMap.A (r, name, ()))  : (fun y : Int => Q (y, ())) (S_r8_RouteMap_0 r name) → L_r8_RouteMap_0 r name 0 Q := by
  let FF := (fun y : Int => Q (y, ()))
  refine upV_loop (F := FF) (k := .i64) (n := r.2.2.2.2.1.length) (L := (fun c0 : Int => L_r8_RouteMap_0 r name c0 Q)) (wrap_i64n (show _ ≤ _ from ((((((hw.1).2).2).2).2).1).1)) (fun c0 hc0 hF => rd_r8_RouteMap_0 r name (c0 : Int) Q (cond_ge (n := r.2.2.2.2.1.length) rfl hc0 (id hF))) (fun c0 _ hc0 next0 hn0 hF => rd_r8_RouteMap_0 r name (c0 : Int) Q (cond_lt (n := r.2.2.2.2.1.length) rfl hc0 ((vc_f (F := FF) (by (repeat' (first | rfl | exact nn_d64 _ | exact okIx_nat hc0 | refine and_t ?_ ?_ | refine or_l ?_)); done) (cond_f (F := FF) (fun h0 => id) (fun h0 => hn0))) hF)))
theorem ct_r8_RouteMap (r : RouterT) (name : List UInt8) (hw : VSs.wf e_r8_RouteMap.A (r, name, ())) (Q : Int × Unit → Prop) (hq : Q (e_r8_RouteMap.g (r, name, ()))) : EvF G_r8_RouteMap tb_r8_RouteMap c_r8_RouteMap (VSs.enc e_r8_RouteMap.A (r, name, ())) (dq e_r8_RouteMap.R Q) := by
  have _ := hw
  let FF := (fun y : Int => Q (y, ()))
  refine EvF.of (in_r8_RouteMap r name Q) ?_
  exact (lp_r8_RouteMap_0 r name Q hw) hq
/-! netverify/netverifyref8.redistributions -/
def G_r8_redistributions : Env := ⟨[e_r8_within, e_r8_RouteMap], []⟩
def b_r8_redistributions_1 : ACode := (.seq (.seq (.region [(oI 82 (.mov (.t 13))), (oI 83 (.mov (.t 11))), (oI 84 (.bin .lss (.t 82) (.t 83)))] []) (.cond 84 .skip (.exit 2))) (.seq (.block 3 (.seq (.region [(oI 87 (.mov (.t 1))), (oI 88 (.mov (.t 13))), (oI 89 (.ixa 5 (.t 87) (.t 88))), (oI 90 (.fld 0 (.t 89))), (oI 91 (.load false 1 (.t 90))), (oI 92 (.fld 0 (.t 12))), (oI 93 (.load false 1 (.t 92))), (oI 94 (.bin .eql (.t 91) (.t 93)))] []) (.cond 94 (.seq (.region [(oI 10 (.mov (.c (.f (.int .i64 4)))))] []) .ret) .skip))) (.region [(oI 85 (.mov (.t 13))), (oI 86 (.bin .add (.t 85) (.c (.f (.int .i64 1))))), (oI 13 (.mov (.t 86)))] [])))
def r_r8_redistributions_0 : ACode := (.region [(oI 21 (.mov (.t 11))), (oI 22 (.bin .add (.t 21) (.c (.f (.int .i64 1))))), (oI 11 (.mov (.t 22)))] [])
def b_r8_redistributions_0 : ACode := (.seq (.seq (.region [(oI 17 (.mov (.t 11))), (oI 18 (.mov (.t 1))), (oI 19 (.len (.t 18))), (oI 20 (.bin .lss (.t 17) (.t 19)))] []) (.cond 20 .skip (.exit 0))) (.seq (.block 1 (.seq (.region [(oI 23 (.mov (.t 1))), (oI 24 (.mov (.t 11))), (oI 25 (.ixa 5 (.t 23) (.t 24))), (oI 26 (.load true 5 (.t 25))), (oI 12 (.alloc [(.f (.int .i64 0)), (.f (.int .i64 0)), (.f (.int .i64 0)), (.f (.str [])), (.f (.int .i64 0))])), (.mk none none (.store 5 (.t 12) (.t 26)))] []) (.seq (.seq (.region [(oI 27 (.fld 0 (.t 12))), (oI 28 (.load false 1 (.t 27))), (oI 29 (.call 40 [(.t 28), (.c (.f (.int .i64 1))), (.c (.f (.int .i64 5)))])), (oI 30 (.un .not (.t 29))), (oI 31 (.mov (.t 30))), (.mk (some 32) (some (31, false)) (.fld 0 (.t 12))), (.mk (some 33) (some (31, false)) (.load false 1 (.t 32))), (.mk (some 34) (some (31, false)) (.mov (.t 2))), (.mk (some 35) (some (31, false)) (.bin .eql (.t 33) (.t 34))), (oI 36 (.pick 31 (.c (.f (.bool true))) (.t 35))), (oI 37 (.mov (.t 36))), (.mk (some 38) (some (37, false)) (.fld 1 (.t 12))), (.mk (some 39) (some (37, false)) (.load false 1 (.t 38))), (.mk (some 40) (some (37, false)) (.mov (.t 3))), (.mk (some 41) (some (37, false)) (.mov (.t 4))), (.mk (some 42) (some (37, false)) (.call 40 [(.t 39), (.t 40), (.t 41)])), (.mk (some 43) (some (37, false)) (.un .not (.t 42))), (oI 44 (.pick 37 (.c (.f (.bool true))) (.t 43))), (oI 45 (.mov (.t 44))), (.mk (some 46) (some (45, false)) (.fld 2 (.t 12))), (.mk (some 47) (some (45, false)) (.load false 1 (.t 46))), (.mk (some 48) (some (45, false)) (.call 40 [(.t 47), (.c (.f (.int .i64 0))), (.c (.f (.int .i64 65535)))])), (.mk (some 49) (some (45, false)) (.un .not (.t 48))), (oI 50 (.pick 45 (.c (.f (.bool true))) (.t 49)))] []) (.cond 50 (.seq (.region [(oI 10 (.mov (.c (.f (.int .i64 1)))))] []) .ret) .skip)) (.seq (.seq (.region [(oI 51 (.mov (.t 2))), (oI 52 (.bin .eql (.t 51) (.c (.f (.int .i64 3))))), (oI 53 (.mov (.t 52))), (.mk (some 54) (some (53, true)) (.fld 4 (.t 12))), (.mk (some 55) (some (53, true)) (.load false 1 (.t 54))), (.mk (some 56) (some (53, true)) (.bin .neq (.t 55) (.c (.f (.int .i64 1))))), (oI 57 (.pick 53 (.t 56) (.c (.f (.bool false))))), (oI 58 (.mov (.t 57))), (.mk (some 59) (some (58, true)) (.fld 4 (.t 12))), (.mk (some 60) (some (58, true)) (.load false 1 (.t 59))), (.mk (some 61) (some (58, true)) (.bin .neq (.t 60) (.c (.f (.int .i64 2))))), (oI 62 (.pick 58 (.t 61) (.c (.f (.bool false))))), (oI 63 (.mov (.t 62))), (.mk (some 64) (some (63, false)) (.mov (.t 2))), (.mk (some 65) (some (63, false)) (.bin .neq (.t 64) (.c (.f (.int .i64 3))))), (.mk (some 66) (some (63, false)) (.mov (.t 65))), (.mk (some 67) (some (66, true)) (.fld 4 (.t 12))), (.mk (some 68) (some (66, true)) (.load false 1 (.t 67))), (.mk (some 69) (some (66, true)) (.bin .neq (.t 68) (.c (.f (.int .i64 0))))), (.mk (some 70) (some (63, false)) (.pick 66 (.t 69) (.c (.f (.bool false))))), (oI 71 (.pick 63 (.c (.f (.bool true))) (.t 70)))] []) (.cond 71 (.seq (.region [(oI 10 (.mov (.c (.f (.int .i64 1)))))] []) .ret) .skip)) (.seq (.seq (.region [(oI 72 (.fld 3 (.t 12))), (oI 73 (.load false 1 (.t 72))), (oI 74 (.bin .neq (.t 73) (.c (.f (.str []))))), (oI 75 (.mov (.t 74))), (.mk (some 76) (some (75, true)) (.load true 25 (.t 5))), (.mk (some 77) (some (75, true)) (.fld 3 (.t 12))), (.mk (some 78) (some (75, true)) (.load false 1 (.t 77))), (.mk (some 79) (some (75, true)) (.call 105 [(.t 76), (.t 78)])), (.mk (some 80) (some (75, true)) (.bin .lss (.t 79) (.c (.f (.int .i64 0))))), (oI 81 (.pick 75 (.t 80) (.c (.f (.bool false)))))] []) (.cond 81 (.seq (.region [(oI 10 (.mov (.c (.f (.int .i64 5)))))] []) .ret) .skip)) (.seq (.region [(oI 13 (.mov (.c (.f (.int .i64 0)))))] []) (.block 2 (.loop 1 [(1, .no), (2, .no), (3, .no), (4, .no), (5, .no), (11, .no), (12, .no), (13, .no)] b_r8_redistributions_1)))))))) r_r8_redistributions_0))
def r_r8_redistributions_1 : ACode := (.seq (.region [(oI 10 (.mov (.c (.f (.int .i64 0)))))] []) .ret)
def c_r8_redistributions : AFunc := AFunc.mk 95 5 [(.t 10)] (.seq (.region [(oI 5 (.box (.t 0))), (oI 10 (.mov (.c (.f (.int .i64 0)))))] []) (.seq (.seq (.region [(oI 14 (.mov (.t 1))), (oI 15 (.len (.t 14))), (oI 16 (.bin .gtr (.t 15) (.c (.f (.int .i64 4)))))] []) (.cond 16 (.seq (.region [(oI 10 (.mov (.c (.f (.int .i64 7)))))] []) .ret) .skip)) (.seq (.seq (.region [(oI 11 (.mov (.c (.f (.int .i64 0)))))] []) (.block 0 (.loop 0 [(1, .no), (2, .no), (3, .no), (4, .no), (5, .no), (11, .no)] b_r8_redistributions_0))) r_r8_redistributions_1)))
def tb_r8_redistributions : Tbl
  | 0 => ([(1, .no), (2, .no), (3, .no), (4, .no), (5, .no), (11, .no)], b_r8_redistributions_0)
  | 1 => ([(1, .no), (2, .no), (3, .no), (4, .no), (5, .no), (11, .no), (12, .no), (13, .no)], b_r8_redistributions_1)
  | _ => ([], .skip)
theorem ok_r8_redistributions : compF Try.prog [24, 26, 28, 68, 101] Try.f79 = some c_r8_redistributions.strip := by kernel_rfl
theorem tk_r8_redistributions : TblOk tb_r8_redistributions c_r8_redistributions.body := by repeat' first | exact trivial | rfl | refine ⟨?_, ?_⟩
def k_r8_redistributions_0 (Q : Int × Unit → Prop) : K := (kBlock 0 (kSeq (evC G_r8_redistributions (Lfp G_r8_redistributions tb_r8_redistributions) r_r8_redistributions_1) (kDone c_r8_redistributions (dq e_r8_redistributions.R Q))))
def s_r8_redistributions_0 (r : RouterT) (l : List RedistT) (into least : Int) (most v0 : Int) : St := ⟨[(1, [], .f (.fs RedistS l)), (2, [], .f (.int .i64 into)), (3, [], .f (.int .i64 least)), (4, [], .f (.int .i64 most)), (5, [], .ptr 0 0), (11, [], .f (.int .i64 v0))], [.box none ((RouterS.enc r).map .f)]⟩
def L_r8_redistributions_0 (r : RouterT) (l : List RedistT) (into least : Int) (most v0 : Int) (Q : Int × Unit → Prop) : Prop := Lfp G_r8_redistributions tb_r8_redistributions 0 (s_r8_redistributions_0 r l into least most v0) (k_r8_redistributions_0 Q)
def k_r8_redistributions_1 (Q : Int × Unit → Prop) : K := (kBlock 2 (kBlock 1 (kSeq (evC G_r8_redistributions (Lfp G_r8_redistributions tb_r8_redistributions) r_r8_redistributions_0) (kLoop [(1, .no), (2, .no), (3, .no), (4, .no), (5, .no), (11, .no)] (Lfp G_r8_redistributions tb_r8_redistributions 0) (k_r8_redistributions_0 Q)))))
def s_r8_redistributions_1 (r : RouterT) (l : List RedistT) (into least : Int) (most v0 : Int) (v1 : RedistT) (v2 : Int) : St := ⟨[(1, [], .f (.fs RedistS l)), (2, [], .f (.int .i64 into)), (3, [], .f (.int .i64 least)), (4, [], .f (.int .i64 most)), (5, [], .ptr 0 0), (11, [], .f (.int .i64 v0)), (12, [], .ptr 1 0), (13, [], .f (.int .i64 v2))], [.box none ((RouterS.enc r).map .f), .box none [.f (.int .i64 v1.1), .f (.int .i64 v1.2.1), .f (.int .i64 v1.2.2.1), .f (.str v1.2.2.2.1), .f (.int .i64 v1.2.2.2.2.1)]]⟩
def L_r8_redistributions_1 (r : RouterT) (l : List RedistT) (into least : Int) (most v0 : Int) (v1 : RedistT) (v2 : Int) (Q : Int × Unit → Prop) : Prop := Lfp G_r8_redistributions tb_r8_redistributions 1 (s_r8_redistributions_1 r l into least most v0 v1 v2) (k_r8_redistributions_1 Q)
theorem in_r8_redistributions (r : RouterT) (l : List RedistT) (into least most : Int) (Q : Int × Unit → Prop) : evF G_r8_redistributions (Lfp G_r8_redistributions tb_r8_redistributions) c_r8_redistributions (VSs.enc e_r8_redistributions.A (r, l, into, least, most, ())) (dq e_r8_redistributions.R Q) = (
  cond (decide ((l.length : Int) > 4))
  (Q (7, ()))
  (L_r8_redistributions_0 r l into least most 0 Q)) := by kernel_rfl
theorem rd_r8_redistributions_0 (r : RouterT) (l : List RedistT) (into least : Int) (most v0 : Int) (Q : Int × Unit → Prop) (h :
  cond (decide (v0 < (l.length : Int)))
  (cond (okIx v0 (l.length : Int))
    (cond ((((!(g_r8_within (List.getD l (Int.toNat v0) RedistD).1 1 5)) || ((List.getD l (Int.toNat v0) RedistD).1 == into)) || (!(g_r8_within (List.getD l (Int.toNat v0) RedistD).2.1 least most))) || (!(g_r8_within (List.getD l (Int.toNat v0) RedistD).2.2.1 0 65535)))
      (Q (1, ()))
      (cond ((((into == 3) && ((List.getD l (Int.toNat v0) RedistD).2.2.2.2.1 != 1)) && ((List.getD l (Int.toNat v0) RedistD).2.2.2.2.1 != 2)) || ((into != 3) && ((List.getD l (Int.toNat v0) RedistD).2.2.2.2.1 != 0)))
        (Q (1, ()))
        (cond ((!((List.getD l (Int.toNat v0) RedistD).2.2.2.1 == [])) && (decide ((g_r8_RouteMap r (List.getD l (Int.toNat v0) RedistD).2.2.2.1) < 0)))
          (Q (5, ()))
          (L_r8_redistributions_1 r l into least most v0 (List.getD l (Int.toNat v0) RedistD) 0 Q))))
    False)
  (Q (0, ()))) : L_r8_redistributions_0 r l into least most v0 Q := Lfp.step (Eq.mpr (by kernel_rfl) h)
theorem rd_r8_redistributions_1 (r : RouterT) (l : List RedistT) (into least : Int) (most v0 : Int) (v1 : RedistT) (v2 : Int) (Q : Int × Unit → Prop) (h :
  cond (decide (v2 < v0))
  (cond (okIx v2 (l.length : Int))
    (cond ((List.getD l (Int.toNat v2) RedistD).1 == v1.1)
      (Q (4, ()))
      (L_r8_redistributions_1 r l into least most v0 v1 (IntKind.wrap .i64 (v2 + 1)) Q))
    False)
  (L_r8_redistributions_0 r l into least most (IntKind.wrap .i64 (v0 + 1)) Q)) : L_r8_redistributions_1 r l into least most v0 v1 v2 Q := Lfp.step (Eq.mpr (by kernel_rfl) h)
theorem lp_r8_redistributions_1 (r : RouterT) (l : List RedistT) (into least most : Int) (c0 : Nat) (v1 : RedistT) (next0 : Int) (Q : Int × Unit → Prop) (hw : VSs.wf e_r8_redistributions.A (r, l, into, least, most, ())) (hc0 : c0 < l.length) (hn0 : (fun y : Int => Q (y, ())) next0 → L_r8_redistributions_0 r l into least most (IntKind.wrap .i64 ((c0 : Int) + 1)) Q) (g0 : (decide ((l.length : Int) > 4)) = false) : (fun y : Int => Q (y, ())) (S_r8_redistributions_1 r l into least most c0 v1 next0) → L_r8_redistributions_1 r l into least most (c0 : Int) v1 0 Q := by
  let FF := (fun y : Int => Q (y, ()))
  refine upV_loop (F := FF) (k := .i64) (n := c0) (L := (fun c1 : Int => L_r8_redistributions_1 r l into least most (c0 : Int) v1 c1 Q)) (wrap_i64n (Nat.le_trans (Nat.le_of_lt hc0) (show _ ≤ _ from (hw.2.1).1))) (fun c1 hc1 hF => rd_r8_redistributions_1 r l into least most (c0 : Int) v1 (c1 : Int) Q (cond_ge (n := c0) rfl hc1 (hn0 hF))) (fun c1 _ hc1 next1 hn1 hF => rd_r8_redistributions_1 r l into least most (c0 : Int) v1 (c1 : Int) Q (cond_lt (n := c0) rfl hc1 ((vc_f (F := FF) (by (repeat' (first | rfl | exact nn_d64 _ | exact okIx_nat hc0 | exact okIx_nat hc1 | exact okIx_nat (Nat.lt_trans hc1 hc0) | refine and_t ?_ ?_ | refine or_l ?_)); done) (cond_f (F := FF) (fun h1 => id) (fun h1 => hn1))) hF)))
theorem lp_r8_redistributions_0 (r : RouterT) (l : List RedistT) (into least most : Int) (Q : Int × Unit → Prop) (hw : VSs.wf e_r8_redistributions.A (r, l, into, least, most, ()))  (g0 : (decide ((l.length : Int) > 4)) = false) : (fun y : Int => Q (y, ())) (S_r8_redistributions_0 r l into least most) → L_r8_redistributions_0 r l into least most 0 Q := by
  let FF := (fun y : Int => Q (y, ()))
  refine upV_loop (F := FF) (k := .i64) (n := l.length) (L := (fun c0 : Int => L_r8_redistributions_0 r l into least most c0 Q)) (wrap_i64n (show _ ≤ _ from (hw.2.1).1)) (fun c0 hc0 hF => rd_r8_redistributions_0 r l into least most (c0 : Int) Q (cond_ge (n := l.length) rfl hc0 (id hF))) (fun c0 _ hc0 next0 hn0 hF => rd_r8_redistributions_0 r l into least most (c0 : Int) Q (cond_lt (n := l.length) rfl hc0 ((vc_f (F := FF) (by (repeat' (first | rfl | exact nn_d64 _ | exact okIx_nat hc0 | refine and_t ?_ ?_ | refine or_l ?_)); done) (cond_f (F := FF) (fun h1 => id) (fun h1 => (cond_f (F := FF) (fun h2 => id) (fun h2 => (cond_f (F := FF) (fun h3 => id) (fun h3 => (lp_r8_redistributions_1 r l into least most c0 _ _ Q hw hc0 hn0 g0)))))))) hF)))
theorem ct_r8_redistributions (r : RouterT) (l : List RedistT) (into least most : Int) (hw : VSs.wf e_r8_redistributions.A (r, l, into, least, most, ())) (Q : Int × Unit → Prop) (hq : Q (e_r8_redistributions.g (r, l, into, least, most, ()))) : EvF G_r8_redistributions tb_r8_redistributions c_r8_redistributions (VSs.enc e_r8_redistributions.A (r, l, into, least, most, ())) (dq e_r8_redistributions.R Q) := by
  have _ := hw
  let FF := (fun y : Int => Q (y, ()))
  refine EvF.of (in_r8_redistributions r l into least most Q) ?_
  exact (cond_f (F := FF) (fun h0 => id) (fun h0 => (lp_r8_redistributions_0 r l into least most Q hw h0))) hq
end Go.Proofs.Ytokhlhnibpakiaa
