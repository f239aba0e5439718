/-
  What each function gives, in plain Lean; the entries.
-/
import Derived.Test.YtokhlhnibpakiaaAmT
namespace Go.Proofs.Ytokhlhnibpakiaa
open Go Go.AM
set_option maxRecDepth 100000
def g_r4_letter (c : Int) : Bool := (((decide (c ≥ 97)) && (decide (c ≤ 122))) || ((decide (c ≥ 65)) && (decide (c ≤ 90))))
def e_r4_letter : Ent := ⟨70, [.one (.int .u8)], [.one .bool], fun _ => true, fun x => (g_r4_letter x.1, ())⟩
def S_r4_Name_0 (s : List UInt8) : Bool := upV (fun c0 next0 => cond ((((((!(g_r4_letter (byteAt s (c0 : Int)))) && (!((decide ((byteAt s (c0 : Int)) ≥ 48)) && (decide ((byteAt s (c0 : Int)) ≤ 57))))) && ((byteAt s (c0 : Int)) != 45)) && ((byteAt s (c0 : Int)) != 95)) && ((byteAt s (c0 : Int)) != 47)) && ((byteAt s (c0 : Int)) != 46)) false next0) (true) (s.length - 1) 1
def g_r4_Name (s : List UInt8) : Bool := cond (((decide ((s.length : Int) < 1)) || (decide ((s.length : Int) > 15))) || (!(g_r4_letter (byteAt s 0)))) false (S_r4_Name_0 s)
def e_r4_Name : Ent := ⟨39, [.one .str], [.one .bool], fun _ => true, fun x => (g_r4_Name x.1, ())⟩
def g_r8_within (n : Int) (lo : Int) (hi : Int) : Bool := ((decide (lo ≤ n)) && (decide (n ≤ hi)))
def e_r8_within : Ent := ⟨40, [.one (.int .i64), .one (.int .i64), .one (.int .i64)], [.one .bool], fun _ => true, fun x => (g_r8_within x.1 x.2.1 x.2.2.1, ())⟩
def S_r4_Mask_0 (n : Int) (v00 : Int) : Int := upS (fun c0 (v0 : Int) => fun (next0 : Int → Int) => cond (decide ((c0 : Int) < n)) (next0 (ior .u32 v0 (ishl .u32 1 (IntKind.wrap .u64 (IntKind.wrap .i64 (31 - (c0 : Int))))))) (next0 v0)) (fun (v0 : Int) => v0) (32 - 0) 0 v00
def g_r4_Mask (n : Int) : Int := (S_r4_Mask_0 n 0)
def e_r4_Mask : Ent := ⟨102, [.one (.int .i64)], [.one (.int .u32)], fun _ => true, fun x => (g_r4_Mask x.1, ())⟩
def g_r4_Contains (p : PrefixT) (a : Int) : Bool := ((iand .u32 a (g_r4_Mask p.2.1)) == p.1)
def e_r4_Contains : Ent := ⟨107, [.st PrefixS, .one (.int .u32)], [.one .bool], fun _ => true, fun x => (g_r4_Contains x.1 x.2.1, ())⟩
def g_r4_Covers (p : PrefixT) (q : PrefixT) : Bool := ((decide (p.2.1 ≤ q.2.1)) && (g_r4_Contains p q.1))
def e_r4_Covers : Ent := ⟨99, [.st PrefixS, .st PrefixS], [.one .bool], fun _ => true, fun x => (g_r4_Covers x.1 x.2.1, ())⟩
def g_r4_Overlaps (p : PrefixT) (q : PrefixT) : Bool := ((g_r4_Covers p q) || (g_r4_Covers q p))
def e_r4_Overlaps : Ent := ⟨71, [.st PrefixS, .st PrefixS], [.one .bool], fun _ => true, fun x => (g_r4_Overlaps x.1 x.2.1, ())⟩
def g_r4_Network (a : Int) (n : Int) : PrefixT := ((iand .u32 a (g_r4_Mask (cond (decide (0 > (cond (decide (32 < n)) 32 n))) 0 (cond (decide (32 < n)) 32 n)))), (cond (decide (0 > (cond (decide (32 < n)) 32 n))) 0 (cond (decide (32 < n)) 32 n)), ())
def e_r4_Network : Ent := ⟨72, [.one (.int .u32), .one (.int .i64)], [.st PrefixS], fun _ => true, fun x => (g_r4_Network x.1 x.2.1, ())⟩
def S_r8_interfaces_2 (l : List InterfaceT) (c0 : Nat) (v1 : InterfaceT) (next0 : Int) : Int := upV (fun c2 next2 => cond (((v1.2.2.1 != 0) && ((List.getD l c2 InterfaceD).2.2.1 != 0)) && (g_r4_Overlaps (g_r4_Network v1.2.1 v1.2.2.1) (g_r4_Network (List.getD l c2 InterfaceD).2.1 (List.getD l c2 InterfaceD).2.2.1))) 6 next2) (next0) (c0 - 0) 0
def S_r8_interfaces_1 (l : List InterfaceT) (c0 : Nat) (v1 : InterfaceT) (next0 : Int) : Int := upV (fun c1 next1 => cond ((List.getD l c1 InterfaceD).1 == v1.1) 4 next1) (cond (((!(g_r8_within v1.2.2.1 0 32)) || (!(g_r8_within v1.2.2.2.1 0 4094))) || (!(g_r8_within v1.2.2.2.2.2.2.2.2.2.2.2.1 0 2))) 1 (cond (((v1.2.2.1 == 0) && (((((((v1.2.1 != 0) || (v1.2.2.2.1 != 0)) || (v1.2.2.2.2.2.2.2.2.2.2.2.1 != 0)) || v1.2.2.2.2.2.1) || v1.2.2.2.2.2.2.2.2.1) || (!(v1.2.2.2.2.2.2.2.2.2.1 == []))) || (!(v1.2.2.2.2.2.2.2.2.2.2.1 == [])))) || ((v1.2.2.1 != 0) && (v1.2.1 == 0))) 1 (cond ((v1.2.2.2.2.2.1 && ((!(g_r8_within v1.2.2.2.2.2.2.1 0 255)) || (!(g_r8_within v1.2.2.2.2.2.2.2.1 1 65535)))) || ((!v1.2.2.2.2.2.1) && ((v1.2.2.2.2.2.2.1 != 0) || (v1.2.2.2.2.2.2.2.1 != 0)))) 1 (S_r8_interfaces_2 l c0 v1 next0)))) (c0 - 0) 0
def S_r8_interfaces_0 (l : List InterfaceT) : Int := upV (fun c0 next0 => cond (!(g_r4_Name (List.getD l c0 InterfaceD).1)) 3 (S_r8_interfaces_1 l c0 (List.getD l c0 InterfaceD) next0)) (0) (l.length - 0) 0
def g_r8_interfaces (l : List InterfaceT) : Int := cond (decide ((l.length : Int) > 8)) 7 (S_r8_interfaces_0 l)
def e_r8_interfaces : Ent := ⟨41, [.one (.sl InterfaceS)], [.one (.int .i64)], fun _ => true, fun x => (g_r8_interfaces x.1, ())⟩
def g_r4_Valid (p : PrefixT) : Bool := (((decide (p.2.1 ≥ 0)) && (decide (p.2.1 ≤ 32))) && ((iandnot .u32 p.1 (g_r4_Mask p.2.1)) == 0))
def e_r4_Valid : Ent := ⟨76, [.st PrefixS], [.one .bool], fun _ => true, fun x => (g_r4_Valid x.1, ())⟩
def g_r8_ValidPrefixRule (x0 : PrefixRuleT) : Bool := ((((g_r4_Valid (x0.2.1, x0.2.2.1, ())) && (decide (x0.2.2.1 ≤ x0.2.2.2.1))) && (decide (x0.2.2.2.1 ≤ x0.2.2.2.2.1))) && (decide (x0.2.2.2.2.1 ≤ 32)))
def e_r8_ValidPrefixRule : Ent := ⟨73, [.st PrefixRuleS], [.one .bool], fun _ => true, fun x => (g_r8_ValidPrefixRule x.1, ())⟩
def S_r8_prefixLists_2 (l : List PrefixListT) (c0 : Nat) (next0 : Int) : Int := upV (fun c2 next2 => cond (!(g_r8_ValidPrefixRule (List.getD (List.getD l c0 PrefixListD).2.1 c2 PrefixRuleD))) 1 next2) (next0) ((List.getD l c0 PrefixListD).2.1.length - 0) 0
def S_r8_prefixLists_1 (l : List PrefixListT) (c0 : Nat) (next0 : Int) : Int := upV (fun c1 next1 => cond ((List.getD l c1 PrefixListD).1 == (List.getD l c0 PrefixListD).1) 4 next1) (cond (((List.getD l c0 PrefixListD).2.1.length : Int) == 0) 1 (cond (decide (((List.getD l c0 PrefixListD).2.1.length : Int) > 16)) 7 (S_r8_prefixLists_2 l c0 next0))) (c0 - 0) 0
def S_r8_prefixLists_0 (l : List PrefixListT) : Int := upV (fun c0 next0 => cond (!(g_r4_Name (List.getD l c0 PrefixListD).1)) 3 (S_r8_prefixLists_1 l c0 next0)) (0) (l.length - 0) 0
def g_r8_prefixLists (l : List PrefixListT) : Int := cond (decide ((l.length : Int) > 8)) 7 (S_r8_prefixLists_0 l)
def e_r8_prefixLists : Ent := ⟨42, [.one (.sl PrefixListS)], [.one (.int .i64)], fun _ => true, fun x => (g_r8_prefixLists x.1, ())⟩
def S_r8_PrefixList_0 (r : RouterT) (name : List UInt8) : Int := upV (fun c0 next0 => cond ((List.getD r.2.2.2.1 c0 PrefixListD).1 == name) (c0 : Int) next0) ((-1)) (r.2.2.2.1.length - 0) 0
def g_r8_PrefixList (r : RouterT) (name : List UInt8) : Int := (S_r8_PrefixList_0 r name)
def e_r8_PrefixList : Ent := ⟨74, [.st RouterS, .one .str], [.one (.int .i64)], fun _ => true, fun x => (g_r8_PrefixList x.1 x.2.1, ())⟩
def S_r8_routeMaps_2 (r : RouterT) (c0 : Nat) (next0 : Int) : Int := upV (fun c2 next2 => cond ((!((List.getD (List.getD r.2.2.2.2.1 c0 RouteMapD).2.1 c2 ClauseD).2.1 == [])) && (decide ((g_r8_PrefixList r (List.getD (List.getD r.2.2.2.2.1 c0 RouteMapD).2.1 c2 ClauseD).2.1) < 0))) 5 (cond (((((!(g_r8_within (List.getD (List.getD r.2.2.2.2.1 c0 RouteMapD).2.1 c2 ClauseD).2.2.1 (-1) 65535)) || (!(g_r8_within (List.getD (List.getD r.2.2.2.2.1 c0 RouteMapD).2.1 c2 ClauseD).2.2.2.2.1 (-1) 65535))) || (!(g_r8_within (List.getD (List.getD r.2.2.2.2.1 c0 RouteMapD).2.1 c2 ClauseD).2.2.2.1 (-1) 16777215))) || (!(g_r8_within (List.getD (List.getD r.2.2.2.2.1 c0 RouteMapD).2.1 c2 ClauseD).2.2.2.2.2.1 (-1) 1000000))) || (!(g_r8_within (List.getD (List.getD r.2.2.2.2.1 c0 RouteMapD).2.1 c2 ClauseD).2.2.2.2.2.2.1 0 8))) 1 next2)) (next0) ((List.getD r.2.2.2.2.1 c0 RouteMapD).2.1.length - 0) 0
def S_r8_routeMaps_1 (r : RouterT) (c0 : Nat) (next0 : Int) : Int := upV (fun c1 next1 => cond ((List.getD r.2.2.2.2.1 c1 RouteMapD).1 == (List.getD r.2.2.2.2.1 c0 RouteMapD).1) 4 next1) (cond (((List.getD r.2.2.2.2.1 c0 RouteMapD).2.1.length : Int) == 0) 1 (cond (decide (((List.getD r.2.2.2.2.1 c0 RouteMapD).2.1.length : Int) > 8)) 7 (S_r8_routeMaps_2 r c0 next0))) (c0 - 0) 0
def S_r8_routeMaps_0 (r : RouterT) : Int := upV (fun c0 next0 => cond (!(g_r4_Name (List.getD r.2.2.2.2.1 c0 RouteMapD).1)) 3 (S_r8_routeMaps_1 r c0 next0)) (0) (r.2.2.2.2.1.length - 0) 0
def g_r8_routeMaps (r : RouterT) : Int := cond (decide ((r.2.2.2.2.1.length : Int) > 8)) 7 (S_r8_routeMaps_0 r)
def e_r8_routeMaps : Ent := ⟨43, [.st RouterS], [.one (.int .i64)], fun _ => true, fun x => (g_r8_routeMaps x.1, ())⟩
def g_r8_ports (x0 : PortRangeT) : Bool := (((decide (0 ≤ x0.1)) && (decide (x0.1 ≤ x0.2.1))) && (decide (x0.2.1 ≤ 65535)))
def e_r8_ports : Ent := ⟨103, [.st PortRangeS], [.one .bool], fun _ => true, fun x => (g_r8_ports x.1, ())⟩
def g_r8_all (x0 : PortRangeT) : Bool := ((x0.1 == 0) && (x0.2.1 == 65535))
def e_r8_all : Ent := ⟨104, [.st PortRangeS], [.one .bool], fun _ => true, fun x => (g_r8_all x.1, ())⟩
def g_r8_ValidRule (x0 : RuleT) : Bool := cond (((((!(g_r8_within x0.2.1 (-1) 255)) || ((iand .u32 x0.2.2.1 x0.2.2.2.1) != 0)) || ((iand .u32 x0.2.2.2.2.1 x0.2.2.2.2.2.1) != 0)) || (!(g_r8_ports (x0.2.2.2.2.2.2.1, x0.2.2.2.2.2.2.2.1, ())))) || (!(g_r8_ports x0.2.2.2.2.2.2.2.2))) false (((x0.2.1 == 6) || (x0.2.1 == 17)) || ((g_r8_all (x0.2.2.2.2.2.2.1, x0.2.2.2.2.2.2.2.1, ())) && (g_r8_all x0.2.2.2.2.2.2.2.2)))
def e_r8_ValidRule : Ent := ⟨75, [.st RuleS], [.one .bool], fun _ => true, fun x => (g_r8_ValidRule x.1, ())⟩
def S_r8_accessLists_2 (l : List ACLT) (c0 : Nat) (next0 : Int) : Int := upV (fun c2 next2 => cond (!(g_r8_ValidRule (List.getD (List.getD l c0 ACLD).2.1 c2 RuleD))) 1 next2) (next0) ((List.getD l c0 ACLD).2.1.length - 0) 0
def S_r8_accessLists_1 (l : List ACLT) (c0 : Nat) (next0 : Int) : Int := upV (fun c1 next1 => cond ((List.getD l c1 ACLD).1 == (List.getD l c0 ACLD).1) 4 next1) (cond (((List.getD l c0 ACLD).2.1.length : Int) == 0) 1 (cond (decide (((List.getD l c0 ACLD).2.1.length : Int) > 16)) 7 (S_r8_accessLists_2 l c0 next0))) (c0 - 0) 0
def S_r8_accessLists_0 (l : List ACLT) : Int := upV (fun c0 next0 => cond (!(g_r4_Name (List.getD l c0 ACLD).1)) 3 (S_r8_accessLists_1 l c0 next0)) (0) (l.length - 0) 0
def g_r8_accessLists (l : List ACLT) : Int := cond (decide ((l.length : Int) > 8)) 7 (S_r8_accessLists_0 l)
def e_r8_accessLists : Ent := ⟨44, [.one (.sl ACLS)], [.one (.int .i64)], fun _ => true, fun x => (g_r8_accessLists x.1, ())⟩
def S_r8_ACL_0 (r : RouterT) (name : List UInt8) : Int := upV (fun c0 next0 => cond ((List.getD r.2.2.2.2.2.1 c0 ACLD).1 == name) (c0 : Int) next0) ((-1)) (r.2.2.2.2.2.1.length - 0) 0
def g_r8_ACL (r : RouterT) (name : List UInt8) : Int := (S_r8_ACL_0 r name)
def e_r8_ACL : Ent := ⟨20, [.st RouterS, .one .str], [.one (.int .i64)], fun _ => true, fun x => (g_r8_ACL x.1 x.2.1, ())⟩
def S_r8_translations_0 (r : RouterT) : Int := upV (fun c0 next0 => cond ((List.getD r.2.2.2.2.2.2.1 c0 TranslationD).1 == 1) (cond (!((((List.getD r.2.2.2.2.2.2.1 c0 TranslationD).2.1 != 0) && ((List.getD r.2.2.2.2.2.2.1 c0 TranslationD).2.2.1 != 0)) && (((List.getD r.2.2.2.2.2.2.1 c0 TranslationD).1 == (List.getD r.2.2.2.2.2.2.1 c0 TranslationD).1) && (((List.getD r.2.2.2.2.2.2.1 c0 TranslationD).2.1 == (List.getD r.2.2.2.2.2.2.1 c0 TranslationD).2.1) && (((List.getD r.2.2.2.2.2.2.1 c0 TranslationD).2.2.1 == (List.getD r.2.2.2.2.2.2.1 c0 TranslationD).2.2.1) && (((List.getD r.2.2.2.2.2.2.1 c0 TranslationD).2.2.2.1 == 0) && (((List.getD r.2.2.2.2.2.2.1 c0 TranslationD).2.2.2.2.1 == 0) && (((List.getD r.2.2.2.2.2.2.1 c0 TranslationD).2.2.2.2.2.1 == 0) && (((List.getD r.2.2.2.2.2.2.1 c0 TranslationD).2.2.2.2.2.2.1 == []) && (((List.getD r.2.2.2.2.2.2.1 c0 TranslationD).2.2.2.2.2.2.2.1 == 0) && ((List.getD r.2.2.2.2.2.2.1 c0 TranslationD).2.2.2.2.2.2.2.2.1 == 0))))))))))) 1 (cond (((List.getD r.2.2.2.2.2.2.1 c0 TranslationD).1 == 2) && (decide ((g_r8_ACL r (List.getD r.2.2.2.2.2.2.1 c0 TranslationD).2.2.2.2.2.2.1) < 0))) 5 next0)) (cond ((List.getD r.2.2.2.2.2.2.1 c0 TranslationD).1 == 2) (cond (!(((((List.getD r.2.2.2.2.2.2.1 c0 TranslationD).2.2.2.2.2.2.2.1 != 0) && (decide ((List.getD r.2.2.2.2.2.2.1 c0 TranslationD).2.2.2.2.2.2.2.1 ≤ (List.getD r.2.2.2.2.2.2.1 c0 TranslationD).2.2.2.2.2.2.2.2.1))) && (decide ((IntKind.wrap .u32 ((List.getD r.2.2.2.2.2.2.1 c0 TranslationD).2.2.2.2.2.2.2.2.1 - (List.getD r.2.2.2.2.2.2.1 c0 TranslationD).2.2.2.2.2.2.2.1)) < 8))) && (((List.getD r.2.2.2.2.2.2.1 c0 TranslationD).1 == (List.getD r.2.2.2.2.2.2.1 c0 TranslationD).1) && (((List.getD r.2.2.2.2.2.2.1 c0 TranslationD).2.1 == 0) && (((List.getD r.2.2.2.2.2.2.1 c0 TranslationD).2.2.1 == 0) && (((List.getD r.2.2.2.2.2.2.1 c0 TranslationD).2.2.2.1 == 0) && (((List.getD r.2.2.2.2.2.2.1 c0 TranslationD).2.2.2.2.1 == 0) && (((List.getD r.2.2.2.2.2.2.1 c0 TranslationD).2.2.2.2.2.1 == 0) && (((List.getD r.2.2.2.2.2.2.1 c0 TranslationD).2.2.2.2.2.2.1 == (List.getD r.2.2.2.2.2.2.1 c0 TranslationD).2.2.2.2.2.2.1) && (((List.getD r.2.2.2.2.2.2.1 c0 TranslationD).2.2.2.2.2.2.2.1 == (List.getD r.2.2.2.2.2.2.1 c0 TranslationD).2.2.2.2.2.2.2.1) && ((List.getD r.2.2.2.2.2.2.1 c0 TranslationD).2.2.2.2.2.2.2.2.1 == (List.getD r.2.2.2.2.2.2.1 c0 TranslationD).2.2.2.2.2.2.2.2.1))))))))))) 1 (cond (((List.getD r.2.2.2.2.2.2.1 c0 TranslationD).1 == 2) && (decide ((g_r8_ACL r (List.getD r.2.2.2.2.2.2.1 c0 TranslationD).2.2.2.2.2.2.1) < 0))) 5 next0)) (cond ((List.getD r.2.2.2.2.2.2.1 c0 TranslationD).1 == 3) (cond (!(((((((((List.getD r.2.2.2.2.2.2.1 c0 TranslationD).2.1 != 0) && ((List.getD r.2.2.2.2.2.2.1 c0 TranslationD).2.2.1 != 0)) && (((List.getD r.2.2.2.2.2.2.1 c0 TranslationD).2.2.2.1 == 6) || ((List.getD r.2.2.2.2.2.2.1 c0 TranslationD).2.2.2.1 == 17))) && (g_r8_within (List.getD r.2.2.2.2.2.2.1 c0 TranslationD).2.2.2.2.1 0 65535)) && (g_r8_within (List.getD r.2.2.2.2.2.2.1 c0 TranslationD).2.2.2.2.2.1 0 65535)) && ((List.getD r.2.2.2.2.2.2.1 c0 TranslationD).2.2.2.2.2.2.1 == [])) && ((List.getD r.2.2.2.2.2.2.1 c0 TranslationD).2.2.2.2.2.2.2.1 == 0)) && ((List.getD r.2.2.2.2.2.2.1 c0 TranslationD).2.2.2.2.2.2.2.2.1 == 0))) 1 (cond (((List.getD r.2.2.2.2.2.2.1 c0 TranslationD).1 == 2) && (decide ((g_r8_ACL r (List.getD r.2.2.2.2.2.2.1 c0 TranslationD).2.2.2.2.2.2.1) < 0))) 5 next0)) 1))) (0) (r.2.2.2.2.2.2.1.length - 0) 0
def g_r8_translations (r : RouterT) : Int := cond (decide ((r.2.2.2.2.2.2.1.length : Int) > 8)) 7 (S_r8_translations_0 r)
def e_r8_translations : Ent := ⟨45, [.st RouterS], [.one (.int .i64)], fun _ => true, fun x => (g_r8_translations x.1, ())⟩
def S_r8_filters_0 (r : RouterT) : Int := upV (fun c0 next0 => cond (((!((List.getD r.2.2.1 c0 InterfaceD).2.2.2.2.2.2.2.2.2.1 == [])) && (decide ((g_r8_ACL r (List.getD r.2.2.1 c0 InterfaceD).2.2.2.2.2.2.2.2.2.1) < 0))) || ((!((List.getD r.2.2.1 c0 InterfaceD).2.2.2.2.2.2.2.2.2.2.1 == [])) && (decide ((g_r8_ACL r (List.getD r.2.2.1 c0 InterfaceD).2.2.2.2.2.2.2.2.2.2.1) < 0)))) 5 next0) (0) (r.2.2.1.length - 0) 0
def g_r8_filters (r : RouterT) : Int := (S_r8_filters_0 r)
def e_r8_filters : Ent := ⟨46, [.st RouterS], [.one (.int .i64)], fun _ => true, fun x => (g_r8_filters x.1, ())⟩
def S_r8_Address_0 (r : RouterT) (a : Int) : Int := upV (fun c0 next0 => cond (((List.getD r.2.2.1 c0 InterfaceD).2.2.1 != 0) && ((List.getD r.2.2.1 c0 InterfaceD).2.1 == a)) (c0 : Int) next0) ((-1)) (r.2.2.1.length - 0) 0
def g_r8_Address (r : RouterT) (a : Int) : Int := (S_r8_Address_0 r a)
def e_r8_Address : Ent := ⟨77, [.st RouterS, .one (.int .u32)], [.one (.int .i64)], fun _ => true, fun x => (g_r8_Address x.1 x.2.1, ())⟩
def S_r8_Interface_0 (r : RouterT) (name : List UInt8) : Int := upV (fun c0 next0 => cond ((List.getD r.2.2.1 c0 InterfaceD).1 == name) (c0 : Int) next0) ((-1)) (r.2.2.1.length - 0) 0
def g_r8_Interface (r : RouterT) (name : List UInt8) : Int := (S_r8_Interface_0 r name)
def e_r8_Interface : Ent := ⟨78, [.st RouterS, .one .str], [.one (.int .i64)], fun _ => true, fun x => (g_r8_Interface x.1 x.2.1, ())⟩
theorem ix_r8_Interface (r : RouterT) (name : List UInt8) : g_r8_Interface r name < 0 ∨ okIx (g_r8_Interface r name) (r.2.2.1.length : Int) = true := ix_or rfl
theorem ixi_r8_Interface {r : RouterT} {name : List UInt8} (h : 0 ≤ g_r8_Interface r name) : okIx (g_r8_Interface r name) (r.2.2.1.length : Int) = true := by
  rcases ix_r8_Interface r name with h1 | h1
  · omega
  · exact h1
def S_r8_statics_1 (r : RouterT) (c0 : Nat) (v1 : StaticRouteT) (next0 : Int) : Int := upV (fun c1 next1 => cond ((((List.getD r.2.2.2.2.2.2.2.1 c1 StaticRouteD).1 == v1.1) && ((List.getD r.2.2.2.2.2.2.2.1 c1 StaticRouteD).2.1 == v1.2.1)) && ((List.getD r.2.2.2.2.2.2.2.1 c1 StaticRouteD).2.2.2.2.2.1 == v1.2.2.2.2.2.1)) 6 next1) (next0) (c0 - 0) 0
def S_r8_statics_0 (r : RouterT) : Int := upV (fun c0 next0 => cond ((List.getD r.2.2.2.2.2.2.2.1 c0 StaticRouteD).2.2.1 != 0) (cond (!((List.getD r.2.2.2.2.2.2.2.1 c0 StaticRouteD).2.2.2.1 == [])) (cond (List.getD r.2.2.2.2.2.2.2.1 c0 StaticRouteD).2.2.2.2.1 (cond (((((!(g_r4_Valid ((List.getD r.2.2.2.2.2.2.2.1 c0 StaticRouteD).1, (List.getD r.2.2.2.2.2.2.2.1 c0 StaticRouteD).2.1, ()))) || true) || (((List.getD r.2.2.2.2.2.2.2.1 c0 StaticRouteD).2.2.1 != 0) && (decide ((g_r8_Address r (List.getD r.2.2.2.2.2.2.2.1 c0 StaticRouteD).2.2.1) ≥ 0)))) || (!(g_r8_within (List.getD r.2.2.2.2.2.2.2.1 c0 StaticRouteD).2.2.2.2.2.1 1 255))) || (!(g_r8_within (List.getD r.2.2.2.2.2.2.2.1 c0 StaticRouteD).2.2.2.2.2.2.1 0 65535))) 1 (cond (!((List.getD r.2.2.2.2.2.2.2.1 c0 StaticRouteD).2.2.2.1 == [])) (cond (decide ((g_r8_Interface r (List.getD r.2.2.2.2.2.2.2.1 c0 StaticRouteD).2.2.2.1) < 0)) 5 (cond ((List.getD r.2.2.1 (Int.toNat (g_r8_Interface r (List.getD r.2.2.2.2.2.2.2.1 c0 StaticRouteD).2.2.2.1)) InterfaceD).2.2.1 == 0) 1 (S_r8_statics_1 r c0 (List.getD r.2.2.2.2.2.2.2.1 c0 StaticRouteD) next0))) (S_r8_statics_1 r c0 (List.getD r.2.2.2.2.2.2.2.1 c0 StaticRouteD) next0))) (cond (((((!(g_r4_Valid ((List.getD r.2.2.2.2.2.2.2.1 c0 StaticRouteD).1, (List.getD r.2.2.2.2.2.2.2.1 c0 StaticRouteD).2.1, ()))) || true) || (((List.getD r.2.2.2.2.2.2.2.1 c0 StaticRouteD).2.2.1 != 0) && (decide ((g_r8_Address r (List.getD r.2.2.2.2.2.2.2.1 c0 StaticRouteD).2.2.1) ≥ 0)))) || (!(g_r8_within (List.getD r.2.2.2.2.2.2.2.1 c0 StaticRouteD).2.2.2.2.2.1 1 255))) || (!(g_r8_within (List.getD r.2.2.2.2.2.2.2.1 c0 StaticRouteD).2.2.2.2.2.2.1 0 65535))) 1 (cond (!((List.getD r.2.2.2.2.2.2.2.1 c0 StaticRouteD).2.2.2.1 == [])) (cond (decide ((g_r8_Interface r (List.getD r.2.2.2.2.2.2.2.1 c0 StaticRouteD).2.2.2.1) < 0)) 5 (cond ((List.getD r.2.2.1 (Int.toNat (g_r8_Interface r (List.getD r.2.2.2.2.2.2.2.1 c0 StaticRouteD).2.2.2.1)) InterfaceD).2.2.1 == 0) 1 (S_r8_statics_1 r c0 (List.getD r.2.2.2.2.2.2.2.1 c0 StaticRouteD) next0))) (S_r8_statics_1 r c0 (List.getD r.2.2.2.2.2.2.2.1 c0 StaticRouteD) next0)))) (cond (List.getD r.2.2.2.2.2.2.2.1 c0 StaticRouteD).2.2.2.2.1 (cond (((((!(g_r4_Valid ((List.getD r.2.2.2.2.2.2.2.1 c0 StaticRouteD).1, (List.getD r.2.2.2.2.2.2.2.1 c0 StaticRouteD).2.1, ()))) || true) || (((List.getD r.2.2.2.2.2.2.2.1 c0 StaticRouteD).2.2.1 != 0) && (decide ((g_r8_Address r (List.getD r.2.2.2.2.2.2.2.1 c0 StaticRouteD).2.2.1) ≥ 0)))) || (!(g_r8_within (List.getD r.2.2.2.2.2.2.2.1 c0 StaticRouteD).2.2.2.2.2.1 1 255))) || (!(g_r8_within (List.getD r.2.2.2.2.2.2.2.1 c0 StaticRouteD).2.2.2.2.2.2.1 0 65535))) 1 (cond (!((List.getD r.2.2.2.2.2.2.2.1 c0 StaticRouteD).2.2.2.1 == [])) (cond (decide ((g_r8_Interface r (List.getD r.2.2.2.2.2.2.2.1 c0 StaticRouteD).2.2.2.1) < 0)) 5 (cond ((List.getD r.2.2.1 (Int.toNat (g_r8_Interface r (List.getD r.2.2.2.2.2.2.2.1 c0 StaticRouteD).2.2.2.1)) InterfaceD).2.2.1 == 0) 1 (S_r8_statics_1 r c0 (List.getD r.2.2.2.2.2.2.2.1 c0 StaticRouteD) next0))) (S_r8_statics_1 r c0 (List.getD r.2.2.2.2.2.2.2.1 c0 StaticRouteD) next0))) (cond (((((!(g_r4_Valid ((List.getD r.2.2.2.2.2.2.2.1 c0 StaticRouteD).1, (List.getD r.2.2.2.2.2.2.2.1 c0 StaticRouteD).2.1, ()))) && true) || (((List.getD r.2.2.2.2.2.2.2.1 c0 StaticRouteD).2.2.1 != 0) && (decide ((g_r8_Address r (List.getD r.2.2.2.2.2.2.2.1 c0 StaticRouteD).2.2.1) ≥ 0)))) || (!(g_r8_within (List.getD r.2.2.2.2.2.2.2.1 c0 StaticRouteD).2.2.2.2.2.1 1 255))) || (!(g_r8_within (List.getD r.2.2.2.2.2.2.2.1 c0 StaticRouteD).2.2.2.2.2.2.1 0 65535))) 1 (cond (!((List.getD r.2.2.2.2.2.2.2.1 c0 StaticRouteD).2.2.2.1 == [])) (cond (decide ((g_r8_Interface r (List.getD r.2.2.2.2.2.2.2.1 c0 StaticRouteD).2.2.2.1) < 0)) 5 (cond ((List.getD r.2.2.1 (Int.toNat (g_r8_Interface r (List.getD r.2.2.2.2.2.2.2.1 c0 StaticRouteD).2.2.2.1)) InterfaceD).2.2.1 == 0) 1 (S_r8_statics_1 r c0 (List.getD r.2.2.2.2.2.2.2.1 c0 StaticRouteD) next0))) (S_r8_statics_1 r c0 (List.getD r.2.2.2.2.2.2.2.1 c0 StaticRouteD) next0))))) (cond (!((List.getD r.2.2.2.2.2.2.2.1 c0 StaticRouteD).2.2.2.1 == [])) (cond (List.getD r.2.2.2.2.2.2.2.1 c0 StaticRouteD).2.2.2.2.1 (cond (((((!(g_r4_Valid ((List.getD r.2.2.2.2.2.2.2.1 c0 StaticRouteD).1, (List.getD r.2.2.2.2.2.2.2.1 c0 StaticRouteD).2.1, ()))) || true) || (((List.getD r.2.2.2.2.2.2.2.1 c0 StaticRouteD).2.2.1 != 0) && (decide ((g_r8_Address r (List.getD r.2.2.2.2.2.2.2.1 c0 StaticRouteD).2.2.1) ≥ 0)))) || (!(g_r8_within (List.getD r.2.2.2.2.2.2.2.1 c0 StaticRouteD).2.2.2.2.2.1 1 255))) || (!(g_r8_within (List.getD r.2.2.2.2.2.2.2.1 c0 StaticRouteD).2.2.2.2.2.2.1 0 65535))) 1 (cond (!((List.getD r.2.2.2.2.2.2.2.1 c0 StaticRouteD).2.2.2.1 == [])) (cond (decide ((g_r8_Interface r (List.getD r.2.2.2.2.2.2.2.1 c0 StaticRouteD).2.2.2.1) < 0)) 5 (cond ((List.getD r.2.2.1 (Int.toNat (g_r8_Interface r (List.getD r.2.2.2.2.2.2.2.1 c0 StaticRouteD).2.2.2.1)) InterfaceD).2.2.1 == 0) 1 (S_r8_statics_1 r c0 (List.getD r.2.2.2.2.2.2.2.1 c0 StaticRouteD) next0))) (S_r8_statics_1 r c0 (List.getD r.2.2.2.2.2.2.2.1 c0 StaticRouteD) next0))) (cond (((((!(g_r4_Valid ((List.getD r.2.2.2.2.2.2.2.1 c0 StaticRouteD).1, (List.getD r.2.2.2.2.2.2.2.1 c0 StaticRouteD).2.1, ()))) && true) || (((List.getD r.2.2.2.2.2.2.2.1 c0 StaticRouteD).2.2.1 != 0) && (decide ((g_r8_Address r (List.getD r.2.2.2.2.2.2.2.1 c0 StaticRouteD).2.2.1) ≥ 0)))) || (!(g_r8_within (List.getD r.2.2.2.2.2.2.2.1 c0 StaticRouteD).2.2.2.2.2.1 1 255))) || (!(g_r8_within (List.getD r.2.2.2.2.2.2.2.1 c0 StaticRouteD).2.2.2.2.2.2.1 0 65535))) 1 (cond (!((List.getD r.2.2.2.2.2.2.2.1 c0 StaticRouteD).2.2.2.1 == [])) (cond (decide ((g_r8_Interface r (List.getD r.2.2.2.2.2.2.2.1 c0 StaticRouteD).2.2.2.1) < 0)) 5 (cond ((List.getD r.2.2.1 (Int.toNat (g_r8_Interface r (List.getD r.2.2.2.2.2.2.2.1 c0 StaticRouteD).2.2.2.1)) InterfaceD).2.2.1 == 0) 1 (S_r8_statics_1 r c0 (List.getD r.2.2.2.2.2.2.2.1 c0 StaticRouteD) next0))) (S_r8_statics_1 r c0 (List.getD r.2.2.2.2.2.2.2.1 c0 StaticRouteD) next0)))) (cond (List.getD r.2.2.2.2.2.2.2.1 c0 StaticRouteD).2.2.2.2.1 (cond (((((!(g_r4_Valid ((List.getD r.2.2.2.2.2.2.2.1 c0 StaticRouteD).1, (List.getD r.2.2.2.2.2.2.2.1 c0 StaticRouteD).2.1, ()))) && true) || (((List.getD r.2.2.2.2.2.2.2.1 c0 StaticRouteD).2.2.1 != 0) && (decide ((g_r8_Address r (List.getD r.2.2.2.2.2.2.2.1 c0 StaticRouteD).2.2.1) ≥ 0)))) || (!(g_r8_within (List.getD r.2.2.2.2.2.2.2.1 c0 StaticRouteD).2.2.2.2.2.1 1 255))) || (!(g_r8_within (List.getD r.2.2.2.2.2.2.2.1 c0 StaticRouteD).2.2.2.2.2.2.1 0 65535))) 1 (cond (!((List.getD r.2.2.2.2.2.2.2.1 c0 StaticRouteD).2.2.2.1 == [])) (cond (decide ((g_r8_Interface r (List.getD r.2.2.2.2.2.2.2.1 c0 StaticRouteD).2.2.2.1) < 0)) 5 (cond ((List.getD r.2.2.1 (Int.toNat (g_r8_Interface r (List.getD r.2.2.2.2.2.2.2.1 c0 StaticRouteD).2.2.2.1)) InterfaceD).2.2.1 == 0) 1 (S_r8_statics_1 r c0 (List.getD r.2.2.2.2.2.2.2.1 c0 StaticRouteD) next0))) (S_r8_statics_1 r c0 (List.getD r.2.2.2.2.2.2.2.1 c0 StaticRouteD) next0))) (cond (((((!(g_r4_Valid ((List.getD r.2.2.2.2.2.2.2.1 c0 StaticRouteD).1, (List.getD r.2.2.2.2.2.2.2.1 c0 StaticRouteD).2.1, ()))) || true) || (((List.getD r.2.2.2.2.2.2.2.1 c0 StaticRouteD).2.2.1 != 0) && (decide ((g_r8_Address r (List.getD r.2.2.2.2.2.2.2.1 c0 StaticRouteD).2.2.1) ≥ 0)))) || (!(g_r8_within (List.getD r.2.2.2.2.2.2.2.1 c0 StaticRouteD).2.2.2.2.2.1 1 255))) || (!(g_r8_within (List.getD r.2.2.2.2.2.2.2.1 c0 StaticRouteD).2.2.2.2.2.2.1 0 65535))) 1 (cond (!((List.getD r.2.2.2.2.2.2.2.1 c0 StaticRouteD).2.2.2.1 == [])) (cond (decide ((g_r8_Interface r (List.getD r.2.2.2.2.2.2.2.1 c0 StaticRouteD).2.2.2.1) < 0)) 5 (cond ((List.getD r.2.2.1 (Int.toNat (g_r8_Interface r (List.getD r.2.2.2.2.2.2.2.1 c0 StaticRouteD).2.2.2.1)) InterfaceD).2.2.1 == 0) 1 (S_r8_statics_1 r c0 (List.getD r.2.2.2.2.2.2.2.1 c0 StaticRouteD) next0))) (S_r8_statics_1 r c0 (List.getD r.2.2.2.2.2.2.2.1 c0 StaticRouteD) next0)))))) (0) (r.2.2.2.2.2.2.2.1.length - 0) 0
def g_r8_statics (r : RouterT) : Int := cond (decide ((r.2.2.2.2.2.2.2.1.length : Int) > 16)) 7 (S_r8_statics_0 r)
def e_r8_statics : Ent := ⟨47, [.st RouterS], [.one (.int .i64)], fun _ => true, fun x => (g_r8_statics x.1, ())⟩
def S_r8_RouteMap_0 (r : RouterT) (name : List UInt8) : Int := upV (fun c0 next0 => cond ((List.getD r.2.2.2.2.1 c0 RouteMapD).1 == name) (c0 : Int) next0) ((-1)) (r.2.2.2.2.1.length - 0) 0
def g_r8_RouteMap (r : RouterT) (name : List UInt8) : Int := (S_r8_RouteMap_0 r name)
def e_r8_RouteMap : Ent := ⟨105, [.st RouterS, .one .str], [.one (.int .i64)], fun _ => true, fun x => (g_r8_RouteMap x.1 x.2.1, ())⟩
def S_r8_redistributions_1 (_r : RouterT) (l : List RedistT) (_into : Int) (_least : Int) (_most : Int) (c0 : Nat) (v1 : RedistT) (next0 : Int) : Int := upV (fun c1 next1 => cond ((List.getD l c1 RedistD).1 == v1.1) 4 next1) (next0) (c0 - 0) 0
def S_r8_redistributions_0 (r : RouterT) (l : List RedistT) (into : Int) (least : Int) (most : Int) : Int := upV (fun c0 next0 => cond ((((!(g_r8_within (List.getD l c0 RedistD).1 1 5)) || ((List.getD l c0 RedistD).1 == into)) || (!(g_r8_within (List.getD l c0 RedistD).2.1 least most))) || (!(g_r8_within (List.getD l c0 RedistD).2.2.1 0 65535))) 1 (cond ((((into == 3) && ((List.getD l c0 RedistD).2.2.2.2.1 != 1)) && ((List.getD l c0 RedistD).2.2.2.2.1 != 2)) || ((into != 3) && ((List.getD l c0 RedistD).2.2.2.2.1 != 0))) 1 (cond ((!((List.getD l c0 RedistD).2.2.2.1 == [])) && (decide ((g_r8_RouteMap r (List.getD l c0 RedistD).2.2.2.1) < 0))) 5 (S_r8_redistributions_1 r l into least most c0 (List.getD l c0 RedistD) next0)))) (0) (l.length - 0) 0
def g_r8_redistributions (r : RouterT) (l : List RedistT) (into : Int) (least : Int) (most : Int) : Int := cond (decide ((l.length : Int) > 4)) 7 (S_r8_redistributions_0 r l into least most)
def e_r8_redistributions : Ent := ⟨79, [.st RouterS, .one (.sl RedistS), .one (.int .i64), .one (.int .i64), .one (.int .i64)], [.one (.int .i64)], fun _ => true, fun x => (g_r8_redistributions x.1 x.2.1 x.2.2.1 x.2.2.2.1 x.2.2.2.2.1, ())⟩
def S_r8_linkState_1 (r : RouterT) (c0 : Nat) (next0 : Int) : Int := upV (fun c1 next1 => cond (((List.getD r.2.2.2.2.2.2.2.2.2.2.1 c1 AreaRangeD).1 == (List.getD r.2.2.2.2.2.2.2.2.2.2.1 c0 AreaRangeD).1) && (g_r4_Overlaps (List.getD r.2.2.2.2.2.2.2.2.2.2.1 c1 AreaRangeD).2 (List.getD r.2.2.2.2.2.2.2.2.2.2.1 c0 AreaRangeD).2)) 6 next1) (next0) (c0 - 0) 0
def S_r8_linkState_0 (r : RouterT) : Int := upV (fun c0 next0 => cond ((!(g_r8_within (List.getD r.2.2.2.2.2.2.2.2.2.2.1 c0 AreaRangeD).1 0 255)) || (!(g_r4_Valid (List.getD r.2.2.2.2.2.2.2.2.2.2.1 c0 AreaRangeD).2))) 1 (S_r8_linkState_1 r c0 next0)) ((g_r8_redistributions r r.2.2.2.2.2.2.2.2.2.2.2.1 3 0 16777215)) (r.2.2.2.2.2.2.2.2.2.2.1.length - 0) 0
def g_r8_linkState (r : RouterT) : Int := cond (!r.2.2.2.2.2.2.2.2.1) (cond (((r.2.2.2.2.2.2.2.2.2.1 != 0) || (decide ((r.2.2.2.2.2.2.2.2.2.2.1.length : Int) > 0))) || (decide ((r.2.2.2.2.2.2.2.2.2.2.2.1.length : Int) > 0))) 1 0) (cond (!(g_r8_within r.2.2.2.2.2.2.2.2.2.1 1 255)) 1 (cond (decide ((r.2.2.2.2.2.2.2.2.2.2.1.length : Int) > 4)) 7 (S_r8_linkState_0 r)))
def e_r8_linkState : Ent := ⟨48, [.st RouterS], [.one (.int .i64)], fun _ => true, fun x => (g_r8_linkState x.1, ())⟩
def g_r8_distance (r : RouterT) : Int := cond (!r.2.2.2.2.2.2.2.2.2.2.2.2.1) (cond ((((r.2.2.2.2.2.2.2.2.2.2.2.2.2.1 != 0) || (!(r.2.2.2.2.2.2.2.2.2.2.2.2.2.2.1 == []))) || (!(r.2.2.2.2.2.2.2.2.2.2.2.2.2.2.2.1 == []))) || (decide ((r.2.2.2.2.2.2.2.2.2.2.2.2.2.2.2.2.1.length : Int) > 0))) 1 0) (cond (!(g_r8_within r.2.2.2.2.2.2.2.2.2.2.2.2.2.1 1 255)) 1 (cond (((!(r.2.2.2.2.2.2.2.2.2.2.2.2.2.2.1 == [])) && (decide ((g_r8_PrefixList r r.2.2.2.2.2.2.2.2.2.2.2.2.2.2.1) < 0))) || ((!(r.2.2.2.2.2.2.2.2.2.2.2.2.2.2.2.1 == [])) && (decide ((g_r8_PrefixList r r.2.2.2.2.2.2.2.2.2.2.2.2.2.2.2.1) < 0)))) 5 (g_r8_redistributions r r.2.2.2.2.2.2.2.2.2.2.2.2.2.2.2.2.1 4 1 15)))
def e_r8_distance : Ent := ⟨49, [.st RouterS], [.one (.int .i64)], fun _ => true, fun x => (g_r8_distance x.1, ())⟩
def S_r8_neighbors_1 (r : RouterT) (c0 : Nat) (next0 : Int) : Int := upV (fun c1 next1 => cond ((List.getD r.2.2.2.2.2.2.2.2.2.2.2.2.2.2.2.2.2.2.2.2.1 c1 NeighborD).1 == (List.getD r.2.2.2.2.2.2.2.2.2.2.2.2.2.2.2.2.2.2.2.2.1 c0 NeighborD).1) 4 next1) (next0) (c0 - 0) 0
def S_r8_neighbors_0 (r : RouterT) : Int := upV (fun c0 next0 => cond (((List.getD r.2.2.2.2.2.2.2.2.2.2.2.2.2.2.2.2.2.2.2.2.1 c0 NeighborD).1 == 0) || (!(g_r8_within (List.getD r.2.2.2.2.2.2.2.2.2.2.2.2.2.2.2.2.2.2.2.2.1 c0 NeighborD).2.1 1 65535))) 1 (cond (((!((List.getD r.2.2.2.2.2.2.2.2.2.2.2.2.2.2.2.2.2.2.2.2.1 c0 NeighborD).2.2.1 == [])) && (decide ((g_r8_RouteMap r (List.getD r.2.2.2.2.2.2.2.2.2.2.2.2.2.2.2.2.2.2.2.2.1 c0 NeighborD).2.2.1) < 0))) || ((!((List.getD r.2.2.2.2.2.2.2.2.2.2.2.2.2.2.2.2.2.2.2.2.1 c0 NeighborD).2.2.2.1 == [])) && (decide ((g_r8_RouteMap r (List.getD r.2.2.2.2.2.2.2.2.2.2.2.2.2.2.2.2.2.2.2.2.1 c0 NeighborD).2.2.2.1) < 0)))) 5 (S_r8_neighbors_1 r c0 next0))) (0) (r.2.2.2.2.2.2.2.2.2.2.2.2.2.2.2.2.2.2.2.2.1.length - 0) 0
def g_r8_neighbors (r : RouterT) : Int := cond (decide ((r.2.2.2.2.2.2.2.2.2.2.2.2.2.2.2.2.2.2.2.2.1.length : Int) > 8)) 7 (S_r8_neighbors_0 r)
def e_r8_neighbors : Ent := ⟨80, [.st RouterS], [.one (.int .i64)], fun _ => true, fun x => (g_r8_neighbors x.1, ())⟩
def S_r8_originations_1 (x0 : PathVectorT) (c0 : Nat) (next0 : Int) : Int := upV (fun c1 next1 => cond (((List.getD x0.2.2.2.2.1 c1 PrefixD).1 == (List.getD x0.2.2.2.2.1 c0 PrefixD).1) && ((List.getD x0.2.2.2.2.1 c1 PrefixD).2.1 == (List.getD x0.2.2.2.2.1 c0 PrefixD).2.1)) 4 next1) (next0) (c0 - 0) 0
def S_r8_originations_3 (x0 : PathVectorT) (c2 : Nat) (next2 : Int) : Int := upV (fun c3 next3 => cond (((List.getD x0.2.2.2.2.2.1 c3 AggregateD).1 == (List.getD x0.2.2.2.2.2.1 c2 AggregateD).1) && ((List.getD x0.2.2.2.2.2.1 c3 AggregateD).2.1 == (List.getD x0.2.2.2.2.2.1 c2 AggregateD).2.1)) 4 next3) (next2) (c2 - 0) 0
def S_r8_originations_5 (x0 : PathVectorT) (c4 : Nat) (v1 : ConditionT) (next4 : Int) : Int := upV (fun c5 next5 => cond (((List.getD x0.2.2.2.2.2.2.1 c5 ConditionD).1 == v1.1) && ((List.getD x0.2.2.2.2.2.2.1 c5 ConditionD).2.1 == v1.2.1)) 4 next5) (next4) (c4 - 0) 0
def S_r8_originations_4 (x0 : PathVectorT) : Int := upV (fun c4 next4 => cond ((!(g_r4_Valid ((List.getD x0.2.2.2.2.2.2.1 c4 ConditionD).1, (List.getD x0.2.2.2.2.2.2.1 c4 ConditionD).2.1, ()))) || (!(g_r4_Valid ((List.getD x0.2.2.2.2.2.2.1 c4 ConditionD).2.2.1, (List.getD x0.2.2.2.2.2.2.1 c4 ConditionD).2.2.2.1, ())))) 1 (cond (((List.getD x0.2.2.2.2.2.2.1 c4 ConditionD).1 == (List.getD x0.2.2.2.2.2.2.1 c4 ConditionD).2.2.1) && ((List.getD x0.2.2.2.2.2.2.1 c4 ConditionD).2.1 == (List.getD x0.2.2.2.2.2.2.1 c4 ConditionD).2.2.2.1)) 6 (S_r8_originations_5 x0 c4 (List.getD x0.2.2.2.2.2.2.1 c4 ConditionD) next4))) (0) (x0.2.2.2.2.2.2.1.length - 0) 0
def S_r8_originations_2 (x0 : PathVectorT) : Int := upV (fun c2 next2 => cond (!(g_r4_Valid ((List.getD x0.2.2.2.2.2.1 c2 AggregateD).1, (List.getD x0.2.2.2.2.2.1 c2 AggregateD).2.1, ()))) 1 (S_r8_originations_3 x0 c2 next2)) (cond (decide ((x0.2.2.2.2.2.2.1.length : Int) > 8)) 7 (S_r8_originations_4 x0)) (x0.2.2.2.2.2.1.length - 0) 0
def S_r8_originations_0 (x0 : PathVectorT) : Int := upV (fun c0 next0 => cond (!(g_r4_Valid (List.getD x0.2.2.2.2.1 c0 PrefixD))) 1 (S_r8_originations_1 x0 c0 next0)) (cond (decide ((x0.2.2.2.2.2.1.length : Int) > 8)) 7 (S_r8_originations_2 x0)) (x0.2.2.2.2.1.length - 0) 0
def g_r8_originations (x0 : PathVectorT) : Int := cond (decide ((x0.2.2.2.2.1.length : Int) > 8)) 7 (S_r8_originations_0 x0)
def e_r8_originations : Ent := ⟨81, [.st PathVectorS], [.one (.int .i64)], fun _ => true, fun x => (g_r8_originations x.1, ())⟩
def g_r8_pathVector (r : RouterT) : Int := cond (!r.2.2.2.2.2.2.2.2.2.2.2.2.2.2.2.2.2.1) (cond (((r.2.2.2.2.2.2.2.2.2.2.2.2.2.2.2.2.2.2.1 != 0) || (r.2.2.2.2.2.2.2.2.2.2.2.2.2.2.2.2.2.2.2.1 != 0)) || (decide ((IntKind.wrap .i64 ((IntKind.wrap .i64 ((IntKind.wrap .i64 ((IntKind.wrap .i64 ((r.2.2.2.2.2.2.2.2.2.2.2.2.2.2.2.2.2.2.2.2.1.length : Int) + (r.2.2.2.2.2.2.2.2.2.2.2.2.2.2.2.2.2.2.2.2.2.1.length : Int))) + (r.2.2.2.2.2.2.2.2.2.2.2.2.2.2.2.2.2.2.2.2.2.2.1.length : Int))) + (r.2.2.2.2.2.2.2.2.2.2.2.2.2.2.2.2.2.2.2.2.2.2.2.1.length : Int))) + (r.2.2.2.2.2.2.2.2.2.2.2.2.2.2.2.2.2.2.2.2.2.2.2.2.1.length : Int))) > 0))) 1 0) (cond (((r.2.1 == 0) || (!(g_r8_within r.2.2.2.2.2.2.2.2.2.2.2.2.2.2.2.2.2.2.1 1 255))) || (!(g_r8_within r.2.2.2.2.2.2.2.2.2.2.2.2.2.2.2.2.2.2.2.1 1 255))) 1 (cond ((g_r8_neighbors r) != 0) (g_r8_neighbors r) (cond ((g_r8_originations r.2.2.2.2.2.2.2.2.2.2.2.2.2.2.2.2.2) != 0) (g_r8_originations r.2.2.2.2.2.2.2.2.2.2.2.2.2.2.2.2.2) (g_r8_redistributions r r.2.2.2.2.2.2.2.2.2.2.2.2.2.2.2.2.2.2.2.2.2.2.2.2.1 5 0 16777215))))
def e_r8_pathVector : Ent := ⟨50, [.st RouterS], [.one (.int .i64)], fun _ => true, fun x => (g_r8_pathVector x.1, ())⟩
def g_r8_CheckRouter (r : RouterT) : Int := cond (!(g_r4_Name r.1)) 3 (cond (!(g_r8_within r.2.1 0 65535)) 1 (cond ((g_r8_interfaces r.2.2.1) != 0) (g_r8_interfaces r.2.2.1) (cond ((g_r8_prefixLists r.2.2.2.1) != 0) (g_r8_prefixLists r.2.2.2.1) (cond ((g_r8_routeMaps r) != 0) (g_r8_routeMaps r) (cond ((g_r8_accessLists r.2.2.2.2.2.1) != 0) (g_r8_accessLists r.2.2.2.2.2.1) (cond ((g_r8_translations r) != 0) (g_r8_translations r) (cond ((g_r8_filters r) != 0) (g_r8_filters r) (cond ((g_r8_statics r) != 0) (g_r8_statics r) (cond ((g_r8_linkState r) != 0) (g_r8_linkState r) (cond ((g_r8_distance r) != 0) (g_r8_distance r) (cond ((g_r8_pathVector r) != 0) (g_r8_pathVector r) 0)))))))))))
def e_r8_CheckRouter : Ent := ⟨15, [.st RouterS], [.one (.int .i64)], fun _ => true, fun x => (g_r8_CheckRouter x.1, ())⟩
theorem upV_sm {f : Nat → Bool} {r : Bool} : ∀ (m s : Nat), upV (fun c x => cond (f c) false x) r m s = true → r = true ∧ ∀ c, s ≤ c → c < s + m → f c = false
  | 0, s, h => ⟨h, fun c h1 h2 => by omega⟩
  | m + 1, s, h => by
    simp only [upV] at h
    cases hf : f s with
    | true => rw [hf] at h; cases h
    | false =>
      rw [hf] at h
      obtain ⟨h1, h2⟩ := upV_sm m (s + 1) h
      refine ⟨h1, fun c h3 h4 => ?_⟩
      rcases Nat.lt_or_ge s c with h5 | h5
      · exact h2 c (by omega) (by omega)
      · have : c = s := by omega
        subst this; exact hf
def S_law5_Small_2 (r : RouterT) : Bool := upV (fun c2 next2 => cond (decide (((List.getD r.2.2.2.2.2.1 c2 ACLD).2.1.length : Int) > 20)) false next2) (true) (r.2.2.2.2.2.1.length - 0) 0
def S_law5_Small_1 (r : RouterT) : Bool := upV (fun c1 next1 => cond (decide (((List.getD r.2.2.2.2.1 c1 RouteMapD).2.1.length : Int) > 12)) false next1) ((S_law5_Small_2 r)) (r.2.2.2.2.1.length - 0) 0
def S_law5_Small_0 (r : RouterT) : Bool := upV (fun c0 next0 => cond (decide (((List.getD r.2.2.2.1 c0 PrefixListD).2.1.length : Int) > 20)) false next0) ((S_law5_Small_1 r)) (r.2.2.2.1.length - 0) 0
def g_law5_Small (r : RouterT) : Bool := cond ((((((((((((((decide ((r.2.2.1.length : Int) > 12)) || (decide ((r.2.2.2.1.length : Int) > 12))) || (decide ((r.2.2.2.2.1.length : Int) > 12))) || (decide ((r.2.2.2.2.2.1.length : Int) > 12))) || (decide ((r.2.2.2.2.2.2.1.length : Int) > 12))) || (decide ((r.2.2.2.2.2.2.2.1.length : Int) > 20))) || (decide ((r.2.2.2.2.2.2.2.2.2.2.1.length : Int) > 8))) || (decide ((r.2.2.2.2.2.2.2.2.2.2.2.1.length : Int) > 8))) || (decide ((r.2.2.2.2.2.2.2.2.2.2.2.2.2.2.2.2.1.length : Int) > 8))) || (decide ((r.2.2.2.2.2.2.2.2.2.2.2.2.2.2.2.2.2.2.2.2.2.2.2.2.1.length : Int) > 8))) || (decide ((r.2.2.2.2.2.2.2.2.2.2.2.2.2.2.2.2.2.2.2.2.1.length : Int) > 12))) || (decide ((r.2.2.2.2.2.2.2.2.2.2.2.2.2.2.2.2.2.2.2.2.2.1.length : Int) > 12))) || (decide ((r.2.2.2.2.2.2.2.2.2.2.2.2.2.2.2.2.2.2.2.2.2.2.1.length : Int) > 12))) || (decide ((r.2.2.2.2.2.2.2.2.2.2.2.2.2.2.2.2.2.2.2.2.2.2.2.1.length : Int) > 12))) false (S_law5_Small_0 r)
def e_law5_Small : Ent := ⟨23, [.st RouterS], [.one .bool], fun _ => true, fun x => (g_law5_Small x.1, ())⟩
def g_law11_right (r : RouterT) : Bool := ((g_law5_Small r) && ((g_r8_CheckRouter r) == 0))
def e_law11_right : Ent := ⟨8, [.st RouterS], [.one .bool], fun _ => true, fun x => (g_law11_right x.1, ())⟩
def S_keep_Findings_0 (a : List FindingT) (b : List FindingT) : Bool := upV (fun c0 next0 => cond (!(((List.getD a c0 FindingD).1 == (List.getD b c0 FindingD).1) && (((List.getD a c0 FindingD).2.1 == (List.getD b c0 FindingD).2.1) && (((List.getD a c0 FindingD).2.2.1 == (List.getD b c0 FindingD).2.2.1) && (((List.getD a c0 FindingD).2.2.2.1 == (List.getD b c0 FindingD).2.2.2.1) && ((List.getD a c0 FindingD).2.2.2.2.1 == (List.getD b c0 FindingD).2.2.2.2.1)))))) false next0) (true) (a.length - 0) 0
def g_keep_Findings (a : List FindingT) (b : List FindingT) : Bool := cond ((a.length : Int) != (b.length : Int)) false (S_keep_Findings_0 a b)
def e_keep_Findings : Ent := ⟨9, [.one (.sl FindingS), .one (.sl FindingS)], [.one .bool], fun _ => true, fun x => (g_keep_Findings x.1 x.2.1, ())⟩
def g_addr_clamp (n : Int) : Int := (cond (decide ((cond (decide (32 < n)) 32 n) > 0)) (cond (decide (32 < n)) 32 n) 0)
def e_addr_clamp : Ent := ⟨108, [.one (.int .i64)], [.one (.int .i64)], fun _ => true, fun x => (g_addr_clamp x.1, ())⟩
theorem clamp_range (n : Int) : 0 ≤ g_addr_clamp n ∧ g_addr_clamp n ≤ 32 := by
  unfold g_addr_clamp
  simp only [Bool.cond_eq_ite, decide_eq_true_eq]
  repeat' split
  all_goals omega
def g_addr_Mask (n : Int) : Int := (ishl .u32 4294967295 (IntKind.wrap .i64 (32 - (g_addr_clamp n))))
def e_addr_Mask : Ent := ⟨106, [.one (.int .i64)], [.one (.int .u32)], fun _ => true, fun x => (g_addr_Mask x.1, ())⟩
def g_addr_Contains (p : PrefixT) (a : Int) : Bool := ((iand .u32 a (g_addr_Mask p.2.1)) == p.1)
def e_addr_Contains : Ent := ⟨94, [.st PrefixS, .one (.int .u32)], [.one .bool], fun _ => true, fun x => (g_addr_Contains x.1 x.2.1, ())⟩
def g_addr_Covers (p : PrefixT) (q : PrefixT) : Bool := ((decide (p.2.1 ≤ q.2.1)) && (g_addr_Contains p q.1))
def e_addr_Covers : Ent := ⟨60, [.st PrefixS, .st PrefixS], [.one .bool], fun _ => true, fun x => (g_addr_Covers x.1 x.2.1, ())⟩
def g_policy_Covers (a : PrefixRuleT) (b : PrefixRuleT) : Bool := (((g_addr_Covers (a.2.1, a.2.2.1, ()) (b.2.1, b.2.2.1, ())) && (decide (a.2.2.2.1 ≤ b.2.2.2.1))) && (decide (b.2.2.2.2.1 ≤ a.2.2.2.2.1)))
def e_policy_Covers : Ent := ⟨25, [.st PrefixRuleS, .st PrefixRuleS], [.one .bool], fun _ => true, fun x => (g_policy_Covers x.1 x.2.1, ())⟩
structure SmallR (r : RouterT) : Prop where
  ifs : r.2.2.1.length ≤ 12
  lists : r.2.2.2.1.length ≤ 12
  maps : r.2.2.2.2.1.length ≤ 12
  acls : r.2.2.2.2.2.1.length ≤ 12
  nat : r.2.2.2.2.2.2.1.length ≤ 12
  stat : r.2.2.2.2.2.2.2.1.length ≤ 20
  lsR : r.2.2.2.2.2.2.2.2.2.2.1.length ≤ 8
  lsX : r.2.2.2.2.2.2.2.2.2.2.2.1.length ≤ 8
  dvX : r.2.2.2.2.2.2.2.2.2.2.2.2.2.2.2.2.1.length ≤ 8
  pvX : r.2.2.2.2.2.2.2.2.2.2.2.2.2.2.2.2.2.2.2.2.2.2.2.2.1.length ≤ 8
  pvN : r.2.2.2.2.2.2.2.2.2.2.2.2.2.2.2.2.2.2.2.2.1.length ≤ 12
  pvW : r.2.2.2.2.2.2.2.2.2.2.2.2.2.2.2.2.2.2.2.2.2.1.length ≤ 12
  pvA : r.2.2.2.2.2.2.2.2.2.2.2.2.2.2.2.2.2.2.2.2.2.2.1.length ≤ 12
  pvC : r.2.2.2.2.2.2.2.2.2.2.2.2.2.2.2.2.2.2.2.2.2.2.2.1.length ≤ 12
  l1 : ∀ c, (List.getD r.2.2.2.1 c PrefixListD : PrefixListT).2.1.length ≤ 20
  l2 : ∀ c, (List.getD r.2.2.2.2.1 c RouteMapD : RouteMapT).2.1.length ≤ 12
  l3 : ∀ c, (List.getD r.2.2.2.2.2.1 c ACLD : ACLT).2.1.length ≤ 20
theorem getD_len0 {α : Type} {l : List α} {d : α} {f : α → Nat} {k : Nat} (hd : f d ≤ k) (h : ∀ c, c < l.length → f (List.getD l c d) ≤ k) (c : Nat) : f (List.getD l c d) ≤ k := by
  rcases Nat.lt_or_ge c l.length with h1 | h1
  · exact h c h1
  · rw [List.getD_eq_getElem?_getD, List.getElem?_eq_none h1]; exact hd
theorem small_of {r : RouterT} (h : g_law5_Small r = true) : SmallR r := by
  unfold g_law5_Small at h
  simp only [Bool.cond_eq_ite, Bool.ite_eq_true_distrib] at h
  split at h
  · cases h
  · rename_i h0
    simp only [Bool.or_eq_true, decide_eq_true_eq, not_or] at h0
    unfold S_law5_Small_0 at h
    obtain ⟨h1, e1⟩ := upV_sm _ _ h
    unfold S_law5_Small_1 at h1
    obtain ⟨h2, e2⟩ := upV_sm _ _ h1
    unfold S_law5_Small_2 at h2
    obtain ⟨_, e3⟩ := upV_sm _ _ h2
    have t1 : ∀ c, (List.getD r.2.2.2.1 c PrefixListD : PrefixListT).2.1.length ≤ 20 := getD_len0 (f := fun x : PrefixListT => x.2.1.length) (Nat.zero_le _) fun c hc => by
      have := e1 c (Nat.zero_le _) (by omega); simp only [decide_eq_false_iff_not] at this; omega
    have t2 : ∀ c, (List.getD r.2.2.2.2.1 c RouteMapD : RouteMapT).2.1.length ≤ 12 := getD_len0 (f := fun x : RouteMapT => x.2.1.length) (Nat.zero_le _) fun c hc => by
      have := e2 c (Nat.zero_le _) (by omega); simp only [decide_eq_false_iff_not] at this; omega
    have t3 : ∀ c, (List.getD r.2.2.2.2.2.1 c ACLD : ACLT).2.1.length ≤ 20 := getD_len0 (f := fun x : ACLT => x.2.1.length) (Nat.zero_le _) fun c hc => by
      have := e3 c (Nat.zero_le _) (by omega); simp only [decide_eq_false_iff_not] at this; omega
    exact ⟨by omega, by omega, by omega, by omega, by omega, by omega, by omega, by omega, by omega, by omega, by omega, by omega, by omega, by omega, t1, t2, t3⟩
def g_lint_CoversClause (a : ClauseT) (b : ClauseT) : Bool := (((a.2.1 == []) || (a.2.1 == b.2.1)) && ((a.2.2.1 == (-1)) || (a.2.2.1 == b.2.2.1)))
def e_lint_CoversClause : Ent := ⟨27, [.st ClauseS, .st ClauseS], [.one .bool], fun _ => true, fun x => (g_lint_CoversClause x.1 x.2.1, ())⟩
def g_lint_shadowedBy_PrefixRule (x0 : PrefixRuleT) (_c1 : TF25T) (c2 : TLPrefixRuleT) (c3 : I64T) : Bool := (g_policy_Covers x0 (List.getD c2.1 (Int.toNat c3.1) PrefixRuleD))
def p_lint_shadowedBy_PrefixRule (_x0 : PrefixRuleT) (_c1 : TF25T) (c2 : TLPrefixRuleT) (c3 : I64T) : Bool := ((okIx c3.1 (c2.1.length : Int)) && true)
def e_lint_shadowedBy_PrefixRule : Ent := ⟨93, [.st PrefixRuleS, .ptr TF25S, .ptr TLPrefixRuleS, .ptr I64S], [.one .bool], fun x => p_lint_shadowedBy_PrefixRule x.1 x.2.1 x.2.2.1 x.2.2.2.1, fun x => (g_lint_shadowedBy_PrefixRule x.1 x.2.1 x.2.2.1 x.2.2.2.1, ())⟩
def p_slices_IndexFunc_PrefixRule (__s : List PrefixRuleT) (__f : Unit) (l : List PrefixRuleT) (i : Int) : Bool := okIx i (l.length : Int)
def S_slices_IndexFunc_PrefixRule_0 (s : List PrefixRuleT) (_f_0 : Unit) (f_1 : List PrefixRuleT) (f_2 : Int) : Int := upV (fun c0 next0 => cond (g_lint_shadowedBy_PrefixRule (List.getD s c0 PrefixRuleD) ((), ()) (f_1, ()) (f_2, ())) (c0 : Int) next0) ((-1)) (s.length - 0) 0
def g_slices_IndexFunc_PrefixRule (s : List PrefixRuleT) (f_0 : Unit) (f_1 : List PrefixRuleT) (f_2 : Int) : Int := (S_slices_IndexFunc_PrefixRule_0 s f_0 f_1 f_2)
def e_slices_IndexFunc_PrefixRule : Ent := ⟨92, [.one (.sl PrefixRuleS), .clo 93 [TF25S, TLPrefixRuleS, I64S]], [.one (.int .i64)], fun x => p_slices_IndexFunc_PrefixRule x.1 x.2.1.1.1 x.2.1.2.1.1 x.2.1.2.2.1.1, fun x => (g_slices_IndexFunc_PrefixRule x.1 x.2.1.1.1 x.2.1.2.1.1 x.2.1.2.2.1.1, ())⟩
def g_lint_shadowedBy_PrefixRule2 (l : List PrefixRuleT) (i : Int) : Int := (g_slices_IndexFunc_PrefixRule (slcL l 0 i) () l i)
def p_lint_shadowedBy_PrefixRule2 (l : List PrefixRuleT) (i : Int) : Bool := ((okSlc 0 i (l.length : Int)) && (p_slices_IndexFunc_PrefixRule (slcL l 0 i) () l i))
def e_lint_shadowedBy_PrefixRule2 : Ent := ⟨59, [.one (.sl PrefixRuleS), .one (.int .i64), .clo 25 []], [.one (.int .i64)], fun x => p_lint_shadowedBy_PrefixRule2 x.1 x.2.1, fun x => (g_lint_shadowedBy_PrefixRule2 x.1 x.2.1, ())⟩
def p_lint_findings_PrefixRule (result : List FindingT) (__k : Int) (__n : List UInt8) (l : List PrefixRuleT) : Bool := decide (result.length + l.length ≤ roomy)
def S_lint_findings_PrefixRule_0 (_result : List FindingT) (kind : Int) (name : List UInt8) (l : List PrefixRuleT) (v20 : List FindingT) : List FindingT := upS (fun c0 (v2 : List FindingT) => fun (next0 : (List FindingT) → (List FindingT)) => cond (decide ((g_lint_shadowedBy_PrefixRule2 l (c0 : Int)) ≥ 0)) (next0 (v2 ++ [(kind, 0, name, (c0 : Int), (g_lint_shadowedBy_PrefixRule2 l (c0 : Int)), ())])) (next0 v2)) (fun (v2 : List FindingT) => (List.take (List.length v2) v2)) (l.length - 0) 0 v20
def g_lint_findings_PrefixRule (result : List FindingT) (kind : Int) (name : List UInt8) (l : List PrefixRuleT) : List FindingT := (S_lint_findings_PrefixRule_0 result kind name l result)
def e_lint_findings_PrefixRule : EntO := ⟨24, [.own FindingS, .p (.one (.int .i64)), .p (.one .str), .p (.one (.sl PrefixRuleS)), .p (.clo 25 [])], FindingS, fun x => p_lint_findings_PrefixRule x.1 x.2.1 x.2.2.1 x.2.2.2.1, fun x => g_lint_findings_PrefixRule x.1 x.2.1 x.2.2.1 x.2.2.2.1⟩
def g_lint_shadowedBy_Clause (x0 : ClauseT) (_c1 : TF27T) (c2 : TLClauseT) (c3 : I64T) : Bool := (g_lint_CoversClause x0 (List.getD c2.1 (Int.toNat c3.1) ClauseD))
def p_lint_shadowedBy_Clause (_x0 : ClauseT) (_c1 : TF27T) (c2 : TLClauseT) (c3 : I64T) : Bool := ((okIx c3.1 (c2.1.length : Int)) && true)
def e_lint_shadowedBy_Clause : Ent := ⟨96, [.st ClauseS, .ptr TF27S, .ptr TLClauseS, .ptr I64S], [.one .bool], fun x => p_lint_shadowedBy_Clause x.1 x.2.1 x.2.2.1 x.2.2.2.1, fun x => (g_lint_shadowedBy_Clause x.1 x.2.1 x.2.2.1 x.2.2.2.1, ())⟩
def p_slices_IndexFunc_Clause (__s : List ClauseT) (__f : Unit) (l : List ClauseT) (i : Int) : Bool := okIx i (l.length : Int)
def S_slices_IndexFunc_Clause_0 (s : List ClauseT) (_f_0 : Unit) (f_1 : List ClauseT) (f_2 : Int) : Int := upV (fun c0 next0 => cond (g_lint_shadowedBy_Clause (List.getD s c0 ClauseD) ((), ()) (f_1, ()) (f_2, ())) (c0 : Int) next0) ((-1)) (s.length - 0) 0
def g_slices_IndexFunc_Clause (s : List ClauseT) (f_0 : Unit) (f_1 : List ClauseT) (f_2 : Int) : Int := (S_slices_IndexFunc_Clause_0 s f_0 f_1 f_2)
def e_slices_IndexFunc_Clause : Ent := ⟨95, [.one (.sl ClauseS), .clo 96 [TF27S, TLClauseS, I64S]], [.one (.int .i64)], fun x => p_slices_IndexFunc_Clause x.1 x.2.1.1.1 x.2.1.2.1.1 x.2.1.2.2.1.1, fun x => (g_slices_IndexFunc_Clause x.1 x.2.1.1.1 x.2.1.2.1.1 x.2.1.2.2.1.1, ())⟩
def g_lint_shadowedBy_Clause2 (l : List ClauseT) (i : Int) : Int := (g_slices_IndexFunc_Clause (slcL l 0 i) () l i)
def p_lint_shadowedBy_Clause2 (l : List ClauseT) (i : Int) : Bool := ((okSlc 0 i (l.length : Int)) && (p_slices_IndexFunc_Clause (slcL l 0 i) () l i))
def e_lint_shadowedBy_Clause2 : Ent := ⟨61, [.one (.sl ClauseS), .one (.int .i64), .clo 27 []], [.one (.int .i64)], fun x => p_lint_shadowedBy_Clause2 x.1 x.2.1, fun x => (g_lint_shadowedBy_Clause2 x.1 x.2.1, ())⟩
def p_lint_findings_Clause (result : List FindingT) (__k : Int) (__n : List UInt8) (l : List ClauseT) : Bool := decide (result.length + l.length ≤ roomy)
def S_lint_findings_Clause_0 (_result : List FindingT) (kind : Int) (name : List UInt8) (l : List ClauseT) (v20 : List FindingT) : List FindingT := upS (fun c0 (v2 : List FindingT) => fun (next0 : (List FindingT) → (List FindingT)) => cond (decide ((g_lint_shadowedBy_Clause2 l (c0 : Int)) ≥ 0)) (next0 (v2 ++ [(kind, 0, name, (c0 : Int), (g_lint_shadowedBy_Clause2 l (c0 : Int)), ())])) (next0 v2)) (fun (v2 : List FindingT) => (List.take (List.length v2) v2)) (l.length - 0) 0 v20
def g_lint_findings_Clause (result : List FindingT) (kind : Int) (name : List UInt8) (l : List ClauseT) : List FindingT := (S_lint_findings_Clause_0 result kind name l result)
def e_lint_findings_Clause : EntO := ⟨26, [.own FindingS, .p (.one (.int .i64)), .p (.one .str), .p (.one (.sl ClauseS)), .p (.clo 27 [])], FindingS, fun x => p_lint_findings_Clause x.1 x.2.1 x.2.2.1 x.2.2.2.1, fun x => g_lint_findings_Clause x.1 x.2.1 x.2.2.1 x.2.2.2.1⟩
def g_acl_MatchesAddress (w : WildcardT) (a : Int) : Bool := ((iandnot .u32 (ixor .u32 a w.1) w.2.1) == 0)
def e_acl_MatchesAddress : Ent := ⟨57, [.st WildcardS, .one (.int .u32)], [.one .bool], fun _ => true, fun x => (g_acl_MatchesAddress x.1 x.2.1, ())⟩
def g_acl_coversAddresses (v_ : WildcardT) (w : WildcardT) : Bool := (((iandnot .u32 w.2.1 v_.2.1) == 0) && (g_acl_MatchesAddress v_ w.1))
def e_acl_coversAddresses : Ent := ⟨63, [.st WildcardS, .st WildcardS], [.one .bool], fun _ => true, fun x => (g_acl_coversAddresses x.1 x.2.1, ())⟩
def g_acl_coversPorts (x0 : PortRangeT) (y : PortRangeT) : Bool := ((decide (x0.1 ≤ y.1)) && (decide (y.2.1 ≤ x0.2.1)))
def e_acl_coversPorts : Ent := ⟨64, [.st PortRangeS, .st PortRangeS], [.one .bool], fun _ => true, fun x => (g_acl_coversPorts x.1 x.2.1, ())⟩
def g_acl_Covers (a : RuleT) (b : RuleT) : Bool := ((((((a.2.1 == (-1)) || (a.2.1 == b.2.1)) && (g_acl_coversAddresses (a.2.2.1, a.2.2.2.1, ()) (b.2.2.1, b.2.2.2.1, ()))) && (g_acl_coversAddresses (a.2.2.2.2.1, a.2.2.2.2.2.1, ()) (b.2.2.2.2.1, b.2.2.2.2.2.1, ()))) && (g_acl_coversPorts (a.2.2.2.2.2.2.1, a.2.2.2.2.2.2.2.1, ()) (b.2.2.2.2.2.2.1, b.2.2.2.2.2.2.2.1, ()))) && (g_acl_coversPorts a.2.2.2.2.2.2.2.2 b.2.2.2.2.2.2.2.2))
def e_acl_Covers : Ent := ⟨29, [.st RuleS, .st RuleS], [.one .bool], fun _ => true, fun x => (g_acl_Covers x.1 x.2.1, ())⟩
def g_lint_shadowedBy_Rule (x0 : RuleT) (_c1 : TF29T) (c2 : TLRuleT) (c3 : I64T) : Bool := (g_acl_Covers x0 (List.getD c2.1 (Int.toNat c3.1) RuleD))
def p_lint_shadowedBy_Rule (_x0 : RuleT) (_c1 : TF29T) (c2 : TLRuleT) (c3 : I64T) : Bool := ((okIx c3.1 (c2.1.length : Int)) && true)
def e_lint_shadowedBy_Rule : Ent := ⟨98, [.st RuleS, .ptr TF29S, .ptr TLRuleS, .ptr I64S], [.one .bool], fun x => p_lint_shadowedBy_Rule x.1 x.2.1 x.2.2.1 x.2.2.2.1, fun x => (g_lint_shadowedBy_Rule x.1 x.2.1 x.2.2.1 x.2.2.2.1, ())⟩
def p_slices_IndexFunc_Rule (__s : List RuleT) (__f : Unit) (l : List RuleT) (i : Int) : Bool := okIx i (l.length : Int)
def S_slices_IndexFunc_Rule_0 (s : List RuleT) (_f_0 : Unit) (f_1 : List RuleT) (f_2 : Int) : Int := upV (fun c0 next0 => cond (g_lint_shadowedBy_Rule (List.getD s c0 RuleD) ((), ()) (f_1, ()) (f_2, ())) (c0 : Int) next0) ((-1)) (s.length - 0) 0
def g_slices_IndexFunc_Rule (s : List RuleT) (f_0 : Unit) (f_1 : List RuleT) (f_2 : Int) : Int := (S_slices_IndexFunc_Rule_0 s f_0 f_1 f_2)
def e_slices_IndexFunc_Rule : Ent := ⟨97, [.one (.sl RuleS), .clo 98 [TF29S, TLRuleS, I64S]], [.one (.int .i64)], fun x => p_slices_IndexFunc_Rule x.1 x.2.1.1.1 x.2.1.2.1.1 x.2.1.2.2.1.1, fun x => (g_slices_IndexFunc_Rule x.1 x.2.1.1.1 x.2.1.2.1.1 x.2.1.2.2.1.1, ())⟩
def g_lint_shadowedBy_Rule2 (l : List RuleT) (i : Int) : Int := (g_slices_IndexFunc_Rule (slcL l 0 i) () l i)
def p_lint_shadowedBy_Rule2 (l : List RuleT) (i : Int) : Bool := ((okSlc 0 i (l.length : Int)) && (p_slices_IndexFunc_Rule (slcL l 0 i) () l i))
def e_lint_shadowedBy_Rule2 : Ent := ⟨62, [.one (.sl RuleS), .one (.int .i64), .clo 29 []], [.one (.int .i64)], fun x => p_lint_shadowedBy_Rule2 x.1 x.2.1, fun x => (g_lint_shadowedBy_Rule2 x.1 x.2.1, ())⟩
def p_lint_findings_Rule (result : List FindingT) (__k : Int) (__n : List UInt8) (l : List RuleT) : Bool := decide (result.length + l.length ≤ roomy)
def S_lint_findings_Rule_0 (_result : List FindingT) (kind : Int) (name : List UInt8) (l : List RuleT) (v20 : List FindingT) : List FindingT := upS (fun c0 (v2 : List FindingT) => fun (next0 : (List FindingT) → (List FindingT)) => cond (decide ((g_lint_shadowedBy_Rule2 l (c0 : Int)) ≥ 0)) (next0 (v2 ++ [(kind, 0, name, (c0 : Int), (g_lint_shadowedBy_Rule2 l (c0 : Int)), ())])) (next0 v2)) (fun (v2 : List FindingT) => (List.take (List.length v2) v2)) (l.length - 0) 0 v20
def g_lint_findings_Rule (result : List FindingT) (kind : Int) (name : List UInt8) (l : List RuleT) : List FindingT := (S_lint_findings_Rule_0 result kind name l result)
def e_lint_findings_Rule : EntO := ⟨28, [.own FindingS, .p (.one (.int .i64)), .p (.one .str), .p (.one (.sl RuleS)), .p (.clo 29 [])], FindingS, fun x => p_lint_findings_Rule x.1 x.2.1 x.2.2.1 x.2.2.2.1, fun x => g_lint_findings_Rule x.1 x.2.1 x.2.2.1 x.2.2.2.1⟩
theorem upS_len {A B : Type} {b : Nat → List A → (List A → List A) → List A} {f : Nat → List A → List A} (hb : ∀ c v k, b c v k = k (f c v)) (hf : ∀ c v, (f c v).length ≤ v.length + 1) : ∀ (m c : Nat) (v : List A), (upS b (fun v => segL v 0 v.length) m c v).length ≤ v.length + m
  | 0, c, v => by simp [upS, segL]
  | m + 1, c, v => by
    simp only [upS, hb]
    have h1 := upS_len (B := B) hb hf m (c + 1) (f c v)
    have h2 := hf c v
    omega
theorem cond_app {A B : Type} (p : Bool) (k : A → B) (x y : A) : cond p (k x) (k y) = k (cond p x y) := by cases p <;> rfl
theorem cond_len {A : Type} (p : Bool) (x y : List A) (n : Nat) (hx : x.length ≤ n) (hy : y.length ≤ n) : (cond p x y).length ≤ n := by cases p <;> assumption
theorem len_PrefixRule (s : List FindingT) (k : Int) (n : List UInt8) (l : List PrefixRuleT) : (g_lint_findings_PrefixRule s k n l).length ≤ s.length + l.length := by
  unfold g_lint_findings_PrefixRule S_lint_findings_PrefixRule_0
  exact upS_len (B := Unit) (f := fun c v => cond (decide ((g_lint_shadowedBy_PrefixRule2 l (c : Int)) ≥ 0)) (v ++ [_]) v) (fun c v k => cond_app _ _ _ _) (fun c v => cond_len _ _ _ _ (by simp) (by simp)) _ _ _
theorem len_Clause (s : List FindingT) (k : Int) (n : List UInt8) (l : List ClauseT) : (g_lint_findings_Clause s k n l).length ≤ s.length + l.length := by
  unfold g_lint_findings_Clause S_lint_findings_Clause_0
  exact upS_len (B := Unit) (f := fun c v => cond (decide ((g_lint_shadowedBy_Clause2 l (c : Int)) ≥ 0)) (v ++ [_]) v) (fun c v k => cond_app _ _ _ _) (fun c v => cond_len _ _ _ _ (by simp) (by simp)) _ _ _
theorem len_Rule (s : List FindingT) (k : Int) (n : List UInt8) (l : List RuleT) : (g_lint_findings_Rule s k n l).length ≤ s.length + l.length := by
  unfold g_lint_findings_Rule S_lint_findings_Rule_0
  exact upS_len (B := Unit) (f := fun c v => cond (decide ((g_lint_shadowedBy_Rule2 l (c : Int)) ≥ 0)) (v ++ [_]) v) (fun c v k => cond_app _ _ _ _) (fun c v => cond_len _ _ _ _ (by simp) (by simp)) _ _ _
def S_lint_Shadowed_2 (r : RouterT) (v20 : List FindingT) : List FindingT := upS (fun c2 (v2 : List FindingT) => fun (next2 : (List FindingT) → (List FindingT)) => (next2 (g_lint_findings_Rule v2 3 (List.getD r.2.2.2.2.2.1 c2 ACLD).1 (List.getD r.2.2.2.2.2.1 c2 ACLD).2.1))) (fun (v2 : List FindingT) => (segL v2 0 (List.length v2))) (r.2.2.2.2.2.1.length - 0) 0 v20
def S_lint_Shadowed_1 (r : RouterT) (v20 : List FindingT) : List FindingT := upS (fun c1 (v2 : List FindingT) => fun (next1 : (List FindingT) → (List FindingT)) => (next1 (g_lint_findings_Clause v2 2 (List.getD r.2.2.2.2.1 c1 RouteMapD).1 (List.getD r.2.2.2.2.1 c1 RouteMapD).2.1))) (fun (v2 : List FindingT) => (S_lint_Shadowed_2 r v2)) (r.2.2.2.2.1.length - 0) 0 v20
def S_lint_Shadowed_0 (r : RouterT) (v20 : List FindingT) : List FindingT := upS (fun c0 (v2 : List FindingT) => fun (next0 : (List FindingT) → (List FindingT)) => (next0 (g_lint_findings_PrefixRule v2 1 (List.getD r.2.2.2.1 c0 PrefixListD).1 (List.getD r.2.2.2.1 c0 PrefixListD).2.1))) (fun (v2 : List FindingT) => (S_lint_Shadowed_1 r v2)) (r.2.2.2.1.length - 0) 0 v20
def g_lint_Shadowed (r : RouterT) : List FindingT := (S_lint_Shadowed_0 r [])
def e_lint_Shadowed : Ent := ⟨10, [.st RouterS], [.one (.sl FindingS)], fun x => g_law5_Small x.1, fun x => (g_lint_Shadowed x.1, ())⟩
def g_r8_CoversPrefix (a : PrefixRuleT) (b : PrefixRuleT) : Bool := (((g_r4_Covers (a.2.1, a.2.2.1, ()) (b.2.1, b.2.2.1, ())) && (decide (a.2.2.2.1 ≤ b.2.2.2.1))) && (decide (b.2.2.2.2.1 ≤ a.2.2.2.2.1)))
def e_r8_CoversPrefix : Ent := ⟨65, [.st PrefixRuleS, .st PrefixRuleS], [.one .bool], fun _ => true, fun x => (g_r8_CoversPrefix x.1 x.2.1, ())⟩
def p_r12_prefixBy (l : List PrefixRuleT) (k : Int) : Bool := okIx k (l.length : Int)
def S_r12_prefixBy_0 (l : List PrefixRuleT) (k : Int) : Int := upV (fun c0 next0 => cond (g_r8_CoversPrefix (List.getD l c0 PrefixRuleD) (List.getD l (Int.toNat k) PrefixRuleD)) (c0 : Int) next0) ((-1)) ((Int.toNat k) - 0) 0
def g_r12_prefixBy (l : List PrefixRuleT) (k : Int) : Int := (S_r12_prefixBy_0 l k)
def e_r12_prefixBy : Ent := ⟨30, [.one (.sl PrefixRuleS), .one (.int .i64)], [.one (.int .i64)], fun x => p_r12_prefixBy x.1 x.2.1, fun x => (g_r12_prefixBy x.1 x.2.1, ())⟩
def g_r12_CoversClause (a : ClauseT) (b : ClauseT) : Bool := (((a.2.1 == []) || (a.2.1 == b.2.1)) && ((a.2.2.1 == (-1)) || (a.2.2.1 == b.2.2.1)))
def e_r12_CoversClause : Ent := ⟨66, [.st ClauseS, .st ClauseS], [.one .bool], fun _ => true, fun x => (g_r12_CoversClause x.1 x.2.1, ())⟩
def p_r12_clauseBy (l : List ClauseT) (k : Int) : Bool := okIx k (l.length : Int)
def S_r12_clauseBy_0 (l : List ClauseT) (k : Int) : Int := upV (fun c0 next0 => cond (g_r12_CoversClause (List.getD l c0 ClauseD) (List.getD l (Int.toNat k) ClauseD)) (c0 : Int) next0) ((-1)) ((Int.toNat k) - 0) 0
def g_r12_clauseBy (l : List ClauseT) (k : Int) : Int := (S_r12_clauseBy_0 l k)
def e_r12_clauseBy : Ent := ⟨31, [.one (.sl ClauseS), .one (.int .i64)], [.one (.int .i64)], fun x => p_r12_clauseBy x.1 x.2.1, fun x => (g_r12_clauseBy x.1 x.2.1, ())⟩
def g_r8_coversAddress (a : WildcardT) (b : WildcardT) : Bool := (((iandnot .u32 b.2.1 a.2.1) == 0) && ((iandnot .u32 (ixor .u32 a.1 b.1) a.2.1) == 0))
def e_r8_coversAddress : Ent := ⟨100, [.st WildcardS, .st WildcardS], [.one .bool], fun _ => true, fun x => (g_r8_coversAddress x.1 x.2.1, ())⟩
def g_r8_Covers (a : RuleT) (b : RuleT) : Bool := cond ((a.2.1 != (-1)) && (a.2.1 != b.2.1)) false ((((((g_r8_coversAddress (a.2.2.1, a.2.2.2.1, ()) (b.2.2.1, b.2.2.2.1, ())) && (g_r8_coversAddress (a.2.2.2.2.1, a.2.2.2.2.2.1, ()) (b.2.2.2.2.1, b.2.2.2.2.2.1, ()))) && (decide (a.2.2.2.2.2.2.1 ≤ b.2.2.2.2.2.2.1))) && (decide (b.2.2.2.2.2.2.2.1 ≤ a.2.2.2.2.2.2.2.1))) && (decide (a.2.2.2.2.2.2.2.2.1 ≤ b.2.2.2.2.2.2.2.2.1))) && (decide (b.2.2.2.2.2.2.2.2.2.1 ≤ a.2.2.2.2.2.2.2.2.2.1)))
def e_r8_Covers : Ent := ⟨67, [.st RuleS, .st RuleS], [.one .bool], fun _ => true, fun x => (g_r8_Covers x.1 x.2.1, ())⟩
def p_r12_ruleBy (l : List RuleT) (k : Int) : Bool := okIx k (l.length : Int)
def S_r12_ruleBy_0 (l : List RuleT) (k : Int) : Int := upV (fun c0 next0 => cond (g_r8_Covers (List.getD l c0 RuleD) (List.getD l (Int.toNat k) RuleD)) (c0 : Int) next0) ((-1)) ((Int.toNat k) - 0) 0
def g_r12_ruleBy (l : List RuleT) (k : Int) : Int := (S_r12_ruleBy_0 l k)
def e_r12_ruleBy : Ent := ⟨32, [.one (.sl RuleS), .one (.int .i64)], [.one (.int .i64)], fun x => p_r12_ruleBy x.1 x.2.1, fun x => (g_r12_ruleBy x.1 x.2.1, ())⟩
def S_r12_Shadowed_1 (r : RouterT) (c0 : Nat) (next0 : (List FindingT) → (List FindingT)) (v20 : List FindingT) : List FindingT := upS (fun c1 (v2 : List FindingT) => fun (next1 : (List FindingT) → (List FindingT)) => cond (decide ((g_r12_prefixBy (List.getD r.2.2.2.1 c0 PrefixListD).2.1 (c1 : Int)) ≥ 0)) (next1 (v2 ++ [(1, 0, (List.getD r.2.2.2.1 c0 PrefixListD).1, (c1 : Int), (g_r12_prefixBy (List.getD r.2.2.2.1 c0 PrefixListD).2.1 (c1 : Int)), ())])) (next1 v2)) (fun (v2 : List FindingT) => (next0 v2)) ((List.getD r.2.2.2.1 c0 PrefixListD).2.1.length - 0) 0 v20
def S_r12_Shadowed_3 (r : RouterT) (c2 : Nat) (next2 : (List FindingT) → (List FindingT)) (v20 : List FindingT) : List FindingT := upS (fun c3 (v2 : List FindingT) => fun (next3 : (List FindingT) → (List FindingT)) => cond (decide ((g_r12_clauseBy (List.getD r.2.2.2.2.1 c2 RouteMapD).2.1 (c3 : Int)) ≥ 0)) (next3 (v2 ++ [(2, 0, (List.getD r.2.2.2.2.1 c2 RouteMapD).1, (c3 : Int), (g_r12_clauseBy (List.getD r.2.2.2.2.1 c2 RouteMapD).2.1 (c3 : Int)), ())])) (next3 v2)) (fun (v2 : List FindingT) => (next2 v2)) ((List.getD r.2.2.2.2.1 c2 RouteMapD).2.1.length - 0) 0 v20
def S_r12_Shadowed_5 (r : RouterT) (c4 : Nat) (next4 : (List FindingT) → (List FindingT)) (v20 : List FindingT) : List FindingT := upS (fun c5 (v2 : List FindingT) => fun (next5 : (List FindingT) → (List FindingT)) => cond (decide ((g_r12_ruleBy (List.getD r.2.2.2.2.2.1 c4 ACLD).2.1 (c5 : Int)) ≥ 0)) (next5 (v2 ++ [(3, 0, (List.getD r.2.2.2.2.2.1 c4 ACLD).1, (c5 : Int), (g_r12_ruleBy (List.getD r.2.2.2.2.2.1 c4 ACLD).2.1 (c5 : Int)), ())])) (next5 v2)) (fun (v2 : List FindingT) => (next4 v2)) ((List.getD r.2.2.2.2.2.1 c4 ACLD).2.1.length - 0) 0 v20
def S_r12_Shadowed_4 (r : RouterT) (v20 : List FindingT) : List FindingT := upS (fun c4 (v2 : List FindingT) => fun (next4 : (List FindingT) → (List FindingT)) => (S_r12_Shadowed_5 r c4 next4 v2)) (fun (v2 : List FindingT) => (segL v2 0 (List.length v2))) (r.2.2.2.2.2.1.length - 0) 0 v20
def S_r12_Shadowed_2 (r : RouterT) (v20 : List FindingT) : List FindingT := upS (fun c2 (v2 : List FindingT) => fun (next2 : (List FindingT) → (List FindingT)) => (S_r12_Shadowed_3 r c2 next2 v2)) (fun (v2 : List FindingT) => (S_r12_Shadowed_4 r v2)) (r.2.2.2.2.1.length - 0) 0 v20
def S_r12_Shadowed_0 (r : RouterT) (v20 : List FindingT) : List FindingT := upS (fun c0 (v2 : List FindingT) => fun (next0 : (List FindingT) → (List FindingT)) => (S_r12_Shadowed_1 r c0 next0 v2)) (fun (v2 : List FindingT) => (S_r12_Shadowed_2 r v2)) (r.2.2.2.1.length - 0) 0 v20
def g_r12_Shadowed (r : RouterT) : List FindingT := (S_r12_Shadowed_0 r [])
def e_r12_Shadowed : Ent := ⟨11, [.st RouterS], [.one (.sl FindingS)], fun x => g_law5_Small x.1, fun x => (g_r12_Shadowed x.1, ())⟩
def S_lint_usesPrefixList_1 (r : RouterT) (name : List UInt8) (c0 : Nat) (next0 : Bool) : Bool := upV (fun c1 next1 => cond ((List.getD (List.getD r.2.2.2.2.1 c0 RouteMapD).2.1 c1 ClauseD).2.1 == name) true next1) (next0) ((List.getD r.2.2.2.2.1 c0 RouteMapD).2.1.length - 0) 0
def S_lint_usesPrefixList_0 (r : RouterT) (name : List UInt8) : Bool := upV (fun c0 next0 => (S_lint_usesPrefixList_1 r name c0 next0)) (((r.2.2.2.2.2.2.2.2.2.2.2.2.2.2.1 == name) || (r.2.2.2.2.2.2.2.2.2.2.2.2.2.2.2.1 == name))) (r.2.2.2.2.1.length - 0) 0
def g_lint_usesPrefixList (r : RouterT) (name : List UInt8) : Bool := (S_lint_usesPrefixList_0 r name)
def e_lint_usesPrefixList : Ent := ⟨33, [.st RouterS, .one .str], [.one .bool], fun _ => true, fun x => (g_lint_usesPrefixList x.1 x.2.1, ())⟩
def g_slices_Grow_Redist (n : Int) : List RedistT := cond (decide ((IntKind.wrap .i64 (n - 0)) > 0)) (List.take (Int.toNat 0 - Int.toNat 0) (List.replicate (Int.toNat (IntKind.wrap .i64 (n - 0))) RedistD)) []
def p_slices_Grow_Redist (n : Int) : Bool := ((!(decide (n < 0))) && (cond (decide ((IntKind.wrap .i64 (n - 0)) > 0)) (((decide (0 ≤ (IntKind.wrap .i64 (n - 0)))) && (decide ((IntKind.wrap .i64 (n - 0)) ≤ (roomy : Int)))) && (okSlc 0 0 ((Int.toNat (IntKind.wrap .i64 (n - 0))) : Int))) true))
def e_slices_Grow_Redist : EntO := ⟨101, [.nil, .p (.one (.int .i64))], RedistS, fun x => p_slices_Grow_Redist x.2.1, fun x => g_slices_Grow_Redist x.2.1⟩
theorem grow_nil (n : Int) : g_slices_Grow_Redist n = [] := by
  unfold g_slices_Grow_Redist
  cases decide ((IntKind.wrap .i64 (n - 0)) > 0) <;> simp
theorem grow_ok {n : Int} (h0 : 0 ≤ n) (h1 : n ≤ 1000000) : p_slices_Grow_Redist n = true := by
  have hw : IntKind.wrap .i64 n = n := w64 (by omega) (by omega)
  have hry : roomy = 1048576 := rfl
  unfold p_slices_Grow_Redist
  simp [hw, okSlc, hry]
  omega
def sumT (ss : List TLRedistT) (c : Nat) : Nat := ((ss.take c).map fun x => x.1.length).sum
theorem sumT_succ {ss : List TLRedistT} {c : Nat} (h : c < ss.length) : sumT ss (c + 1) = sumT ss c + (List.getD ss c TLRedistD).1.length := by
  unfold sumT
  rw [List.take_succ_eq_append_getElem h, List.map_append, List.sum_append]
  simp [List.getD, h]
theorem sumT_le (ss : List TLRedistT) : ∀ (c : Nat), sumT ss c ≤ sumT ss ss.length := fun c => by
  unfold sumT
  rw [List.take_length]
  conv => rhs; rw [← List.take_append_drop c ss, List.map_append, List.sum_append]
  omega
def p_slices_Concat_Redist (ss : List TLRedistT) : Bool := decide (sumT ss ss.length ≤ 1000000)
theorem concat_step {ss : List TLRedistT} {c : Nat} {s : Int} (hp : p_slices_Concat_Redist ss = true) (hc : c < ss.length) (hI : s = (sumT ss c : Int)) : IntKind.wrap .i64 (s + ((List.getD ss c TLRedistD).1.length : Int)) = (sumT ss (c + 1) : Int) := by
  have h1 : sumT ss ss.length ≤ 1000000 := by simpa [p_slices_Concat_Redist] using hp
  have h2 := sumT_le ss (c + 1)
  have h3 := sumT_succ hc
  subst hI
  rw [w64 (by omega) (by omega)]
  omega
def S_slices_Concat_Redist_1 (slices : List TLRedistT) (v20 : List RedistT) : List RedistT := upS (fun c1 (v2 : List RedistT) => fun (next1 : (List RedistT) → (List RedistT)) => (next1 (v2 ++ (List.getD slices c1 TLRedistD).1))) (fun (v2 : List RedistT) => (List.take (List.length v2) v2)) (slices.length - 0) 0 v20
def S_slices_Concat_Redist_0 (slices : List TLRedistT) (v00 : Int) : List RedistT := upS (fun c0 (v0 : Int) => fun (next0 : Int → (List RedistT)) => (next0 (IntKind.wrap .i64 (v0 + ((List.getD slices c0 TLRedistD).1.length : Int))))) (fun (v0 : Int) => (S_slices_Concat_Redist_1 slices (g_slices_Grow_Redist v0))) (slices.length - 0) 0 v00
def g_slices_Concat_Redist (slices : List TLRedistT) : List RedistT := (S_slices_Concat_Redist_0 slices 0)
def e_slices_Concat_Redist : EntO := ⟨68, [.p (.one (.sl TLRedistS))], RedistS, fun x => p_slices_Concat_Redist x.1, fun x => g_slices_Concat_Redist x.1⟩
theorem concat_len (ss : List TLRedistT) : (g_slices_Concat_Redist ss).length = sumT ss ss.length := by
  unfold g_slices_Concat_Redist S_slices_Concat_Redist_0
  have key : ∀ (m c : Nat) (v : List RedistT), c + m = ss.length → v.length = sumT ss c → (upS (fun c1 (v2 : List RedistT) => fun (next1 : (List RedistT) → (List RedistT)) => (next1 (v2 ++ (List.getD ss c1 TLRedistD).1))) (fun (v2 : List RedistT) => (List.take (List.length v2) v2)) m c v).length = sumT ss ss.length := fun m => by
    induction m with
    | zero => intro c v h hv; simp [upS, hv, ← h]
    | succ m ih =>
      intro c v h hv
      simp only [upS]
      exact ih (c + 1) _ (by omega) (by rw [List.length_append, hv, sumT_succ (by omega)])
  have key2 : ∀ (m c : Nat) (v : Int), (upS (fun c0 (v0 : Int) => fun (next0 : Int → (List RedistT)) => (next0 (IntKind.wrap .i64 (v0 + ((List.getD ss c0 TLRedistD).1.length : Int))))) (fun (v0 : Int) => (S_slices_Concat_Redist_1 ss (g_slices_Grow_Redist v0))) m c v).length = sumT ss ss.length := fun m => by
    induction m with
    | zero =>
      intro c v
      simp only [upS, grow_nil]
      unfold S_slices_Concat_Redist_1
      exact key _ 0 [] (by simp) rfl
    | succ m ih => intro c v; simp only [upS]; exact ih _ _
  exact key2 _ _ _
def p_lint_usesMap (r : RouterT) (__name : List UInt8) : Bool := g_law5_Small r
def three (r : RouterT) : List TLRedistT := [(r.2.2.2.2.2.2.2.2.2.2.2.1, ()), (r.2.2.2.2.2.2.2.2.2.2.2.2.2.2.2.2.1, ()), r.2.2.2.2.2.2.2.2.2.2.2.2.2.2.2.2.2.2.2.2.2.2.2.2]
theorem three_ok {r : RouterT} (h : g_law5_Small r = true) : sumT (three r) (three r).length ≤ 24 := by
  have hs := small_of h
  have h1 := hs.lsX; have h2 := hs.dvX; have h3 := hs.pvX
  simp [sumT, three]
  omega
theorem three_len {r : RouterT} (h : g_law5_Small r = true) : (g_slices_Concat_Redist (three r)).length ≤ maxLen := by
  rw [concat_len]
  have := three_ok h
  unfold maxLen
  omega
theorem three_pre {r : RouterT} (h : g_law5_Small r = true) : p_slices_Concat_Redist (three r) = true := by
  have := three_ok h
  simp [p_slices_Concat_Redist]
  omega
def S_lint_usesMap_1 (r : RouterT) (name : List UInt8) : Bool := upV (fun c1 next1 => cond ((List.getD (g_slices_Concat_Redist [(r.2.2.2.2.2.2.2.2.2.2.2.1, ()), (r.2.2.2.2.2.2.2.2.2.2.2.2.2.2.2.2.1, ()), r.2.2.2.2.2.2.2.2.2.2.2.2.2.2.2.2.2.2.2.2.2.2.2.2]) c1 RedistD).2.2.2.1 == name) true next1) (false) ((g_slices_Concat_Redist [(r.2.2.2.2.2.2.2.2.2.2.2.1, ()), (r.2.2.2.2.2.2.2.2.2.2.2.2.2.2.2.2.1, ()), r.2.2.2.2.2.2.2.2.2.2.2.2.2.2.2.2.2.2.2.2.2.2.2.2]).length - 0) 0
def S_lint_usesMap_0 (r : RouterT) (name : List UInt8) : Bool := upV (fun c0 next0 => cond (((List.getD r.2.2.2.2.2.2.2.2.2.2.2.2.2.2.2.2.2.2.2.2.1 c0 NeighborD).2.2.1 == name) || ((List.getD r.2.2.2.2.2.2.2.2.2.2.2.2.2.2.2.2.2.2.2.2.1 c0 NeighborD).2.2.2.1 == name)) true next0) ((S_lint_usesMap_1 r name)) (r.2.2.2.2.2.2.2.2.2.2.2.2.2.2.2.2.2.2.2.2.1.length - 0) 0
def g_lint_usesMap (r : RouterT) (name : List UInt8) : Bool := (S_lint_usesMap_0 r name)
def e_lint_usesMap : Ent := ⟨34, [.st RouterS, .one .str], [.one .bool], fun x => p_lint_usesMap x.1 x.2.1, fun x => (g_lint_usesMap x.1 x.2.1, ())⟩
def S_lint_usesACL_1 (r : RouterT) (name : List UInt8) : Bool := upV (fun c1 next1 => cond ((List.getD r.2.2.2.2.2.2.1 c1 TranslationD).2.2.2.2.2.2.1 == name) true next1) (false) (r.2.2.2.2.2.2.1.length - 0) 0
def S_lint_usesACL_0 (r : RouterT) (name : List UInt8) : Bool := upV (fun c0 next0 => cond (((List.getD r.2.2.1 c0 InterfaceD).2.2.2.2.2.2.2.2.2.1 == name) || ((List.getD r.2.2.1 c0 InterfaceD).2.2.2.2.2.2.2.2.2.2.1 == name)) true next0) ((S_lint_usesACL_1 r name)) (r.2.2.1.length - 0) 0
def g_lint_usesACL (r : RouterT) (name : List UInt8) : Bool := (S_lint_usesACL_0 r name)
def e_lint_usesACL : Ent := ⟨35, [.st RouterS, .one .str], [.one .bool], fun _ => true, fun x => (g_lint_usesACL x.1 x.2.1, ())⟩
def S_lint_Unused_2 (r : RouterT) (v20 : List FindingT) : List FindingT := upS (fun c2 (v2 : List FindingT) => fun (next2 : (List FindingT) → (List FindingT)) => cond (!(g_lint_usesACL r (List.getD r.2.2.2.2.2.1 c2 ACLD).1)) (next2 (v2 ++ [(6, 0, (List.getD r.2.2.2.2.2.1 c2 ACLD).1, (c2 : Int), 0, ())])) (next2 v2)) (fun (v2 : List FindingT) => (segL v2 0 (List.length v2))) (r.2.2.2.2.2.1.length - 0) 0 v20
def S_lint_Unused_1 (r : RouterT) (v20 : List FindingT) : List FindingT := upS (fun c1 (v2 : List FindingT) => fun (next1 : (List FindingT) → (List FindingT)) => cond (!(g_lint_usesMap r (List.getD r.2.2.2.2.1 c1 RouteMapD).1)) (next1 (v2 ++ [(5, 0, (List.getD r.2.2.2.2.1 c1 RouteMapD).1, (c1 : Int), 0, ())])) (next1 v2)) (fun (v2 : List FindingT) => (S_lint_Unused_2 r v2)) (r.2.2.2.2.1.length - 0) 0 v20
def S_lint_Unused_0 (r : RouterT) (v20 : List FindingT) : List FindingT := upS (fun c0 (v2 : List FindingT) => fun (next0 : (List FindingT) → (List FindingT)) => cond (!(g_lint_usesPrefixList r (List.getD r.2.2.2.1 c0 PrefixListD).1)) (next0 (v2 ++ [(4, 0, (List.getD r.2.2.2.1 c0 PrefixListD).1, (c0 : Int), 0, ())])) (next0 v2)) (fun (v2 : List FindingT) => (S_lint_Unused_1 r v2)) (r.2.2.2.1.length - 0) 0 v20
def g_lint_Unused (r : RouterT) : List FindingT := (S_lint_Unused_0 r [])
def e_lint_Unused : Ent := ⟨13, [.st RouterS], [.one (.sl FindingS)], fun x => g_law5_Small x.1, fun x => (g_lint_Unused x.1, ())⟩
def g_slices_Clone_Interface (s : List InterfaceT) : List InterfaceT := s
def p_slices_Clone_Interface (s : List InterfaceT) : Bool := decide (s.length ≤ roomy)
def e_slices_Clone_Interface : Ent := ⟨82, [.one (.sl InterfaceS)], [.one (.sl InterfaceS)], fun x => p_slices_Clone_Interface x.1, fun x => (g_slices_Clone_Interface x.1, ())⟩
def g_slices_Clone_Translation (s : List TranslationT) : List TranslationT := s
def p_slices_Clone_Translation (s : List TranslationT) : Bool := decide (s.length ≤ roomy)
def e_slices_Clone_Translation : Ent := ⟨83, [.one (.sl TranslationS)], [.one (.sl TranslationS)], fun x => p_slices_Clone_Translation x.1, fun x => (g_slices_Clone_Translation x.1, ())⟩
def g_slices_Clone_StaticRoute (s : List StaticRouteT) : List StaticRouteT := s
def p_slices_Clone_StaticRoute (s : List StaticRouteT) : Bool := decide (s.length ≤ roomy)
def e_slices_Clone_StaticRoute : Ent := ⟨84, [.one (.sl StaticRouteS)], [.one (.sl StaticRouteS)], fun x => p_slices_Clone_StaticRoute x.1, fun x => (g_slices_Clone_StaticRoute x.1, ())⟩
def g_slices_Clone_AreaRange (s : List AreaRangeT) : List AreaRangeT := s
def p_slices_Clone_AreaRange (s : List AreaRangeT) : Bool := decide (s.length ≤ roomy)
def e_slices_Clone_AreaRange : Ent := ⟨85, [.one (.sl AreaRangeS)], [.one (.sl AreaRangeS)], fun x => p_slices_Clone_AreaRange x.1, fun x => (g_slices_Clone_AreaRange x.1, ())⟩
def g_slices_Clone_Redist (s : List RedistT) : List RedistT := s
def p_slices_Clone_Redist (s : List RedistT) : Bool := decide (s.length ≤ roomy)
def e_slices_Clone_Redist : Ent := ⟨86, [.one (.sl RedistS)], [.one (.sl RedistS)], fun x => p_slices_Clone_Redist x.1, fun x => (g_slices_Clone_Redist x.1, ())⟩
def g_slices_Clone_Neighbor (s : List NeighborT) : List NeighborT := s
def p_slices_Clone_Neighbor (s : List NeighborT) : Bool := decide (s.length ≤ roomy)
def e_slices_Clone_Neighbor : Ent := ⟨87, [.one (.sl NeighborS)], [.one (.sl NeighborS)], fun x => p_slices_Clone_Neighbor x.1, fun x => (g_slices_Clone_Neighbor x.1, ())⟩
def g_slices_Clone_Prefix (s : List PrefixT) : List PrefixT := s
def p_slices_Clone_Prefix (s : List PrefixT) : Bool := decide (s.length ≤ roomy)
def e_slices_Clone_Prefix : Ent := ⟨88, [.one (.sl PrefixS)], [.one (.sl PrefixS)], fun x => p_slices_Clone_Prefix x.1, fun x => (g_slices_Clone_Prefix x.1, ())⟩
def g_slices_Clone_Aggregate (s : List AggregateT) : List AggregateT := s
def p_slices_Clone_Aggregate (s : List AggregateT) : Bool := decide (s.length ≤ roomy)
def e_slices_Clone_Aggregate : Ent := ⟨89, [.one (.sl AggregateS)], [.one (.sl AggregateS)], fun x => p_slices_Clone_Aggregate x.1, fun x => (g_slices_Clone_Aggregate x.1, ())⟩
def g_slices_Clone_Condition (s : List ConditionT) : List ConditionT := s
def p_slices_Clone_Condition (s : List ConditionT) : Bool := decide (s.length ≤ roomy)
def e_slices_Clone_Condition : Ent := ⟨90, [.one (.sl ConditionS)], [.one (.sl ConditionS)], fun x => p_slices_Clone_Condition x.1, fun x => (g_slices_Clone_Condition x.1, ())⟩
def g_lint_clone (r : RouterT) : RouterT := (r.1, r.2.1, (g_slices_Clone_Interface r.2.2.1), r.2.2.2.1, r.2.2.2.2.1, r.2.2.2.2.2.1, (g_slices_Clone_Translation r.2.2.2.2.2.2.1), (g_slices_Clone_StaticRoute r.2.2.2.2.2.2.2.1), r.2.2.2.2.2.2.2.2.1, r.2.2.2.2.2.2.2.2.2.1, (g_slices_Clone_AreaRange r.2.2.2.2.2.2.2.2.2.2.1), (g_slices_Clone_Redist r.2.2.2.2.2.2.2.2.2.2.2.1), r.2.2.2.2.2.2.2.2.2.2.2.2.1, r.2.2.2.2.2.2.2.2.2.2.2.2.2.1, r.2.2.2.2.2.2.2.2.2.2.2.2.2.2.1, r.2.2.2.2.2.2.2.2.2.2.2.2.2.2.2.1, (g_slices_Clone_Redist r.2.2.2.2.2.2.2.2.2.2.2.2.2.2.2.2.1), r.2.2.2.2.2.2.2.2.2.2.2.2.2.2.2.2.2.1, r.2.2.2.2.2.2.2.2.2.2.2.2.2.2.2.2.2.2.1, r.2.2.2.2.2.2.2.2.2.2.2.2.2.2.2.2.2.2.2.1, (g_slices_Clone_Neighbor r.2.2.2.2.2.2.2.2.2.2.2.2.2.2.2.2.2.2.2.2.1), (g_slices_Clone_Prefix r.2.2.2.2.2.2.2.2.2.2.2.2.2.2.2.2.2.2.2.2.2.1), (g_slices_Clone_Aggregate r.2.2.2.2.2.2.2.2.2.2.2.2.2.2.2.2.2.2.2.2.2.2.1), (g_slices_Clone_Condition r.2.2.2.2.2.2.2.2.2.2.2.2.2.2.2.2.2.2.2.2.2.2.2.1), (g_slices_Clone_Redist r.2.2.2.2.2.2.2.2.2.2.2.2.2.2.2.2.2.2.2.2.2.2.2.2.1), ())
def p_lint_clone (r : RouterT) : Bool := ((p_slices_Clone_Interface r.2.2.1) && ((p_slices_Clone_Translation r.2.2.2.2.2.2.1) && ((p_slices_Clone_StaticRoute r.2.2.2.2.2.2.2.1) && ((p_slices_Clone_AreaRange r.2.2.2.2.2.2.2.2.2.2.1) && ((p_slices_Clone_Redist r.2.2.2.2.2.2.2.2.2.2.2.1) && ((p_slices_Clone_Redist r.2.2.2.2.2.2.2.2.2.2.2.2.2.2.2.2.1) && ((p_slices_Clone_Neighbor r.2.2.2.2.2.2.2.2.2.2.2.2.2.2.2.2.2.2.2.2.1) && ((p_slices_Clone_Prefix r.2.2.2.2.2.2.2.2.2.2.2.2.2.2.2.2.2.2.2.2.2.1) && ((p_slices_Clone_Aggregate r.2.2.2.2.2.2.2.2.2.2.2.2.2.2.2.2.2.2.2.2.2.2.1) && ((p_slices_Clone_Condition r.2.2.2.2.2.2.2.2.2.2.2.2.2.2.2.2.2.2.2.2.2.2.2.1) && (p_slices_Clone_Redist r.2.2.2.2.2.2.2.2.2.2.2.2.2.2.2.2.2.2.2.2.2.2.2.2.1)))))))))))
def e_lint_clone : Ent := ⟨51, [.st RouterS], [.st RouterS], fun x => p_lint_clone x.1, fun x => (g_lint_clone x.1, ())⟩
def p_lint_visible_Clause (l : List ClauseT) : Bool := decide (l.length ≤ roomy)
def S_lint_visible_Clause_0 (l : List ClauseT) (v20 : List ClauseT) : List ClauseT := upS (fun c0 (v2 : List ClauseT) => fun (next0 : (List ClauseT) → (List ClauseT)) => cond (decide ((g_lint_shadowedBy_Clause2 l (c0 : Int)) < 0)) (next0 (v2 ++ [(List.getD l c0 ClauseD)])) (next0 v2)) (fun (v2 : List ClauseT) => (segL v2 0 (List.length v2))) (l.length - 0) 0 v20
def g_lint_visible_Clause (l : List ClauseT) : List ClauseT := (S_lint_visible_Clause_0 l [])
def e_lint_visible_Clause : Ent := ⟨52, [.one (.sl ClauseS), .clo 27 []], [.one (.sl ClauseS)], fun x => p_lint_visible_Clause x.1, fun x => (g_lint_visible_Clause x.1, ())⟩
def p_lint_visible_Rule (l : List RuleT) : Bool := decide (l.length ≤ roomy)
def S_lint_visible_Rule_0 (l : List RuleT) (v20 : List RuleT) : List RuleT := upS (fun c0 (v2 : List RuleT) => fun (next0 : (List RuleT) → (List RuleT)) => cond (decide ((g_lint_shadowedBy_Rule2 l (c0 : Int)) < 0)) (next0 (v2 ++ [(List.getD l c0 RuleD)])) (next0 v2)) (fun (v2 : List RuleT) => (segL v2 0 (List.length v2))) (l.length - 0) 0 v20
def g_lint_visible_Rule (l : List RuleT) : List RuleT := (S_lint_visible_Rule_0 l [])
def e_lint_visible_Rule : Ent := ⟨53, [.one (.sl RuleS), .clo 29 []], [.one (.sl RuleS)], fun x => p_lint_visible_Rule x.1, fun x => (g_lint_visible_Rule x.1, ())⟩
def p_lint_visible_PrefixRule (l : List PrefixRuleT) : Bool := decide (l.length ≤ roomy)
def S_lint_visible_PrefixRule_0 (l : List PrefixRuleT) (v20 : List PrefixRuleT) : List PrefixRuleT := upS (fun c0 (v2 : List PrefixRuleT) => fun (next0 : (List PrefixRuleT) → (List PrefixRuleT)) => cond (decide ((g_lint_shadowedBy_PrefixRule2 l (c0 : Int)) < 0)) (next0 (v2 ++ [(List.getD l c0 PrefixRuleD)])) (next0 v2)) (fun (v2 : List PrefixRuleT) => (segL v2 0 (List.length v2))) (l.length - 0) 0 v20
def g_lint_visible_PrefixRule (l : List PrefixRuleT) : List PrefixRuleT := (S_lint_visible_PrefixRule_0 l [])
def e_lint_visible_PrefixRule : Ent := ⟨54, [.one (.sl PrefixRuleS), .clo 25 []], [.one (.sl PrefixRuleS)], fun x => p_lint_visible_PrefixRule x.1, fun x => (g_lint_visible_PrefixRule x.1, ())⟩
theorem getD0 {α : Type} (l : List α) (c : Nat) (d : α) : True := trivial
def S_lint_Prune_2 (r : RouterT) (v5 : List RouteMapT) (v6 : List ACLT) (v20 : List PrefixListT) : RouterT := upS (fun c2 (v2 : List PrefixListT) => fun (next2 : (List PrefixListT) → RouterT) => cond (g_lint_usesPrefixList ((g_lint_clone r).1, (g_lint_clone r).2.1, (g_lint_clone r).2.2.1, (segL v2 0 (List.length v2)), (segL v5 0 (List.length v5)), (segL v6 0 (List.length v6)), (g_lint_clone r).2.2.2.2.2.2.1, (g_lint_clone r).2.2.2.2.2.2.2.1, (g_lint_clone r).2.2.2.2.2.2.2.2.1, (g_lint_clone r).2.2.2.2.2.2.2.2.2.1, (g_lint_clone r).2.2.2.2.2.2.2.2.2.2.1, (g_lint_clone r).2.2.2.2.2.2.2.2.2.2.2.1, (g_lint_clone r).2.2.2.2.2.2.2.2.2.2.2.2.1, (g_lint_clone r).2.2.2.2.2.2.2.2.2.2.2.2.2.1, (g_lint_clone r).2.2.2.2.2.2.2.2.2.2.2.2.2.2.1, (g_lint_clone r).2.2.2.2.2.2.2.2.2.2.2.2.2.2.2.1, (g_lint_clone r).2.2.2.2.2.2.2.2.2.2.2.2.2.2.2.2.1, (g_lint_clone r).2.2.2.2.2.2.2.2.2.2.2.2.2.2.2.2.2.1, (g_lint_clone r).2.2.2.2.2.2.2.2.2.2.2.2.2.2.2.2.2.2.1, (g_lint_clone r).2.2.2.2.2.2.2.2.2.2.2.2.2.2.2.2.2.2.2.1, (g_lint_clone r).2.2.2.2.2.2.2.2.2.2.2.2.2.2.2.2.2.2.2.2.1, (g_lint_clone r).2.2.2.2.2.2.2.2.2.2.2.2.2.2.2.2.2.2.2.2.2.1, (g_lint_clone r).2.2.2.2.2.2.2.2.2.2.2.2.2.2.2.2.2.2.2.2.2.2.1, (g_lint_clone r).2.2.2.2.2.2.2.2.2.2.2.2.2.2.2.2.2.2.2.2.2.2.2.1, (g_lint_clone r).2.2.2.2.2.2.2.2.2.2.2.2.2.2.2.2.2.2.2.2.2.2.2.2.1, ()) (List.getD r.2.2.2.1 c2 PrefixListD).1) (next2 (v2 ++ [((List.getD r.2.2.2.1 c2 PrefixListD).1, (g_lint_visible_PrefixRule (List.getD r.2.2.2.1 c2 PrefixListD).2.1), ())])) (next2 v2)) (fun (v2 : List PrefixListT) => ((g_lint_clone r).1, (g_lint_clone r).2.1, (g_lint_clone r).2.2.1, (segL v2 0 (List.length v2)), (segL v5 0 (List.length v5)), (segL v6 0 (List.length v6)), (g_lint_clone r).2.2.2.2.2.2.1, (g_lint_clone r).2.2.2.2.2.2.2.1, (g_lint_clone r).2.2.2.2.2.2.2.2.1, (g_lint_clone r).2.2.2.2.2.2.2.2.2.1, (g_lint_clone r).2.2.2.2.2.2.2.2.2.2.1, (g_lint_clone r).2.2.2.2.2.2.2.2.2.2.2.1, (g_lint_clone r).2.2.2.2.2.2.2.2.2.2.2.2.1, (g_lint_clone r).2.2.2.2.2.2.2.2.2.2.2.2.2.1, (g_lint_clone r).2.2.2.2.2.2.2.2.2.2.2.2.2.2.1, (g_lint_clone r).2.2.2.2.2.2.2.2.2.2.2.2.2.2.2.1, (g_lint_clone r).2.2.2.2.2.2.2.2.2.2.2.2.2.2.2.2.1, (g_lint_clone r).2.2.2.2.2.2.2.2.2.2.2.2.2.2.2.2.2.1, (g_lint_clone r).2.2.2.2.2.2.2.2.2.2.2.2.2.2.2.2.2.2.1, (g_lint_clone r).2.2.2.2.2.2.2.2.2.2.2.2.2.2.2.2.2.2.2.1, (g_lint_clone r).2.2.2.2.2.2.2.2.2.2.2.2.2.2.2.2.2.2.2.2.1, (g_lint_clone r).2.2.2.2.2.2.2.2.2.2.2.2.2.2.2.2.2.2.2.2.2.1, (g_lint_clone r).2.2.2.2.2.2.2.2.2.2.2.2.2.2.2.2.2.2.2.2.2.2.1, (g_lint_clone r).2.2.2.2.2.2.2.2.2.2.2.2.2.2.2.2.2.2.2.2.2.2.2.1, (g_lint_clone r).2.2.2.2.2.2.2.2.2.2.2.2.2.2.2.2.2.2.2.2.2.2.2.2.1, ())) (r.2.2.2.1.length - 0) 0 v20
def S_lint_Prune_1 (r : RouterT) (v4 : List RouteMapT) (v20 : List ACLT) : RouterT := upS (fun c1 (v2 : List ACLT) => fun (next1 : (List ACLT) → RouterT) => cond (g_lint_usesACL r (List.getD r.2.2.2.2.2.1 c1 ACLD).1) (next1 (v2 ++ [((List.getD r.2.2.2.2.2.1 c1 ACLD).1, (g_lint_visible_Rule (List.getD r.2.2.2.2.2.1 c1 ACLD).2.1), ())])) (next1 v2)) (fun (v2 : List ACLT) => (S_lint_Prune_2 r v4 v2 [])) (r.2.2.2.2.2.1.length - 0) 0 v20
def S_lint_Prune_0 (r : RouterT) (v20 : List RouteMapT) : RouterT := upS (fun c0 (v2 : List RouteMapT) => fun (next0 : (List RouteMapT) → RouterT) => cond (g_lint_usesMap r (List.getD r.2.2.2.2.1 c0 RouteMapD).1) (next0 (v2 ++ [((List.getD r.2.2.2.2.1 c0 RouteMapD).1, (g_lint_visible_Clause (List.getD r.2.2.2.2.1 c0 RouteMapD).2.1), ())])) (next0 v2)) (fun (v2 : List RouteMapT) => (S_lint_Prune_1 r v2 [])) (r.2.2.2.2.1.length - 0) 0 v20
def g_lint_Prune (r : RouterT) : RouterT := (S_lint_Prune_0 r [])
def e_lint_Prune : Ent := ⟨16, [.st RouterS], [.st RouterS], fun x => g_law5_Small x.1, fun x => (g_lint_Prune x.1, ())⟩
def g_law11_sane : Bool := ((((((((g_lint_Shadowed ([114], 0, [], [([112], [(true, 167772160, 8, 8, 32, ()), (true, 167772160, 8, 8, 32, ())], ())], [], [], [], [], false, 0, [], [], false, 0, [], [], [], false, 0, 0, [], [], [], [], [], ())).length : Int) == 1) && ((List.getD (g_lint_Shadowed ([114], 0, [], [([112], [(true, 167772160, 8, 8, 32, ()), (true, 167772160, 8, 8, 32, ())], ())], [], [], [], [], false, 0, [], [], false, 0, [], [], [], false, 0, 0, [], [], [], [], [], ())) 0 FindingD).2.2.2.1 == 1)) && ((List.getD (g_lint_Shadowed ([114], 0, [], [([112], [(true, 167772160, 8, 8, 32, ()), (true, 167772160, 8, 8, 32, ())], ())], [], [], [], [], false, 0, [], [], false, 0, [], [], [], false, 0, 0, [], [], [], [], [], ())) 0 FindingD).2.2.2.2.1 == 0)) && (((g_lint_Unused ([114], 0, [], [([112], [(true, 167772160, 8, 8, 32, ()), (true, 167772160, 8, 8, 32, ())], ())], [], [], [], [], false, 0, [], [], false, 0, [], [], [], false, 0, 0, [], [], [], [], [], ())).length : Int) == 1)) && ((List.getD (g_lint_Unused ([114], 0, [], [([112], [(true, 167772160, 8, 8, 32, ()), (true, 167772160, 8, 8, 32, ())], ())], [], [], [], [], false, 0, [], [], false, 0, [], [], [], false, 0, 0, [], [], [], [], [], ())) 0 FindingD).1 == 4)) && (((g_lint_Prune ([114], 0, [], [([112], [(true, 167772160, 8, 8, 32, ()), (true, 167772160, 8, 8, 32, ())], ())], [], [], [], [], false, 0, [], [], false, 0, [], [], [], false, 0, 0, [], [], [], [], [], ())).2.2.2.1.length : Int) == 0))
def p_law11_sane : Bool := (((g_law5_Small ([114], 0, [], [([112], [(true, 167772160, 8, 8, 32, ()), (true, 167772160, 8, 8, 32, ())], ())], [], [], [], [], false, 0, [], [], false, 0, [], [], [], false, 0, 0, [], [], [], [], [], ())) && (g_law5_Small ([114], 0, [], [([112], [(true, 167772160, 8, 8, 32, ()), (true, 167772160, 8, 8, 32, ())], ())], [], [], [], [], false, 0, [], [], false, 0, [], [], [], false, 0, 0, [], [], [], [], [], ()))) && (((((okIx 0 ((g_lint_Shadowed ([114], 0, [], [([112], [(true, 167772160, 8, 8, 32, ()), (true, 167772160, 8, 8, 32, ())], ())], [], [], [], [], false, 0, [], [], false, 0, [], [], [], false, 0, 0, [], [], [], [], [], ())).length : Int)) || (!(((((g_lint_Shadowed ([114], 0, [], [([112], [(true, 167772160, 8, 8, 32, ()), (true, 167772160, 8, 8, 32, ())], ())], [], [], [], [], false, 0, [], [], false, 0, [], [], [], false, 0, 0, [], [], [], [], [], ())).length : Int) == 1) == true) && true))) && ((okIx 0 ((g_lint_Shadowed ([114], 0, [], [([112], [(true, 167772160, 8, 8, 32, ()), (true, 167772160, 8, 8, 32, ())], ())], [], [], [], [], false, 0, [], [], false, 0, [], [], [], false, 0, 0, [], [], [], [], [], ())).length : Int)) || (!((((((g_lint_Shadowed ([114], 0, [], [([112], [(true, 167772160, 8, 8, 32, ()), (true, 167772160, 8, 8, 32, ())], ())], [], [], [], [], false, 0, [], [], false, 0, [], [], [], false, 0, 0, [], [], [], [], [], ())).length : Int) == 1) && ((List.getD (g_lint_Shadowed ([114], 0, [], [([112], [(true, 167772160, 8, 8, 32, ()), (true, 167772160, 8, 8, 32, ())], ())], [], [], [], [], false, 0, [], [], false, 0, [], [], [], false, 0, 0, [], [], [], [], [], ())) 0 FindingD).2.2.2.1 == 1)) == true) && true)))) && ((okIx 0 ((g_lint_Unused ([114], 0, [], [([112], [(true, 167772160, 8, 8, 32, ()), (true, 167772160, 8, 8, 32, ())], ())], [], [], [], [], false, 0, [], [], false, 0, [], [], [], false, 0, 0, [], [], [], [], [], ())).length : Int)) || (!((((((((g_lint_Shadowed ([114], 0, [], [([112], [(true, 167772160, 8, 8, 32, ()), (true, 167772160, 8, 8, 32, ())], ())], [], [], [], [], false, 0, [], [], false, 0, [], [], [], false, 0, 0, [], [], [], [], [], ())).length : Int) == 1) && ((List.getD (g_lint_Shadowed ([114], 0, [], [([112], [(true, 167772160, 8, 8, 32, ()), (true, 167772160, 8, 8, 32, ())], ())], [], [], [], [], false, 0, [], [], false, 0, [], [], [], false, 0, 0, [], [], [], [], [], ())) 0 FindingD).2.2.2.1 == 1)) && ((List.getD (g_lint_Shadowed ([114], 0, [], [([112], [(true, 167772160, 8, 8, 32, ()), (true, 167772160, 8, 8, 32, ())], ())], [], [], [], [], false, 0, [], [], false, 0, [], [], [], false, 0, 0, [], [], [], [], [], ())) 0 FindingD).2.2.2.2.1 == 0)) && (((g_lint_Unused ([114], 0, [], [([112], [(true, 167772160, 8, 8, 32, ()), (true, 167772160, 8, 8, 32, ())], ())], [], [], [], [], false, 0, [], [], false, 0, [], [], [], false, 0, 0, [], [], [], [], [], ())).length : Int) == 1)) == true) && true)))) && ((g_law5_Small ([114], 0, [], [([112], [(true, 167772160, 8, 8, 32, ()), (true, 167772160, 8, 8, 32, ())], ())], [], [], [], [], false, 0, [], [], false, 0, [], [], [], false, 0, 0, [], [], [], [], [], ())) || (!(((((((((g_lint_Shadowed ([114], 0, [], [([112], [(true, 167772160, 8, 8, 32, ()), (true, 167772160, 8, 8, 32, ())], ())], [], [], [], [], false, 0, [], [], false, 0, [], [], [], false, 0, 0, [], [], [], [], [], ())).length : Int) == 1) && ((List.getD (g_lint_Shadowed ([114], 0, [], [([112], [(true, 167772160, 8, 8, 32, ()), (true, 167772160, 8, 8, 32, ())], ())], [], [], [], [], false, 0, [], [], false, 0, [], [], [], false, 0, 0, [], [], [], [], [], ())) 0 FindingD).2.2.2.1 == 1)) && ((List.getD (g_lint_Shadowed ([114], 0, [], [([112], [(true, 167772160, 8, 8, 32, ()), (true, 167772160, 8, 8, 32, ())], ())], [], [], [], [], false, 0, [], [], false, 0, [], [], [], false, 0, 0, [], [], [], [], [], ())) 0 FindingD).2.2.2.2.1 == 0)) && (((g_lint_Unused ([114], 0, [], [([112], [(true, 167772160, 8, 8, 32, ()), (true, 167772160, 8, 8, 32, ())], ())], [], [], [], [], false, 0, [], [], false, 0, [], [], [], false, 0, 0, [], [], [], [], [], ())).length : Int) == 1)) && ((List.getD (g_lint_Unused ([114], 0, [], [([112], [(true, 167772160, 8, 8, 32, ()), (true, 167772160, 8, 8, 32, ())], ())], [], [], [], [], false, 0, [], [], false, 0, [], [], [], false, 0, 0, [], [], [], [], [], ())) 0 FindingD).1 == 4)) == true) && true)))))
def e_law11_sane : Ent := ⟨12, [], [.one .bool], fun _ => true, fun _ => (g_law11_sane, ())⟩
theorem right_small {r : RouterT} (h : g_law11_right r = true) : g_law5_Small r = true := by
  unfold g_law11_right at h
  simp only [Bool.and_eq_true] at h
  exact h.1
theorem small_or {r : RouterT} : ((g_law5_Small r) || (!(((!(g_law11_right r)) == false) && true))) = true := by
  cases h : g_law11_right r with
  | false => simp
  | true => simp [right_small h]
def g_law11_LintShadowed (r : RouterT) : Bool := ((!(g_law11_right r)) || ((g_keep_Findings (g_lint_Shadowed r) (g_r12_Shadowed r)) && g_law11_sane))
def p_law11_LintShadowed (r : RouterT) : Bool := (((((g_law5_Small r) || (!(((!(g_law11_right r)) == false) && true))) && ((g_law5_Small r) || (!(((!(g_law11_right r)) == false) && true)))) && true) && true)
def e_law11_LintShadowed : Ent := ⟨3, [.st RouterS], [.one .bool], fun x => p_law11_LintShadowed x.1, fun x => (g_law11_LintShadowed x.1, ())⟩
def g_r8_ValidPacket (p : PacketT) : Bool := (((g_r8_within p.2.2.1 0 255) && (g_r8_within p.2.2.2.1 0 65535)) && (g_r8_within p.2.2.2.2.1 0 65535))
def e_r8_ValidPacket : Ent := ⟨19, [.st PacketS], [.one .bool], fun _ => true, fun x => (g_r8_ValidPacket x.1, ())⟩
def g_acl_inRange (x0 : PortRangeT) (n : Int) : Bool := ((decide (x0.1 ≤ n)) && (decide (n ≤ x0.2.1)))
def e_acl_inRange : Ent := ⟨58, [.st PortRangeS, .one (.int .i64)], [.one .bool], fun _ => true, fun x => (g_acl_inRange x.1 x.2.1, ())⟩
def g_acl_Matches (x0 : RuleT) (p : PacketT) : Bool := ((((((x0.2.1 == (-1)) || (x0.2.1 == p.2.2.1)) && (g_acl_MatchesAddress (x0.2.2.1, x0.2.2.2.1, ()) p.1)) && (g_acl_MatchesAddress (x0.2.2.2.2.1, x0.2.2.2.2.2.1, ()) p.2.1)) && (g_acl_inRange (x0.2.2.2.2.2.2.1, x0.2.2.2.2.2.2.2.1, ()) p.2.2.2.1)) && (g_acl_inRange x0.2.2.2.2.2.2.2.2 p.2.2.2.2.1))
def e_acl_Matches : Ent := ⟨22, [.st RuleS, .st PacketS], [.one .bool], fun _ => true, fun x => (g_acl_Matches x.1 x.2.1, ())⟩
def S_acl_First_0 (l : ACLT) (p : PacketT) : Int := upV (fun c0 next0 => cond (g_acl_Matches (List.getD l.2.1 c0 RuleD) p) (c0 : Int) next0) ((-1)) (l.2.1.length - 0) 0
def g_acl_First (l : ACLT) (p : PacketT) : Int := (S_acl_First_0 l p)
def e_acl_First : Ent := ⟨21, [.st ACLS, .st PacketS], [.one (.int .i64)], fun _ => true, fun x => (g_acl_First x.1 x.2.1, ())⟩
theorem upS_bd {A R : Type} {b : Nat → List A → (List A → R) → R} {rest : List A → R} (P : R → Prop) (f : Nat → List A → List A) (hb : ∀ c v k, b c v k = k (f c v)) (d : Nat) (hf : ∀ c v, (f c v).length ≤ v.length + d) : ∀ (m c : Nat) (v : List A), (∀ w, w.length ≤ v.length + m * d → P (rest w)) → P (upS b rest m c v)
  | 0, _, v, h => h v (by omega)
  | m + 1, c, v, h => by
    simp only [upS, hb]
    have h1 := hf c v
    refine upS_bd P f hb d hf m (c + 1) _ fun w hw => h w ?_
    rw [Nat.succ_mul]
    omega
theorem len_Shadowed {r : RouterT} (h : g_law5_Small r = true) : (g_lint_Shadowed r).length ≤ 1000 := by
  have hs := small_of h
  have h1 := hs.lists; have h2 := hs.maps; have h3 := hs.acls
  unfold g_lint_Shadowed S_lint_Shadowed_0
  refine upS_bd (fun x : List FindingT => x.length ≤ 1000) (fun c v => g_lint_findings_PrefixRule v 1 (List.getD r.2.2.2.1 c PrefixListD).1 (List.getD r.2.2.2.1 c PrefixListD).2.1) (fun _ _ _ => rfl) 20 (fun c v => Nat.le_trans (len_PrefixRule _ _ _ _) (Nat.add_le_add_left (hs.l1 c) _)) _ _ _ fun w hw => ?_
  unfold S_lint_Shadowed_1
  refine upS_bd (fun x : List FindingT => x.length ≤ 1000) (fun c v => g_lint_findings_Clause v 2 (List.getD r.2.2.2.2.1 c RouteMapD).1 (List.getD r.2.2.2.2.1 c RouteMapD).2.1) (fun _ _ _ => rfl) 12 (fun c v => Nat.le_trans (len_Clause _ _ _ _) (Nat.add_le_add_left (hs.l2 c) _)) _ _ _ fun w2 hw2 => ?_
  unfold S_lint_Shadowed_2
  refine upS_bd (fun x : List FindingT => x.length ≤ 1000) (fun c v => g_lint_findings_Rule v 3 (List.getD r.2.2.2.2.2.1 c ACLD).1 (List.getD r.2.2.2.2.2.1 c ACLD).2.1) (fun _ _ _ => rfl) 20 (fun c v => Nat.le_trans (len_Rule _ _ _ _) (Nat.add_le_add_left (hs.l3 c) _)) _ _ _ fun w3 hw3 => ?_
  rw [len_segL]
  simp only [List.length_nil, Nat.sub_zero] at hw hw2 hw3 ⊢
  have e1 := Nat.mul_le_mul_right 20 h1; have e2 := Nat.mul_le_mul_right 12 h2; have e3 := Nat.mul_le_mul_right 20 h3
  omega
theorem never_ok {k b i : Int} {n m : Nat} (hk : k < 0 ∨ okIx k (n : Int) = true) (h : ((((decide (k < 0)) || (decide (b < 0))) || (decide (b ≥ i))) || (decide (i ≥ (m : Int)))) = false) : okIx k (n : Int) = true ∧ okIx i (m : Int) = true ∧ okIx b (m : Int) = true := by
  simp only [Bool.or_eq_false_iff, decide_eq_false_iff_not] at h
  obtain ⟨⟨⟨h1, h2⟩, h3⟩, h4⟩ := h
  refine ⟨hk.resolve_left h1, ?_, ?_⟩ <;> simp [okIx] <;> omega
theorem right_of {r : RouterT} (h : (!g_law11_right r) = false) : g_law5_Small r = true := right_small (by simpa using h)
theorem right_of2 {r : RouterT} {b : Bool} (h : ((!g_law11_right r) || b) = false) : g_law5_Small r = true := by
  rw [Bool.or_eq_false_iff] at h
  exact right_of h.1
theorem remove_ok {A : Type} {l : List A} {i : Int} (hl : l.length ≤ 12) (h : ((decide (i < 0)) || (decide (i ≥ (l.length : Int)))) = false) : ((((okSlc 0 i (l.length : Int)) && (decide ((slcL l 0 i).length ≤ roomy))) && (okSlc (IntKind.wrap .i64 (i + 1)) (l.length : Int) (l.length : Int))) && (okApp (slcL l 0 i).length (slcL l 0 i).length (slcL l (IntKind.wrap .i64 (i + 1)) (l.length : Int)).length)) = true := by
  simp only [Bool.or_eq_false_iff, decide_eq_false_iff_not] at h
  have hry : roomy = 1048576 := rfl
  rw [w64 (by omega) (by omega)]
  simp [okSlc, okApp, len_slcL]
  omega
def S_law11_LintNever_0 (r : RouterT) (p : PacketT) : Bool := upV (fun c0 next0 => cond ((List.getD (g_lint_Shadowed r) c0 FindingD).1 != 3) next0 (cond ((((decide ((g_r8_ACL r (List.getD (g_lint_Shadowed r) c0 FindingD).2.2.1) < 0)) || (decide ((List.getD (g_lint_Shadowed r) c0 FindingD).2.2.2.2.1 < 0))) || (decide ((List.getD (g_lint_Shadowed r) c0 FindingD).2.2.2.2.1 ≥ (List.getD (g_lint_Shadowed r) c0 FindingD).2.2.2.1))) || (decide ((List.getD (g_lint_Shadowed r) c0 FindingD).2.2.2.1 ≥ ((List.getD r.2.2.2.2.2.1 (Int.toNat (g_r8_ACL r (List.getD (g_lint_Shadowed r) c0 FindingD).2.2.1)) ACLD).2.1.length : Int)))) false (cond (((g_acl_First (List.getD r.2.2.2.2.2.1 (Int.toNat (g_r8_ACL r (List.getD (g_lint_Shadowed r) c0 FindingD).2.2.1)) ACLD) p) == (List.getD (g_lint_Shadowed r) c0 FindingD).2.2.2.1) || ((g_acl_Matches (List.getD (List.getD r.2.2.2.2.2.1 (Int.toNat (g_r8_ACL r (List.getD (g_lint_Shadowed r) c0 FindingD).2.2.1)) ACLD).2.1 (Int.toNat (List.getD (g_lint_Shadowed r) c0 FindingD).2.2.2.1) RuleD) p) && (!(g_acl_Matches (List.getD (List.getD r.2.2.2.2.2.1 (Int.toNat (g_r8_ACL r (List.getD (g_lint_Shadowed r) c0 FindingD).2.2.1)) ACLD).2.1 (Int.toNat (List.getD (g_lint_Shadowed r) c0 FindingD).2.2.2.2.1) RuleD) p)))) false next0))) (g_law11_sane) ((g_lint_Shadowed r).length - 0) 0
def g_law11_LintNever (r : RouterT) (p : PacketT) : Bool := cond ((!(g_law11_right r)) || (!(g_r8_ValidPacket p))) true (S_law11_LintNever_0 r p)
def e_law11_LintNever : Ent := ⟨7, [.st RouterS, .st PacketS], [.one .bool], fun _ => true, fun x => (g_law11_LintNever x.1 x.2.1, ())⟩
end Go.Proofs.Ytokhlhnibpakiaa
