/-
  What each function gives, in plain Lean; the entries.
-/
import Derived.Test.YtcbalemfimpmmaaAmT
namespace Go.Proofs.Ytcbalemfimpmmaa
open Go Go.AM
set_option maxRecDepth 100000
def S_top_equal_0 (l : List Ti64i64T) : Bool := upV (fun c0 next0 => cond ((List.getD l c0 Ti64i64D).1 != (List.getD l c0 Ti64i64D).2.1) false next0) (true) (l.length - 0) 0
def g_top_equal (l : List Ti64i64T) : Bool := (S_top_equal_0 l)
def e_top_equal : Ent := ⟨10, [.one (.sl Ti64i64S)], [.one .bool], fun _ => true, fun x => (g_top_equal x.1, ())⟩
def g_top_first : Bool := (g_top_equal [(0, 0, ()), (1, 1, ()), (2, 2, ()), (3, 3, ()), (4, 4, ()), (5, 5, ()), (6, 6, ()), (7, 7, ()), (8, 8, ()), (9, 9, ()), (10, 10, ()), (65536, 65536, ()), (15, 15, ()), (8, 8, ()), (8, 8, ()), (8, 8, ()), (16, 16, ()), (8, 8, ()), (8, 8, ()), (8, 8, ()), (16, 16, ())])
def e_top_first : Ent := ⟨4, [], [.one .bool], fun _ => true, fun _ => (g_top_first, ())⟩
def g_top_second : Bool := (g_top_equal [(8, 8, ()), (4, 4, ()), (4, 4, ()), (8, 8, ()), (12, 12, ()), (2, 2, ()), (4000, 4000, ()), (16777215, 16777215, ()), (65535, 65535, ()), (65535, 65535, ()), (1000000, 1000000, ()), (65535, 65535, ()), (255, 255, ()), (15, 15, ()), (8, 8, ()), (64, 64, ()), (1, 1, ()), (2, 2, ()), (0, 0, ()), (1, 1, ()), (2, 2, ())])
def e_top_second : Ent := ⟨5, [], [.one .bool], fun _ => true, fun _ => (g_top_second, ())⟩
def g_top_third : Bool := (g_top_equal [(1, 1, ()), (2, 2, ()), (3, 3, ()), (1, 1, ()), (2, 2, ()), (3, 3, ()), (4, 4, ()), (5, 5, ()), (1, 1, ()), (2, 2, ()), (3, 3, ()), (4, 4, ()), (5, 5, ()), (6, 6, ()), (7, 7, ()), (8, 8, ()), (9, 9, ()), (10, 10, ()), (11, 11, ()), (1, 1, ()), (2, 2, ())])
def e_top_third : Ent := ⟨6, [], [.one .bool], fun _ => true, fun _ => (g_top_third, ())⟩
def g_top_fourth : Bool := (g_top_equal [(3, 3, ()), (4, 4, ()), (1, 1, ()), (2, 2, ()), (3, 3, ()), (1, 1, ()), (2, 2, ()), (3, 3, ()), (4, 4, ()), (1, 1, ()), (2, 2, ()), (3, 3, ()), (1, 1, ()), (2, 2, ()), (3, 3, ()), (4, 4, ()), (5, 5, ()), (6, 6, ()), (7, 7, ()), (8, 8, ()), (9, 9, ())])
def e_top_fourth : Ent := ⟨7, [], [.one .bool], fun _ => true, fun _ => (g_top_fourth, ())⟩
def g_top_fifth : Bool := (g_top_equal [(10, 10, ()), (11, 11, ()), (12, 12, ()), (13, 13, ()), (256, 256, ()), (2000, 2000, ()), (8, 8, ()), (24, 24, ()), (64, 64, ()), (24, 24, ()), (20000, 20000, ()), (104, 104, ()), (220, 220, ()), (1, 1, ()), (2, 2, ()), (3, 3, ()), (4, 4, ()), (5, 5, ()), (6, 6, ()), (7, 7, ()), (8, 8, ())])
def e_top_fifth : Ent := ⟨8, [], [.one .bool], fun _ => true, fun _ => (g_top_fifth, ())⟩
def g_top_sixth : Bool := (g_top_equal [(0, 0, ()), (1, 1, ()), (2, 2, ()), (3, 3, ()), (4, 4, ()), (1, 1, ()), (2, 2, ()), (3, 3, ()), (4, 4, ()), (5, 5, ()), (6, 6, ()), (1, 1, ()), (2, 2, ()), (3, 3, ()), (1, 1, ()), (2, 2, ()), (3, 3, ())])
def e_top_sixth : Ent := ⟨9, [], [.one .bool], fun _ => true, fun _ => (g_top_sixth, ())⟩
def g_top_TopNames : Bool := (((((g_top_first && g_top_second) && g_top_third) && g_top_fourth) && g_top_fifth) && g_top_sixth)
def e_top_TopNames : Ent := ⟨3, [], [.one .bool], fun _ => true, fun _ => (g_top_TopNames, ())⟩
end Go.Proofs.Ytcbalemfimpmmaa
