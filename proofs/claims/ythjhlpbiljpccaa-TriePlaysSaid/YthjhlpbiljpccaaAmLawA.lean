/-
  What stands in memory, read as data.
-/
import Derived.Test.YthjhlpbiljpccaaAmOwn3
import Derived.ProofKit
import Derived.OpenShut
import Derived.DataElems
namespace Go.AM
open Go.RowKit

/-- The schema of a type, with its layout checked. -/
def schLF (P : Program) (f : TypeId → Option Sch) : Nat → List Field → Option Sch
  | _, [] => some .nil
  | off, x :: r => (f x.type).bind fun a => bif (x.offset == off) && (a.size == P.cellsOf x.type) then (schLF P f (off + a.size) r).map fun b => appS a b else none
def schL (P : Program) : Nat → TypeId → Option Sch
  | 0, _ => none
  | d + 1, t => match P.underlying t with
    | some .bool => some (.cons .bool .nil)
    | some (.int k) => some (.cons (.int k) .nil)
    | some .string => some (.cons .str .nil)
    | some (.slice e) => (schL P d e).bind fun s => bif s.size == P.cellsOf e then some (.cons (.sl s) .nil) else none
    | some (.struct fs) => (schLF P (schL P d) 0 fs.toList).bind fun s => bif s.size == P.cellsOf t then some s else none
    | some (.array n e) => (schL P d e).bind fun s => bif (s.size == P.cellsOf e) && ((repS s n).size == P.cellsOf t) then some (repS s n) else none
    | _ => none

theorem appS_size : (a b : Sch) → (appS a b).size = a.size + b.size
  | .nil, b => by simp [appS, Sch.size]
  | .cons c s, b => by simp [appS, Sch.size, appS_size s b]; omega
theorem srel_app {N : Nat → Prop} {w : World} : (a b : Sch) → (x : a.den) → (y : b.den) → (f : Nat → Option Value) → SRel N w a x f → SRel N w b y (fun j => f (a.size + j)) → ∃ z : (appS a b).den, SRel N w (appS a b) z f
  | .nil, b, x, y, f, _, h => ⟨y, by simpa [Sch.size, appS] using h⟩
  | .cons c s, b, x, y, f, h, g => by
    obtain ⟨z, hz⟩ := srel_app s b x.2 y (fun j => f (j + 1)) h.2 (by
      have : (fun j => f (s.size + j + 1)) = fun j => f ((Sch.cons c s).size + j) := by
        funext j; simp only [Sch.size]; congr 1; omega
      show SRel N w b y (fun j => f (s.size + j + 1))
      rw [this]; exact g)
    exact ⟨(x.1, z), h.1, hz⟩
theorem srel_ext {N : Nat → Prop} {w : World} (s : Sch) (x : s.den) {f g : Nat → Option Value} (h : SRel N w s x f) (hfg : ∀ j, j < s.size → f j = g j) : SRel N w s x g :=
  SRel.mono (Keeps.refl N w) s x f g (fun j u hj hu => by rw [← hfg j hj]; exact hu) h

section
variable {H : Type} {enc : TypeId × Value → H} {P : Program} {w : World} {base : Nat} {spare : Nat → Bool} {held : Bool}

theorem take_drop_at {cs : List Value} {off c j : Nat} (h : j < c) : ((cs.drop off).take c)[j]? = cs[off + j]? := by
  rw [List.getElem?_take_of_lt h, List.getElem?_drop]

theorem trod_fields {d : Nat} {cs : List Value}
    (ih : ∀ {t : TypeId} {s : Sch} {fuel : Nat} {cs : List Value} {x : DataW H × List MemPlace}, schL P d t = some s → DataW.trod enc P w base spare held fuel t cs = some x → ∃ y : s.den, SRel AnyB w s y (fun j => cs[j]?) ∧ cs.length = s.size) :
    ∀ (l : List Field) (off : Nat) {s : Sch}, schLF P (schL P d) off l = some s → (∀ f ∈ l, ∃ n x, DataW.trod enc P w base spare held n f.type ((cs.drop f.offset).take (P.cellsOf f.type)) = some x) → ∃ y : s.den, SRel AnyB w s y (fun j => cs[off + j]?)
  | [], off, s, h, _ => by
    simp only [schLF, Option.some.injEq] at h
    subst h
    exact ⟨(), trivial⟩
  | f :: r, off, s, h, ht => by
    simp only [schLF] at h
    obtain ⟨a, ha, h1⟩ := obind h
    rcases Bool.eq_false_or_eq_true ((f.offset == off) && (a.size == P.cellsOf f.type)) with hb | hb
    · rw [hb] at h1
      simp only [cond_true] at h1
      obtain ⟨b, hbb, rfl⟩ := omap h1
      simp only [Bool.and_eq_true, beq_iff_eq] at hb
      obtain ⟨n, x, hx⟩ := ht f (List.mem_cons_self ..)
      obtain ⟨ya, hya, _⟩ := ih ha hx
      obtain ⟨yb, hyb⟩ := trod_fields (cs := cs) ih r (off + a.size) hbb fun g hg => ht g (List.mem_cons_of_mem _ hg)
      refine srel_app a b ya yb _ (srel_ext a ya hya fun j hj => ?_) (srel_ext b yb hyb fun j _ => ?_)
      · rw [take_drop_at (by omega), hb.1]
      · rw [Nat.add_assoc]
    · rw [hb] at h1; cases h1

theorem trod_reps {d : Nat} {cs : List Value} {e : TypeId} {s : Sch}
    (ih : ∀ {fuel : Nat} {cs : List Value} {x : DataW H × List MemPlace}, DataW.trod enc P w base spare held fuel e cs = some x → ∃ y : s.den, SRel AnyB w s y (fun j => cs[j]?) ∧ cs.length = s.size) (hs : s.size = P.cellsOf e) :
    ∀ (m i : Nat), (∀ j, i ≤ j → j < i + m → ∃ n x, DataW.trod enc P w base spare held n e ((cs.drop (j * P.cellsOf e)).take (P.cellsOf e)) = some x) → ∃ y : (repS s m).den, SRel AnyB w (repS s m) y (fun j => cs[i * P.cellsOf e + j]?)
  | 0, i, _ => ⟨(), trivial⟩
  | m + 1, i, h => by
    obtain ⟨n, x, hx⟩ := h i (Nat.le_refl _) (by omega)
    obtain ⟨ya, hya, _⟩ := ih hx
    obtain ⟨yb, hyb⟩ := trod_reps (d := d) (cs := cs) ih hs m (i + 1) fun j h1 h2 => h j (by omega) (by omega)
    refine srel_app s (repS s m) ya yb _ (srel_ext s ya hya fun j hj => ?_) (srel_ext _ yb hyb fun j _ => ?_)
    · rw [take_drop_at (by omega)]
    · rw [Nat.add_mul, Nat.one_mul, ← hs, Nat.add_assoc]

theorem trod_srel : ∀ (d : Nat) {t : TypeId} {s : Sch} {fuel : Nat} {cs : List Value} {x : DataW H × List MemPlace}, schL P d t = some s → DataW.trod enc P w base spare held fuel t cs = some x → ∃ y : s.den, SRel AnyB w s y (fun j => cs[j]?) ∧ cs.length = s.size
  | 0, _, _, _, _, _, h, _ => by simp [schL] at h
  | d + 1, t, s, fuel, cs, x, h, hx => by
    have ih := fun {t : TypeId} {s : Sch} {fuel : Nat} {cs : List Value} {x : DataW H × List MemPlace} => trod_srel d (t := t) (s := s) (fuel := fuel) (cs := cs) (x := x)
    simp only [schL] at h
    split at h
    · rename_i ht
      cases h
      obtain ⟨b, rfl, _⟩ := DataW.trod_bool ht hx
      exact ⟨(b, ()), ⟨⟨_, rfl, rfl, rfl⟩, trivial⟩, rfl⟩
    · rename_i k ht
      cases h
      obtain ⟨n, rfl, _, hw⟩ := DataW.trod_int ht hx
      refine ⟨(n, ()), ⟨⟨_, rfl, rfl, rfl, ?_⟩, trivial⟩, rfl⟩
      simpa [Lit.wf, inR] using hw
    · rename_i ht
      cases h
      obtain ⟨b, rfl, _, hw⟩ := DataW.trod_string ht hx
      refine ⟨(b.data.toList, ()), ⟨⟨_, rfl, rfl, ?_, ?_⟩, trivial⟩, rfl⟩
      · cases b; rfl
      · have : b.data.toList.length = b.size := rfl
        rw [this]; exact hw
    · rename_i e ht
      obtain ⟨T, hT, h1⟩ := obind h
      rcases Bool.eq_false_or_eq_true (T.size == P.cellsOf e) with hb | hb
      · rw [hb] at h1
        simp only [cond_true, Option.some.injEq] at h1
        subst h1
        have hsz : T.size = P.cellsOf e := by simpa using hb
        rcases DataW.trod_slice ht hx with ⟨rfl, _⟩ | ⟨a, len, cap, elems, rest, n, _, rfl, _, hbase, hlc, hcm, hel, hget, _⟩
        · exact ⟨(([] : List T.den), ()), ⟨⟨_, rfl, rfl, none, 0, rfl, Nat.zero_le _, Nat.zero_le _, fun h => absurd h (Nat.lt_irrefl 0)⟩, trivial⟩, rfl⟩
        · have hall : ∀ i, ∃ y : T.den, i < len → SRel AnyB w T y (fun j => w.cell? (a.add (i * T.size + j))) := fun i => by
            by_cases hi : i < len
            · have h1 := hget i hi
              rw [List.getElem?_eq_getElem (by omega)] at h1
              obtain ⟨cs', hcs, htr⟩ := obind h1
              obtain ⟨y, hy, hly⟩ := ih hT htr
              refine ⟨y, fun _ => srel_ext T y hy fun j hj => ?_⟩
              obtain ⟨_, hl', hc'⟩ := World.cells?_some hcs
              have := hc' j (by omega)
              rw [← this, hsz, ← Addr.add_add]
            · exact ⟨T.dflt, fun h => absurd h hi⟩
          obtain ⟨g, hg⟩ := Classical.axiomOfChoice hall
          refine ⟨((List.range len).map g, ()), ⟨⟨_, rfl, rfl, some a, cap, ?_, ?_, ?_, fun h0 _ => ⟨a, rfl, trivial, fun i y hy => ?_⟩⟩, trivial⟩, rfl⟩
          · simp [lenD]
          · simp only [lenD, List.length_map, List.length_range]; omega
          · simp only [lenD, List.length_map, List.length_range]; omega
          · have hi : i < len := by
              have := (List.getElem?_eq_some_iff.1 hy).1; simpa using this
            have : g i = y := by
              simpa [nthD, hi] using hy
            rw [← this]
            exact hg i hi
      · rw [hb] at h1; cases h1
    · rename_i fs ht
      obtain ⟨s', hs', h1⟩ := obind h
      rcases Bool.eq_false_or_eq_true (s'.size == P.cellsOf t) with hb | hb
      · rw [hb] at h1
        simp only [cond_true, Option.some.injEq] at h1
        subst h1
        obtain ⟨xs, n, _, _, hl, hn, hf⟩ := DataW.trod_struct ht hx
        obtain ⟨y, hy⟩ := trod_fields (cs := cs) ih fs.toList 0 hs' fun f hfm => by
          obtain ⟨i, hi⟩ := List.mem_iff_getElem?.1 hfm
          have hi' : fs[i]? = some f := by simpa using hi
          have hlt := (Array.getElem?_eq_some_iff.1 hi').1
          exact ⟨n, _, (hf i f hi').trans (List.getElem?_eq_getElem (by omega))⟩
        refine ⟨y, srel_ext _ y hy fun j _ => by rw [Nat.zero_add], ?_⟩
        have : s'.size = P.cellsOf t := by simpa using hb
        omega
      · rw [hb] at h1; cases h1
    · rename_i n e ht
      obtain ⟨s', hs', h1⟩ := obind h
      rcases Bool.eq_false_or_eq_true ((s'.size == P.cellsOf e) && ((repS s' n).size == P.cellsOf t)) with hb | hb
      · rw [hb] at h1
        simp only [cond_true, Option.some.injEq] at h1
        subst h1
        simp only [Bool.and_eq_true, beq_iff_eq] at hb
        obtain ⟨xs, m, _, _, hl, hn, hf⟩ := DataW.trod_array ht hx
        obtain ⟨y, hy⟩ := trod_reps (d := d) (cs := cs) (e := e) (s := s') (fun h => ih hs' h) hb.1 n 0 fun j _ hj => ⟨m, _, (hf j (by omega)).trans (List.getElem?_eq_getElem (by omega))⟩
        refine ⟨y, srel_ext _ y hy fun j _ => by rw [Nat.zero_mul, Nat.zero_add], ?_⟩
        omega
      · rw [hb] at h1; cases h1
    · cases h
end
end Go.AM
