/-
  A law that holds of all data holds of the program.
-/
import Derived.Test.YthjhlpbiljpccaaAmLawA
import Derived.Below
import Derived.Carry
import Derived.ChangeSame
namespace Go.AM
open Go.RowKit Go.WideShapes Go.ChangeShapes

/-- What a parameter takes. -/
def vsT (P : Program) (t : TypeId) : Option VS := match P.underlying t with
  | some (.struct _) => (schL P 20 t).map .st
  | some .bool => some (.one .bool)
  | some (.int k) => some (.one (.int k))
  | some .string => some (.one .str)
  | some (.slice e) => (schL P 19 e).bind fun s => bif s.size == P.cellsOf e then some (.one (.sl s)) else none
  | _ => none
def vsTs (P : Program) : List TypeId → Option (List VS)
  | [] => some []
  | t :: r => (vsT P t).bind fun v => (vsTs P r).map fun vs => v :: vs

section
variable {H : Type} {enc : TypeId × Value → H} {P : Program} {W : World}

theorem one_of {t : TypeId} {c : Cell} {v : Value} {fuel : Nat} {x : DataW H × List MemPlace} {sp : Nat → Bool} {base : Nat} {held : Bool} (hs : schL P 20 t = some (.cons c .nil)) (hv : v.cells = #[v]) (h : DataW.trod enc P W base sp held fuel t v.cells.toList = some x) : ∃ y : c.den, CRel AnyB W c y v := by
  obtain ⟨y, hy, _⟩ := trod_srel 20 hs h
  obtain ⟨⟨u, hu, _, hc⟩, _⟩ := hy
  rw [hv] at hu
  simp at hu
  subst hu
  exact ⟨y.1, hc⟩

theorem schL_slice {d : Nat} {t e : TypeId} (ht : P.underlying t = some (.slice e)) : schL P (d + 1) t = (schL P d e).bind fun s => bif s.size == P.cellsOf e then some (.cons (.sl s) .nil) else none := by
  simp only [schL, ht]

theorem arg_ok {t : TypeId} {vs : VS} {v : Value} {d : DataW H} {ps : List MemPlace} {r : Reach} {b0 base : Nat} {sp : Nat → Bool} {held : Bool} (h : vsT P t = some vs) (hval : Value.okWide P W r b0 t v) (hd : DataW.Trod enc P W base sp held t v d ps) :
    ∃ x : vs.den, FRel AnyB W (vs.enc x) v := by
  obtain ⟨fuel, hf⟩ := hd
  unfold vsT at h
  split at h
  · rename_i fs ht
    obtain ⟨s, hs, rfl⟩ := omap h
    obtain ⟨cs, rfl, _⟩ := okWide_struct ht hval
    obtain ⟨y, hy, hl⟩ := trod_srel 20 hs hf
    have he := srel_enc s y _ hy
    have hn : cs.size = (s.enc y).length := by rw [Sch.enc_length]; simpa [Value.cells] using hl
    have key : ∀ (j : Nat) c v, (s.enc y)[j]? = some c → cs[j]? = some v → oneV v = true ∧ FRel AnyB W c v := fun j c v hj hv => by
      obtain ⟨u, hu, ho, hr⟩ := he j c hj
      have : cs[j]? = some u := by simpa [Value.cells] using hu
      rw [hv] at this; cases this
      exact ⟨ho, hr⟩
    exact ⟨y, .agg hn (fun j c v hj hv => (key j c v hj hv).1) fun j c v hj hv => (key j c v hj hv).2⟩
  · rename_i ht
    cases h
    obtain ⟨b, rfl⟩ := okWide_bool ht hval
    obtain ⟨y, hy⟩ := one_of (c := .bool) (by simp [schL, ht]) rfl hf
    exact ⟨y, crel_enc .bool y _ hy⟩
  · rename_i k ht
    cases h
    obtain ⟨b, rfl⟩ := okWide_int ht hval
    obtain ⟨y, hy⟩ := one_of (c := .int k) (by simp [schL, ht]) rfl hf
    exact ⟨y, crel_enc (.int k) y _ hy⟩
  · rename_i ht
    cases h
    obtain ⟨b, rfl⟩ := okWide_string ht hval
    obtain ⟨y, hy⟩ := one_of (c := .str) (by simp [schL, ht]) rfl hf
    exact ⟨y, crel_enc .str y _ hy⟩
  · rename_i e ht
    obtain ⟨s, hs, h1⟩ := obind h
    rcases Bool.eq_false_or_eq_true (s.size == P.cellsOf e) with hb | hb
    · rw [hb] at h1
      cases h1
      obtain ⟨a, len, cap, rfl⟩ := okWide_slice ht hval
      have : schL P 20 t = some (.cons (.sl s) .nil) := by
        refine (schL_slice (d := 19) ht).trans ?_
        rw [hs]
        simp only [Option.bind_some, hb, cond_true]
      obtain ⟨y, hy⟩ := one_of (c := .sl s) this rfl hf
      exact ⟨y, crel_enc (.sl s) y _ hy⟩
    · rw [hb] at h1; cases h1
  · cases h

theorem args_ok {r : Reach} {b0 base : Nat} {sp : Nat → Bool} {held : Bool} : ∀ {ts : List TypeId} {A : List VS} {vs : List Value} {ds : List (DataW H)} {ps : List MemPlace}, vsTs P ts = some A → (∀ (j : Nat) t v, ts[j]? = some t → vs[j]? = some v → Value.okWide P W r b0 t v) →
    DataW.TrodAll enc P W base sp held ts vs ds ps → ∃ x : VSs.den A, ArgsRel AnyB W (VSs.enc A x) vs
  | [], A, [], [], ps, h, _, _ => by
    simp only [vsTs, Option.some.injEq] at h
    subst h
    exact ⟨(), rfl, fun j c v hj => by simp [VSs.enc] at hj⟩
  | t :: ts, A, v :: vs, d :: ds, ps, h, hval, hd => by
    simp only [vsTs] at h
    obtain ⟨a, ha, h1⟩ := obind h
    obtain ⟨B, hB, rfl⟩ := omap h1
    obtain ⟨p, q, hd1, hd2, _⟩ := hd
    obtain ⟨x, hx⟩ := arg_ok ha (hval 0 t v rfl rfl) hd1
    obtain ⟨y, hl, hy⟩ := args_ok hB (fun j t' v' hj hv => hval (j + 1) t' v' (by simpa using hj) (by simpa using hv)) hd2
    refine ⟨(x, y), by simp [VSs.enc, hl], fun j c u hj hu => ?_⟩
    cases j with
    | zero => simp [VSs.enc] at hj hu; subst hj; subst hu; exact hx
    | succ j => exact hy j c u (by simpa [VSs.enc] using hj) (by simpa using hu)
  | [], _, _ :: _, _, _, _, _, h => h.elim
  | [], _, [], _ :: _, _, _, _, h => h.elim
  | _ :: _, _, [], _, _, _, _, h => h.elim
  | _ :: _, _, _ :: _, [], _, _, _, h => h.elim

theorem post_of_below {f : Func} {s : ChangeSpec} {apart fresh handsOn again : Bool} {W' : World} {args : Array Value} {v : Value} {ds gs : List (DataW H)} {before pa pv : List MemPlace}
    (hW : DataW.Whole enc P f.params.toList s.vars apart W args.toList ds gs before)
    (hres : ∀ (b : Nat) (sp : Nat → Bool) (hd : Bool), DataW.TrodAll enc P W' b sp hd f.resultTypes.toList (v.resultList f.resultTypes.size) (s.fn H (ds ++ gs)).results [])
    (hargs : ∀ sp : Nat → Bool, (∀ p ∈ before, sp p.block = true) → DataW.TrodAll enc P W' 0 sp true f.params.toList args.toList (s.fn H (ds ++ gs)).args pa)
    (hvars : ∀ sp : Nat → Bool, (∀ p ∈ before, sp p.block = true) → DataW.TrodVars enc P W' sp s.vars (s.fn H (ds ++ gs)).vars pv)
    (hps : before = pa ++ pv) (hb : Below W.heap.size W W')
    (hok : ∀ (j : Nat) (t : TypeId) (r : Value), f.resultTypes[j]? = some t → (v.resultList f.resultTypes.size)[j]? = some r → Value.okWide P W' .any 0 t r) :
    s.post enc P f apart fresh handsOn again W args v W' := by
  have hlt : ∀ p ∈ before, p.block < W.heap.size := fun p hp => hW.lt p hp
  have hold : ∀ p ∈ before, (fun b => decide (b < W.heap.size)) p.block = true := fun p hp => by simpa using hlt p hp
  refine ⟨ds, gs, before, [], pa, pv, hW, hres _ _ _, hargs _ hold, hvars _ hold, World.keptBut_mono (fun p hp => ⟨hp, ?_⟩) (hb.frame (· ∈ before)), fun _ => ?_⟩
  · rw [hps, List.mem_append] at hp
    exact Or.inr hp
  · obtain ⟨_, _, _, _, _, hz, hn⟩ := hW
    refine ⟨hok, _, _, ([] ++ pa) ++ pv, ⟨[] ++ pa, pv, trodAll_append (hargs _ (fun _ _ => rfl)) (hres _ _ _), hvars _ (fun _ _ => rfl), rfl, ?_, ?_⟩, ?_⟩
    · intro b off hp
      have hin : MemPlace.cell b off ∈ before := by rw [hps]; simpa using hp
      rw [hb.frozen (hlt _ hin)]
      exact hz b off hin
    · intro ha
      have := hn ha
      rw [hps] at this
      simpa using this
    · intro p hp _
      rw [hps]
      simpa using hp

def rowsOk (P : Program) : List TypeId → Bool
  | [] => true
  | t :: r => P.readableRec t && Nat.blt t P.types.size && rowsOk P r

theorem trodAll_stays (hl : laidOutB P = true) {W' : World} {sp : Nat → Bool} (hb : Below W.heap.size W W') : ∀ {ts : List TypeId} {vs : List Value} {ds : List (DataW H)} {ps : List MemPlace}, rowsOk P ts = true → DataW.TrodAll enc P W 0 (fun _ => true) true ts vs ds ps →
    (∀ p ∈ ps, p.block < W.heap.size) → (∀ p ∈ ps, sp p.block = true) → DataW.TrodAll enc P W' 0 sp true ts vs ds ps
  | [], [], [], ps, _, h, _, _ => h
  | t :: ts, v :: vs, d :: ds, ps, hr, h, hlt, hs => by
    obtain ⟨p, q, h1, h2, rfl⟩ := h
    simp only [rowsOk, Bool.and_eq_true] at hr
    refine ⟨p, q, WideElems.Trod_stays hl hr.1.1 (by simpa using hr.1.2) h1 (fun x hx => hb.same (hlt x (List.mem_append_left _ hx))) (fun x hx => hs x (List.mem_append_left _ hx)), ?_, rfl⟩
    exact trodAll_stays hl hb hr.2 h2 (fun x hx => hlt x (List.mem_append_right _ hx)) fun x hx => hs x (List.mem_append_right _ hx)
  | [], _ :: _, _, _, _, h, _, _ => h.elim
  | [], [], _ :: _, _, _, h, _, _ => h.elim
  | _ :: _, [], _, _, _, h, _, _ => h.elim
  | _ :: _, _ :: _, [], _, _, h, _, _ => h.elim
theorem trodAll_len {base : Nat} {sp : Nat → Bool} {held : Bool} : ∀ {ts : List TypeId} {vs : List Value} {ds : List (DataW H)} {ps : List MemPlace}, DataW.TrodAll enc P W base sp held ts vs ds ps → ds.length = ts.length
  | [], [], [], _, _ => rfl
  | _ :: ts, _ :: vs, _ :: ds, _, h => by
    obtain ⟨_, _, _, h2, _⟩ := h
    simp [trodAll_len h2]
  | [], _ :: _, _, _, h => h.elim
  | [], [], _ :: _, _, h => h.elim
  | _ :: _, [], _, _, h => h.elim
  | _ :: _, _ :: _, [], _, h => h.elim

/-- A LAW: whatever the data, it hands back true. -/
theorem law_post {f : Nat} {fn : Func} {s : ChangeSpec} {apart fresh handsOn again : Bool} {A : List VS} {tb : TypeId} (hl : laidOutB P = true) (hvars : s.vars = []) (hA : vsTs P fn.params.toList = some A) (hr : rowsOk P fn.params.toList = true)
    (hres : fn.resultTypes = #[tb]) (htb : P.underlying tb = some .bool) (hfn : ∀ ds : List (DataW H), ds.length = fn.params.toList.length → (s.fn H ds).results = [.lit (.bool true)] ∧ (s.fn H ds).args = ds ∧ (s.fn H ds).vars = [])
    (law : ∀ x : VSs.den A, VSs.wf A x → PureA P f (VSs.enc A x) (.bool true)) (hgl : GlobOk AnyB W)
    {base : Nat} {args : Array Value} {ds gs : List (DataW H)} {before : List MemPlace} (hval : ∀ (j : Nat) t v, fn.params[j]? = some t → args[j]? = some v → Value.okWide P W .any base t v) (hW : DataW.Whole enc P fn.params.toList s.vars apart W args.toList ds gs before) :
    Calls P f args W fun e W' => ∃ v, e = .returned v ∧ s.post enc P fn apart fresh handsOn again W args v W' := by
  have hW' := hW
  obtain ⟨p, q, hAll, hV, rfl, hfz, hnd⟩ := hW
  rw [hvars] at hV
  have hgs : gs = [] ∧ q = [] := by
    cases gs with
    | nil => exact ⟨rfl, hV⟩
    | cons _ _ => exact hV.elim
  obtain ⟨rfl, rfl⟩ := hgs
  obtain ⟨x, hx⟩ := args_ok hA (fun j t v hj hv => hval j t v (by simpa using hj) (by simpa using hv)) hAll
  have := law x (vss_wf A x _ hx) AnyB W args.toList (fun _ _ => trivial) hgl hx
  have hargs' : args.toList.toArray = args := by simp
  rw [hargs'] at this
  refine this.mono fun e W' ⟨v, he, hv, hb⟩ => ⟨v, he, ?_⟩
  have hv' : v = .bool true := by cases hv; rfl
  subst hv'
  obtain ⟨f1, f2, f3⟩ := hfn ds (trodAll_len hAll)
  have hlt : ∀ y ∈ p ++ [], y.block < W.heap.size := fun y hy => hW'.lt y hy
  refine post_of_below (pa := p) (pv := []) hW' (fun b sp hd => ?_) (fun sp hsp => ?_) (fun sp hsp => ?_) rfl hb (ok_one hres rfl (okWide_bool_mk htb true))
  · rw [List.append_nil, f1, hres]
    exact ⟨[], [], shut_bool htb true, rfl, rfl⟩
  · rw [List.append_nil, f2]
    exact trodAll_stays hl hb hr hAll (fun y hy => hlt y (List.mem_append_left _ hy)) fun y hy => hsp y (List.mem_append_left _ hy)
  · rw [List.append_nil, f3, hvars]
    rfl
end
end Go.AM
