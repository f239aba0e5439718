/-
  Calls that are handed a pointer to an own tree: what such a call gives; where the callee begins; how it ends.
-/
import Derived.Test.YthjhlpbiljpccaaAmOwnD
namespace Go.AM

def Nd.wC0 (x : Nd) (o : Option Nat) : Nd := ⟨o, x.c1, x.has, x.val⟩
def Nd.wC1 (x : Nd) (o : Option Nat) : Nd := ⟨x.c0, o, x.has, x.val⟩
def Nd.wHas (x : Nd) (b : Bool) : Nd := ⟨x.c0, x.c1, b, x.val⟩
def Nd.wVal (x : Nd) (v : Int) : Nd := ⟨x.c0, x.c1, x.has, v⟩

/-- What an argument is: data; an own slice, given up; a nil slice; the tree's pointer; a pointer to one of its nodes. -/
inductive VX where
  | p (v : VS)
  | own (T : Sch)
  | nil
  | ar
  | nd
def VX.den : VX → Type
  | .p v => v.den
  | .own T => List T.den
  | .nil => Unit
  | .ar => Unit
  | .nd => Nat
def VXs.den : List VX → Type
  | [] => Unit
  | v :: r => v.den × VXs.den r
/-- What is handed back: flat data; a pointer to a node; an own slice. -/
inductive RX where
  | flat (R : List VS)
  | nd
  | own (T : Sch)
def RX.den : RX → Type
  | .flat R => VSs.den R
  | .nd => Option Nat
  | .own T => List T.den
/-- What a tree holds. -/
abbrev Arn := List Nd × Int

/-- The tree and the node of a pointer; whether it is one. -/
def ndK : AV → Option (Nat × Nat × Bool)
  | .ptr k 0 => some (k, 0, true)
  | .nd k i 0 => some (k, i, true)
  | .ndo k o => some (k, o.getD 0, o.isSome)
  | _ => none
/-- The tree that the arguments speak of. -/
def arK : List VX → List AV → Option Nat
  | .ar :: _, .ptr k 0 :: _ => some k
  | .nd :: _, v :: _ => (ndK v).map fun q => q.1
  | .p _ :: r, _ :: vs => arK r vs
  | .own _ :: r, _ :: vs => arK r vs
  | .nil :: r, _ :: vs => arK r vs
  | _, _ => none
def takeX (k : Nat) (m : Mem) : List VX → List AV → Option Mem
  | [], [] => some m
  | .p _ :: r, _ :: vs => takeX k m r vs
  | .nil :: r, .f .nils :: vs => takeX k m r vs
  | .own T :: r, v :: vs => (ownA T m v).bind fun x => takeX k x.2.1 r vs
  | .ar :: r, .ptr j 0 :: vs => bif j == k then takeX k m r vs else none
  | .nd :: r, v :: vs => (ndK v).bind fun q => bif q.1 == k then takeX k m r vs else none
  | _, _ => none
def readX (m1 : Mem) : (m : Mem) → (A : List VX) → List AV → Option (VXs.den A × Bool)
  | _, [], [] => some ((), true)
  | m, .p t :: r, v :: vs => ((frz m1 8 v).bind t.dec).bind fun x => (readX m1 m r vs).map fun y => ((x, y.1), y.2)
  | m, .nil :: r, .f .nils :: vs => (readX m1 m r vs).map fun y => (((), y.1), y.2)
  | m, .own T :: r, v :: vs => (ownA T m v).bind fun x => (readX m1 x.2.1 r vs).map fun y => ((x.1, y.1), x.2.2 && y.2)
  | m, .ar :: r, .ptr _ 0 :: vs => (readX m1 m r vs).map fun y => (((), y.1), y.2)
  | m, .nd :: r, v :: vs => (ndK v).bind fun q => (readX m1 m r vs).map fun y => ((q.2.1, y.1), q.2.2 && y.2)
  | _, _, _ => none
/-- The result, as a value of the caller's; the memory with it. -/
def giveX (k : Nat) (m : Mem) : (R : RX) → R.den → Option (AV × Mem)
  | .flat R, y => bif flatFs (VSs.enc R y) then some (.f (outOf (VSs.enc R y)), m) else none
  | .nd, o => some (.ndo k o, m)
  | .own T, l => some (.sl m.length T.size 0 (List.length (α := T.den) l), m ++ [.row T l])

/-- A function on a tree: what it hands back, what the tree holds behind it. -/
structure EntX where
  f : Nat
  A : List VX
  R : RX
  pre : Arn → VXs.den A → Bool
  g : Arn → VXs.den A → R.den
  h : Arn → VXs.den A → Arn
def EntX.ent (e : EntX) : EntM := ⟨e.f, fun avs m => (arK e.A avs).bind fun k => match m[k]? with
  | some (.arena pn l n) => (takeX k (m.set k .dead) e.A avs).bind fun m1 => (readX m1 (m.set k .dead) e.A avs).bind fun x =>
      (giveX k (m1.set k (.arena pn (e.h (l, n) x.1).1 (e.h (l, n) x.1).2)) e.R (e.g (l, n) x.1)).map fun r => (r.1, r.2, x.2 && e.pre (l, n) x.1)
  | _ => none, fun t avs m => (arK e.A avs).bind fun k => match m[k]? with
  | some (.arena pn l n) => (takeX k (m.set k .dead) e.A avs).bind fun m1 => (readX m1 (m.set k .dead) e.A avs).bind fun x =>
      (giveX k (m1.set k (.arena pn (cond t (e.h (l, n) x.1).1 l) (cond t (e.h (l, n) x.1).2 n))) e.R (e.g (l, n) x.1)).map fun r => (r.1, r.2, x.2 && e.pre (l, n) x.1)
  | _ => none, fun avs => some (refsVs avs)⟩
/-- The same, of a function that leaves the tree as it is: a guard makes no odds. -/
def EntX.rent (e : EntX) : EntM := ⟨e.f, e.ent.run, fun _ => e.ent.run, e.ent.wr⟩
/-- What is sure of a tree in memory. -/
def AWf (ln : Arn) : Prop := 0 < ln.1.length ∧ (∀ x ∈ ln.1, (∀ j, x.c0 = some j → j < ln.1.length) ∧ (∀ j, x.c1 = some j → j < ln.1.length) ∧ -9223372036854775808 ≤ x.val ∧ x.val ≤ 9223372036854775807) ∧ -9223372036854775808 ≤ ln.2 ∧ ln.2 ≤ 9223372036854775807
/-- A function that hands back a new tree. -/
structure EntN where
  f : Nat
  A : List VO
  pre : VOs.den A → Bool
  g : VOs.den A → Arn
def EntN.ent (e : EntN) : EntM := ⟨e.f, fun avs m => (takeO m e.A avs).bind fun m1 => (readO m1 m e.A avs).map fun x =>
  (.ptr m1.length 0, m1 ++ [.arena none (e.g x.1).1 (e.g x.1).2], x.2 && e.pre x.1), fun _ _ _ => none, fun _ => none⟩

/-! ### The callee -/
def startX : (i : Nat) → (A : List VX) → VXs.den A → St → St
  | _, [], _, st => st
  | i, .p v :: r, x, st => startX (i + 1) r x.2 ⟨(i, [], .f (v.enc x.1)) :: st.s, st.m⟩
  | i, .nil :: r, x, st => startX (i + 1) r x.2 ⟨(i, [], .f .nils) :: st.s, st.m⟩
  | i, .own T :: r, x, st => startX (i + 1) r x.2 ⟨(i, [], .sl st.m.length T.size 0 (List.length x.1)) :: st.s, st.m ++ [.row T x.1]⟩
  | i, .ar :: r, x, st => startX (i + 1) r x.2 ⟨(i, [], .ptr 0 0) :: st.s, st.m⟩
  | i, .nd :: r, x, st => startX (i + 1) r x.2 ⟨(i, [], .nd 0 x.1 0) :: st.s, st.m⟩
/-- The place of the tree's argument. -/
def posX : Nat → List VX → Nat
  | i, .ar :: _ => i
  | i, .nd :: _ => i
  | i, _ :: r => posX (i + 1) r
  | i, [] => i
/-- The tree that a slot points to: its place, what it holds, its pin. -/
def arOf (m : Mem) : AV → Option (Nat × Arn × (Nat × List Nat))
  | .ptr k _ => match m[k]? with
    | some (.arena (some pn) l n) => some (k, (l, n), pn)
    | _ => none
  | .nd k _ _ => match m[k]? with
    | some (.arena (some pn) l n) => some (k, (l, n), pn)
    | _ => none
  | _ => none
def backX (st : St) (k : Nat) : (R : RX) → List ARes → Option R.den
  | .flat R, rs => (resVs st rs).bind (VSs.dec R)
  | .nd, [.t n] => match get st.s n with
    | ([], v) => asNd k v
    | _ => none
  | .own T, [.t n] => match get st.s n with
    | ([], v) => backO T st.m v
    | _ => none
  | _, _ => none
def kDoneX (c : AFunc) (i0 : Nat) (R : RX) (Q : R.den × Arn × (Nat × List Nat) → Prop) : K
  | .norm, st | .ret, st => match get st.s i0 with
    | ([], v) => match arOf st.m v with
      | some q => match backX st q.1 R c.res with
        | some y => Q (y, q.2.1, q.2.2)
        | none => False
      | none => False
    | _ => False
  | .exit _, _ => False
def evX (Γ : Env) (Λ : Loops) (c : AFunc) (A : List VX) (pn : Nat × List Nat) (ln : Arn) (x : VXs.den A) (R : RX) (Q : R.den × Arn × (Nat × List Nat) → Prop) : Prop :=
  evC Γ Λ c.body (startX 0 A x ⟨[], [.arena (some pn) ln.1 ln.2]⟩) (kDoneX c (posX 0 A) R Q)

/-- A new tree that is handed back. -/
def backN (m : Mem) : AV → Option Arn
  | .ptr k 0 => match m[k]? with
    | some (.arena _ l n) => some (l, n)
    | some (.box _ [.f .nilp, .f .nilp, .f (.bool h), .f (.int .i64 v), .f (.int .i64 n)]) => some ([⟨none, none, h, v⟩], n)
    | _ => none
  | _ => none
def kDoneN (c : AFunc) (Q : Arn → Prop) : K
  | .norm, st | .ret, st => match c.res with
    | [.t n] => match get st.s n with
      | ([], v) => match backN st.m v with
        | some l => Q l
        | none => False
      | _ => False
    | _ => False
  | .exit _, _ => False
def evN (Γ : Env) (Λ : Loops) (c : AFunc) (A : List VO) (x : VOs.den A) (Q : Arn → Prop) : Prop :=
  evC Γ Λ c.body (startO 0 0 A x ⟨[], []⟩) (kDoneN c Q)
end Go.AM
