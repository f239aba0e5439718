/-
  Calls that are handed own slices, or own pointers to a box with one own slice, and may grow them: what such a call gives; where the callee begins; how it ends.
-/
import Derived.Test.YthjhlpbiljpccaaAmDef
namespace Go.AM

/-- What an argument is: data; an own slice, given up; a nil slice; a pointer to an own box that holds one own slice. -/
inductive VO where
  | p (v : VS)
  | own (T : Sch)
  | nil
  | io (T : Sch)
def VO.den : VO → Type
  | .p v => v.den
  | .own T => List T.den
  | .nil => Unit
  | .io T => List T.den
def VOs.den : List VO → Type
  | [] => Unit
  | v :: r => v.den × VOs.den r

/-- An own slice's elements; the memory without it; its premise. -/
def ownA (T : Sch) (m : Mem) : AV → Option (List T.den × Mem × Bool)
  | .f .nils => some ([], m, true)
  | .sl k sz 0 len => bif T.size == sz then match m[k]? with
      | some (.row U l) => (U.same T).map fun h => (castL h l, m.set k .dead, decide (len = l.length))
      | some (.arow U es) => bif U.size == T.size then (frzE asF T es).map fun l => (l, m.set k .dead, decide (len = es.length)) else none
      | _ => none
    else none
  | _ => none
def ioA (T : Sch) (m : Mem) : AV → Option (List T.den × Mem × Bool)
  | .ptr k 0 => match m[k]? with
      | some (.box _ [c]) => ownA T (m.set k .dead) c
      | _ => none
  | _ => none
/-- The memory behind all that is given up. -/
def takeO (m : Mem) : List VO → List AV → Option Mem
  | [], [] => some m
  | .p _ :: r, _ :: vs => takeO m r vs
  | .nil :: r, .f .nils :: vs => takeO m r vs
  | .own T :: r, v :: vs => (ownA T m v).bind fun x => takeO x.2.1 r vs
  | .io T :: r, v :: vs => (ioA T m v).bind fun x => takeO x.2.1 r vs
  | _, _ => none
/-- The arguments, read: 'm' is the memory as each is given up, 'm1' the memory behind all. -/
def readO (m1 : Mem) : (m : Mem) → (A : List VO) → List AV → Option (VOs.den A × Bool)
  | _, [], [] => some ((), true)
  | m, .p t :: r, v :: vs => ((frz m1 8 v).bind t.dec).bind fun x => (readO m1 m r vs).map fun y => ((x, y.1), y.2)
  | m, .nil :: r, .f .nils :: vs => (readO m1 m r vs).map fun y => (((), y.1), y.2)
  | m, .own T :: r, v :: vs => (ownA T m v).bind fun x => (readO m1 x.2.1 r vs).map fun y => ((x.1, y.1), x.2.2 && y.2)
  | m, .io T :: r, v :: vs => (ioA T m v).bind fun x => (readO m1 x.2.1 r vs).map fun y => ((x.1, y.1), x.2.2 && y.2)
  | _, _, _ => none
/-- A schema without places in memory. -/
def flatS : Sch → Bool
  | .nil => true
  | .cons .bool s | .cons (.int _) s | .cons .str s => flatS s
  | .cons _ _ => false

/-- A function that hands back an own slice. -/
structure EntO where
  f : Nat
  A : List VO
  T : Sch
  pre : VOs.den A → Bool
  g : VOs.den A → List T.den
def EntO.ent (e : EntO) : EntM := ⟨e.f, fun avs m => (takeO m e.A avs).bind fun m1 => (readO m1 m e.A avs).map fun x =>
  (.sl m1.length e.T.size 0 (e.g x.1).length, m1 ++ [.row e.T (e.g x.1)], x.2 && e.pre x.1), fun _ _ _ => none, fun _ => none⟩
/-- A function that hands back an own slice, and flat data beside it. -/
structure EntT where
  f : Nat
  A : List VO
  T : Sch
  R : List VS
  pre : VOs.den A → Bool
  g : VOs.den A → List T.den × VSs.den R
def EntT.ent (e : EntT) : EntM := ⟨e.f, fun avs m => (takeO m e.A avs).bind fun m1 => (readO m1 m e.A avs).bind fun x =>
  bif flatFs (VSs.enc e.R (e.g x.1).2) then some (.tup (.sl m1.length e.T.size 0 (e.g x.1).1.length :: (VSs.enc e.R (e.g x.1).2).map .f), m1 ++ [.row e.T (e.g x.1).1], x.2 && e.pre x.1) else none, fun _ _ _ => none, fun _ => none⟩
/-! ### The callee -/
def snocS (s : Slots) (i : Nat) (v : AV) : Slots := (i, [], v) :: s
/-- Where it begins; 'b': the block of the first argument's box. -/
def startO (b : Nat) : (i : Nat) → (A : List VO) → VOs.den A → St → St
  | _, [], _, st => st
  | i, .p v :: r, x, st => startO b (i + 1) r x.2 ⟨(i, [], .f (v.enc x.1)) :: st.s, st.m⟩
  | i, .nil :: r, x, st => startO b (i + 1) r x.2 ⟨(i, [], .f .nils) :: st.s, st.m⟩
  | i, .own T :: r, x, st => startO b (i + 1) r x.2 ⟨(i, [], .sl st.m.length T.size 0 (List.length x.1)) :: st.s, st.m ++ [.row T x.1]⟩
  | i, .io T :: r, x, st => startO b (i + 1) r x.2 ⟨(i, [], .ptr st.m.length 0) :: st.s, st.m ++ [.box (some (i, b)) [.sl (st.m.length + 1) T.size 0 (List.length x.1)], .row T x.1]⟩

/-- An own slice that is handed back. -/
def backO (T : Sch) (m : Mem) : AV → Option (List T.den)
  | .f .nils => some []
  | .sl k sz 0 len => bif T.size == sz then match m[k]? with
      | some (.row U l) => (U.same T).map fun h => (castL h l).take len
      | some (.arow U es) => bif U.size == T.size then frzE asF T (es.take len) else none
      | _ => none
    else none
  | _ => none
def kDoneO (c : AFunc) (T : Sch) (Q : List T.den → Prop) : K
  | .norm, st | .ret, st => match c.res with
    | [.t n] => match get st.s n with
      | ([], v) => match backO T st.m v with
        | some l => Q l
        | none => False
      | _ => False
    | _ => False
  | .exit _, _ => False
def evO (Γ : Env) (Λ : Loops) (c : AFunc) (A : List VO) (x : VOs.den A) (T : Sch) (Q : List T.den → Prop) : Prop :=
  evC Γ Λ c.body (startO 0 0 A x ⟨[], []⟩) (kDoneO c T Q)

def kDoneT (c : AFunc) (T : Sch) (R : List VS) (Q : List T.den × VSs.den R → Prop) : K
  | .norm, st | .ret, st => match c.res with
    | .t n :: rs => match get st.s n with
      | ([], v) => match backO T st.m v with
        | some l => match resVs st rs with
          | some xs => match VSs.dec R xs with
            | some y => Q (l, y)
            | none => False
          | none => False
        | none => False
      | _ => False
    | _ => False
  | .exit _, _ => False
def evT (Γ : Env) (Λ : Loops) (c : AFunc) (A : List VO) (x : VOs.den A) (T : Sch) (R : List VS) (Q : List T.den × VSs.den R → Prop) : Prop :=
  evC Γ Λ c.body (startO 0 0 A x ⟨[], []⟩) (kDoneT c T R Q)

end Go.AM
