/-
  The abstract machine: typed pure data, a compact code, an evaluator that is total and never asks a symbolic test but by 'cond'. Nothing of the program stands here.
-/
import GoSem.Dispatch
import Derived.Calls
namespace Go.AM

/-! ### Data by schema -/
mutual
/-- One cell of data. -/
inductive Cell where
  | bool
  | int (k : IntKind)
  | str
  | sl (s : Sch)
  /-- A function of the program, without variables of its own. -/
  | fn (f : Nat)
  /-- A map from numbers, all of whose values are true: a set. -/
  | mp
/-- The cells of a struct (or the one cell of a plain element). -/
inductive Sch where
  | nil
  | cons (c : Cell) (s : Sch)
end

mutual
def Cell.den : Cell → Type
  | .bool => Bool
  | .int _ => Int
  | .str => List UInt8
  | .fn _ => Unit
  | .mp => List Int
  | .sl s => List s.den
def Sch.den : Sch → Type
  | .nil => Unit
  | .cons c s => c.den × s.den
end

def Sch.size : Sch → Nat
  | .nil => 0
  | .cons _ s => s.size + 1

def Cell.dflt : (c : Cell) → c.den
  | .bool => false
  | .int _ => (0 : Int)
  | .str => ([] : List UInt8)
  | .fn _ => ()
  | .mp => ([] : List Int)
  | .sl _ => []
def Sch.dflt : (s : Sch) → s.den
  | .nil => ()
  | .cons c s => (c.dflt, s.dflt)

mutual
def Cell.same : (c d : Cell) → Option (PLift (c = d))
  | .bool, .bool => some ⟨rfl⟩
  | .int k, .int j => if h : k = j then some ⟨by rw [h]⟩ else none
  | .str, .str => some ⟨rfl⟩
  | .fn f, .fn g => if h : f = g then some ⟨by rw [h]⟩ else none
  | .sl s, .sl r => (s.same r).map fun h => ⟨by rw [h.down]⟩
  | .mp, .mp => some ⟨rfl⟩
  | _, _ => none
def Sch.same : (s r : Sch) → Option (PLift (s = r))
  | .nil, .nil => some ⟨rfl⟩
  | .cons c s, .cons d r => (c.same d).bind fun h => (s.same r).map fun g => ⟨by rw [h.down, g.down]⟩
  | _, _ => none
end

def castL {U T : Sch} (h : PLift (U = T)) (l : List U.den) : List T.den := h.down ▸ l

/-- Pure data: no memory of the call's own. -/
inductive FV where
  | int (k : IntKind) (n : Int)
  | bool (b : Bool)
  | str (s : List UInt8)
  | fs (T : Sch) (l : List T.den)
  | nils | nilp | nilf
  | agg (cs : List FV)
  | tup (vs : List FV)
  | fpt (cs : List FV) (off : Nat)
  | fn (f : Nat) (caps : List FV)
  | fmap (l : List Int)

def Cell.enc : (c : Cell) → c.den → FV
  | .bool, b => .bool b
  | .int k, n => .int k n
  | .str, s => .str s
  | .fn f, _ => .fn f []
  | .mp, l => .fmap l
  | .sl T, l => .fs T l
def Sch.enc : (s : Sch) → s.den → List FV
  | .nil, _ => []
  | .cons c s, x => c.enc x.1 :: s.enc x.2

def Cell.dec : (c : Cell) → FV → Option c.den
  | .bool, .bool b => some b
  | .int k, .int j n => if k = j then some n else none
  | .str, .str s => some s
  | .fn f, .fn g [] => if f = g then some () else none
  | .sl T, .fs U l => (U.same T).map fun h => castL h l
  | .sl _, .nils => some []
  | .mp, .fmap l => some l
  | _, _ => none
def Sch.dec : (s : Sch) → List FV → Option s.den
  | .nil, [] => some ()
  | .cons c s, v :: r => (c.dec v).bind fun x => (s.dec r).map fun y => (x, y)
  | _, _ => none

/-! ### What a function takes and gives -/
inductive VS where
  | one (c : Cell)
  | st (s : Sch)
  | ptr (s : Sch)
  | clo (f : Nat) (caps : List Sch)
def capsDen : List Sch → Type
  | [] => Unit
  | s :: r => s.den × capsDen r
def VS.den : VS → Type
  | .one c => c.den
  | .st s | .ptr s => s.den
  | .clo _ caps => capsDen caps
def VSs.den : List VS → Type
  | [] => Unit
  | v :: r => v.den × VSs.den r

def capsEnc : (l : List Sch) → capsDen l → List FV
  | [], _ => []
  | s :: r, x => .fpt (s.enc x.1) 0 :: capsEnc r x.2
def capsDec : (l : List Sch) → List FV → Option (capsDen l)
  | [], [] => some ()
  | s :: r, .fpt cs 0 :: vs => (s.dec cs).bind fun x => (capsDec r vs).map fun y => (x, y)
  | _, _ => none
def VS.enc : (v : VS) → v.den → FV
  | .one c, x => c.enc x
  | .st s, x => .agg (s.enc x)
  | .ptr s, x => .fpt (s.enc x) 0
  | .clo f caps, x => .fn f (capsEnc caps x)
def decSt (s : Sch) : FV → Option s.den
  | .agg cs => s.dec cs
  | _ => none
def decPtr (s : Sch) : FV → Option s.den
  | .fpt cs 0 => s.dec cs
  | _ => none
def decClo (f : Nat) (caps : List Sch) : FV → Option (capsDen caps)
  | .fn g vs => bif f == g then capsDec caps vs else none
  | _ => none
def VS.dec : (v : VS) → FV → Option v.den
  | .one c => c.dec
  | .st s => decSt s
  | .ptr s => decPtr s
  | .clo f caps => decClo f caps
def VSs.enc : (l : List VS) → VSs.den l → List FV
  | [], _ => []
  | v :: r, x => v.enc x.1 :: VSs.enc r x.2
def VSs.dec : (l : List VS) → List FV → Option (VSs.den l)
  | [], [] => some ()
  | v :: r, x :: xs => (v.dec x).bind fun y => (VSs.dec r xs).map fun ys => (y, ys)
  | _, _ => none
/-- What a call hands back: one value, or a tuple. -/
def outOf : List FV → FV
  | [v] => v
  | vs => .tup vs

/-- A function's contract: under 'pre' it hands back 'g'. -/
structure Ent where
  f : Nat
  A : List VS
  R : List VS
  pre : VSs.den A → Bool
  g : VSs.den A → VSs.den R

/-! ### Values and memory of a call -/
inductive AV where
  | junk
  | f (v : FV)
  | agg (cs : List AV)
  /-- What a call hands back, with an own slice. -/
  | tup (cs : List AV)
  | ptr (k off : Nat)
  | eptr (k sz i off : Nat)
  | sl (k sz off len : Nat)
  | fn (f : Nat) (caps : List AV)
  | unkB (p q : Prop)
  /-- A pointer to a node of an own tree: the tree, the node's number, a place in it. -/
  | nd (k i off : Nat)
  /-- A pointer to a node, or nil. -/
  | ndo (k : Nat) (o : Option Nat)
  /-- The address of a child of a node. -/
  | ndx (k i : Nat) (n : Int)
  /-- The address of a cell of an own row of pointers to nodes. -/
  | bx (k : Nat) (n : Int)
  /-- A slice that is the whole block of its row; its elements have one cell. -/
  | slx (k len : Nat)
  /-- An own set. -/
  | mp (k : Nat)

/-- A node of a binary tree: its children by number, its mark, its value. -/
structure Nd where
  c0 : Option Nat
  c1 : Option Nat
  has : Bool
  val : Int
def Nd.z : Nd := ⟨none, none, false, 0⟩
def Nd.ch (n : Nd) (b : Int) : Option Nat := bif decide (b = 0) then n.c0 else n.c1
def Nd.put (n : Nd) (b : Int) (o : Option Nat) : Nd := bif decide (b = 0) then ⟨o, n.c1, n.has, n.val⟩ else ⟨n.c0, o, n.has, n.val⟩

/-- An own object. A box may be pinned: a tag, the number of its block. A tree is its nodes, the first one the root, and a number behind the root. -/
inductive MObj where
  | dead
  | arena (pin : Option (Nat × List Nat)) (l : List Nd) (size : Int)
  | nrow (k : Nat) (l : List (Option Nat))
  | box (pin : Option (Nat × Nat)) (cs : List AV)
  | row (T : Sch) (l : List T.den)
  | mset (l : List Int)
  | arow (T : Sch) (es : List (List AV))

abbrev Mem := List MObj
/-- A slot: the guards under which its value stands, the value. -/
abbrev Slots := List (Nat × List (Nat × Bool) × AV)
structure St where
  s : Slots
  m : Mem

/-- The program's tables of numbers: each one's number, its kind, what it holds. -/
def globs : List (Nat × IntKind × List Int) := []
def globOf : List (Nat × IntKind × List Int) → Nat → Option (IntKind × List Int)
  | [], _ => none
  | (h, x) :: r, g => bif h == g then some x else globOf r g

inductive AOpd where
  | t (n : Nat)
  | c (v : AV)

inductive AOp where
  | mov (x : AOpd)
  | pick (c : Nat) (a b : AOpd)
  | box (x : AOpd)
  | alloc (z : List AV)
  | build (z : List AV) (parts : List (Nat × Nat × AOpd))
  | bslice (T : Sch) (bytes : Nat) (z : List AV) (n : Nat) (parts : List (Nat × AOpd))
  /-- A literal that nobody changes: data at once. -/
  | bslF (T : Sch) (z : List AV) (n : Nat) (parts : List (Nat × AOpd))
  | load (ag : Bool) (sz : Nat) (a : AOpd)
  | store (sz : Nat) (a v : AOpd)
  | bin (op : BinOp) (x y : AOpd)
  | eqa (neg : Bool) (offs : List (Nat × Nat)) (x y : AOpd)
  | eqb (neg : Bool) (x y : AOpd)
  | un (op : UnOp) (x : AOpd)
  | conv (k : IntKind) (x : AOpd)
  | convS (x : AOpd)
  | fld (off : Nat) (x : AOpd)
  | fldv (ag : Bool) (off sz : Nat) (x : AOpd)
  | ixa (sz : Nat) (x i : AOpd)
  | ixs (x i : AOpd)
  | gix (g : Nat) (i : AOpd)
  | slc (sz : Nat) (x : AOpd) (lo hi : Option AOpd)
  | slcs (x : AOpd) (lo hi : Option AOpd)
  | len (x : AOpd)
  | lens (x : AOpd)
  | call (f : Nat) (args : List AOpd)
  | callm (f : Nat) (args : List AOpd)
  | callv (x : AOpd) (args : List AOpd)
  | mkfn (f : Nat) (caps : List AOpd)
  | app (T : Sch) (bytes : Nat) (x y : AOpd)
  | ext (i : Nat) (x : AOpd)
  | nilchk (x : AOpd)
  | nil0
  | mm (mx : Bool) (x y : AOpd)
  | nilq (neg : Bool) (x : AOpd)
  | nilpq (neg : Bool) (x : AOpd)
  | capn (x : AOpd)
  | appz (T : Sch) (x n : AOpd)
  | mks (T : Sch) (n : AOpd)
  | clr (T : Sch) (x : AOpd)
  /-- The address of a cell of an array, n cells long. -/
  | ixn (n : Nat) (x i : AOpd)
  /-- A new set; an element put into it; is it in it? -/
  | mkm (n : AOpd)
  | mput (x k : AOpd)
  | mget (x k : AOpd)

structure AOper where
  dst : Option Nat
  guard : Option (Nat × Bool)
  op : AOp

/-- What of a slot is kept at a loop's head. -/
inductive KP where
  | no
  | own (T : Sch)
  | cell (j : Nat) (T : Sch)
  /-- A nil slice, as data. -/
  | dat (T : Sch)
  /-- A pointer to a node of the tree whose address is in slot j, or nil. -/
  | nod (j : Nat)
  /-- A box of such pointers. -/
  | nods (j : Nat)

inductive ACode where
  | skip
  | region (ops : List AOper) (ps : List (Nat × Nat))
  | bad
  | seq (a b : ACode)
  | seqF (a b : ACode)
  /-- Between them, the first slots are frozen, the second ones kept, all others forgotten. -/
  | seqP (fz kp : List Nat) (a b : ACode)
  | cond (c : Nat) (t e : ACode)
  | block (id : Nat) (b : ACode)
  | loop (n : Nat) (keep : List (Nat × KP)) (b : ACode)
  | exit (id : Nat)
  | ret

/-! ### Evaluation -/
def get : Slots → Nat → List (Nat × Bool) × AV
  | [], _ => ([], .junk)
  | (i, v) :: r, t => bif i == t then v else get r t

def inB (p : Nat × Bool) : List (Nat × Bool) → Bool
  | [] => false
  | q :: r => (p.1 == q.1 && p.2 == q.2) || inB p r
def subB : List (Nat × Bool) → List (Nat × Bool) → Bool
  | [], _ => true
  | p :: r, G => inB p G && subB r G

/-- An operand's value, under the guards G. -/
def opv (s : Slots) (G : List (Nat × Bool)) : AOpd → Option AV
  | .c v => some v
  | .t n => let e := get s n; bif subB e.1 G then some e.2 else none
def opvs (s : Slots) (G : List (Nat × Bool)) : List AOpd → Option (List AV)
  | [] => some []
  | x :: r => (opv s G x).bind fun v => (opvs s G r).map fun vs => v :: vs
def opvo (s : Slots) (G : List (Nat × Bool)) : Option AOpd → Option (Option AV)
  | none => some none
  | some x => (opv s G x).map some

def allF : List AV → Option (List FV)
  | [] => some []
  | .f v :: r => (allF r).map fun vs => v :: vs
  | _ :: _ => none
def mkAgg (cs : List AV) : AV := match allF cs with
  | some fs => .f (.agg fs)
  | none => .agg cs
def acells : AV → Option (List AV)
  | .agg cs => some cs
  | .f (.agg cs) => some (cs.map .f)
  | .f (.tup _) => none
  | .tup _ => none
  | .junk => none
  | v => some [v]
def rdF (ag : Bool) (sz : Nat) (cs : List FV) (off : Nat) : Option FV :=
  bif ag then (let xs := (cs.drop off).take sz; bif xs.length == sz then some (.agg xs) else none) else cs[off]?
def rdA (ag : Bool) (sz : Nat) (cs : List AV) (off : Nat) : Option AV :=
  bif ag then (let xs := (cs.drop off).take sz; bif xs.length == sz then some (mkAgg xs) else none) else cs[off]?
def splice {α : Type} (cs : List α) (off : Nat) (xs : List α) : Option (List α) :=
  bif Nat.ble (off + xs.length) cs.length then some (cs.take off ++ xs ++ cs.drop (off + xs.length)) else none

/-! what an own value reads as -/
def frzL (fz : AV → Option FV) : List AV → Option (List FV)
  | [] => some []
  | v :: r => (fz v).bind fun x => (frzL fz r).map fun xs => x :: xs
def frzE (fz : AV → Option FV) (T : Sch) : List (List AV) → Option (List T.den)
  | [] => some []
  | e :: r => ((frzL fz e).bind T.dec).bind fun x => (frzE fz T r).map fun xs => x :: xs
def frz (m : Mem) : Nat → AV → Option FV
  | 0, .f v => some v
  | 0, _ => none
  | d + 1, v => match v with
    | .f v => some v
    | .agg cs => (frzL (frz m d) cs).map .agg
    | .ptr k off => match m[k]? with
      | some (.box _ cs) => (frzL (frz m d) cs).map fun xs => .fpt xs off
      | _ => none
    | .sl k sz off len => match m[k]? with
      | some (.row T l) => bif T.size == sz then some (.fs T ((l.drop off).take len)) else none
      | some (.arow T es) => bif T.size == sz then (frzE (frz m d) T ((es.drop off).take len)).map fun l => .fs T l else none
      | _ => none
    | .fn f caps => (frzL (frz m d) caps).map fun xs => .fn f xs
    | .mp k => match m[k]? with
      | some (.mset l) => some (.fmap l)
      | _ => none
    | .slx k len => match m[k]? with
      | some (.row T l) => bif T.size == 1 then some (.fs T (l.take len)) else none
      | _ => none
    | _ => none

mutual
def flatF : FV → Bool
  | .fs _ _ | .nils | .fpt _ _ | .fn _ _ | .fmap _ => false
  | .agg cs | .tup cs => flatFs cs
  | _ => true
def flatFs : List FV → Bool
  | [] => true
  | v :: r => flatF v && flatFs r
end

def binI (op : BinOp) (k : IntKind) (a b : Int) : Option (FV × Bool) :=
  match op with
  | .add => some (.int k (k.wrap (a + b)), true)
  | .sub => some (.int k (k.wrap (a - b)), true)
  | .mul => some (.int k (k.wrap (a * b)), true)
  | .eql => some (.bool (a == b), true)
  | .neq => some (.bool (a != b), true)
  | .lss => some (.bool (decide (a < b)), true)
  | .leq => some (.bool (decide (a ≤ b)), true)
  | .gtr => some (.bool (decide (a > b)), true)
  | .geq => some (.bool (decide (a ≥ b)), true)
  | .rem => some (.int k (a.tmod b), !(b == 0))
  | .quo => some (.int k (k.wrap (a.tdiv b)), !(b == 0))
  | .and => some (.int k (k.wrap (BitVec.ofInt k.bits a &&& BitVec.ofInt k.bits b).toNat), true)
  | .or => some (.int k (k.wrap (BitVec.ofInt k.bits a ||| BitVec.ofInt k.bits b).toNat), true)
  | .xor => some (.int k (k.wrap (BitVec.ofInt k.bits a ^^^ BitVec.ofInt k.bits b).toNat), true)
  | .andNot => some (.int k (k.wrap (BitVec.ofInt k.bits a &&& ~~~ BitVec.ofInt k.bits b).toNat), true)
  | _ => none
def shiftI (op : BinOp) (k : IntKind) (a b : Int) : Option (FV × Bool) :=
  match op with
  | .shl => some (.int k (k.wrap (a * 2 ^ (min b.toNat k.bits))), decide (0 ≤ b))
  | .shr => some (.int k (a.fdiv (2 ^ (min b.toNat k.bits))), decide (0 ≤ b))
  | _ => none
def strB (op : BinOp) (a b : List UInt8) : Option (FV × Bool) :=
  match op with
  | .eql => some (.bool (a == b), true)
  | .neq => some (.bool (!(a == b)), true)
  | _ => none
def evBin (op : BinOp) (x y : AV) : Option (FV × Bool) :=
  match x, y with
  | .f (.int k a), .f (.int j b) => match op with
    | .shl | .shr => shiftI op k a b
    | _ => bif decide (k = j) then binI op k a b else none
  | .f (.str a), .f (.str b) => strB op a b
  | _, _ => none
/-- Equality of flat cells. -/
def eqCell : Nat → FV → FV → Option Bool
  | 1, .int k a, .int j b => bif decide (k = j) then some (a == b) else none
  | 0, .bool a, .bool b => some (a == b)
  | 2, .str a, .str b => some (a == b)
  | _, _, _ => none
def eqCells (xs ys : List FV) : List (Nat × Nat) → Option Bool
  | [] => some true
  | o :: r => (xs[o.1]?).bind fun x => (ys[o.1]?).bind fun y => (eqCell o.2 x y).bind fun b => match r with
    | [] => some b
    | _ => (eqCells xs ys r).map fun c => b && c

def pickV (c : Bool) (a b : AV) : Option AV :=
  match a, b with
  | .f (.bool x), .f (.bool y) => some (.f (.bool (bif c then x else y)))
  | .f (.int k x), .f (.int j y) => bif decide (k = j) then some (.f (.int k (bif c then x else y))) else none
  | _, _ => none

/-- A call that changes own memory: what it gives on these values in this memory, the memory behind it, the premise. -/
structure EntM where
  f : Nat
  run : List AV → Mem → Option (AV × Mem × Bool)
  /-- The same, where a guard says whether it comes to the call. -/
  runG : Bool → List AV → Mem → Option (AV × Mem × Bool)
  /-- The objects that the call may change, of those that are there; none: any. -/
  wr : List AV → Option (List Nat)
structure Env where
  p : List Ent
  m : List EntM
def entMOf : List EntM → Nat → Option EntM
  | [], _ => none
  | e :: r, f => bif e.f == f then some e else entMOf r f
def callM (Γ : List EntM) (m : Mem) (f : Nat) (args : List AV) : Option (AV × Mem × Bool) :=
  match entMOf Γ f with
  | some e => e.run args m
  | none => none
def callMG (Γ : List EntM) (h : Bool) (m : Mem) (f : Nat) (args : List AV) : Option (AV × Mem × Bool) :=
  match entMOf Γ f with
  | some e => e.runG h args m
  | none => none
/-- Do all guards hold? (Each one's own guards are among them.) -/
def holdG (s : Slots) (G0 : List (Nat × Bool)) : List (Nat × Bool) → Option Bool
  | [] => some true
  | (t, want) :: r => bif subB (get s t).1 G0 then (match (get s t).2 with
    | .f (.bool b) => (holdG s G0 r).map fun x => (b == want) && x
    | _ => none) else none
/-- A call by its contract (the first entry that takes such data): the data handed back, the premise. -/
def callF : List Ent → Nat → List FV → Option (FV × Bool)
  | [], _, _ => none
  | e :: r, f, args => bif e.f == f then (match VSs.dec e.A args with
    | some x => some (outOf (VSs.enc e.R (e.g x)), e.pre x)
    | none => callF r f args) else callF r f args
mutual
/-- No cell of it is a bool. -/
def Cell.nob : Cell → Bool
  | .bool => false
  | .mp => false
  | .sl s => s.nob
  | _ => true
def Sch.nob : Sch → Bool
  | .nil => true
  | .cons c s => c.nob && s.nob
end
def nobR : FV → Bool
  | .fs T _ => T.nob
  | _ => false
/-- Data, or a whole row of bools; the premise. -/
def xArg (m : Mem) : AV → Option Bool
  | .f _ => some true
  | .slx k len => match m[k]? with
    | some (.row (.cons .bool .nil) l) => some (decide (len = l.length))
    | _ => none
  | _ => none
def xArgs (m : Mem) : List AV → Option Bool
  | [] => some true
  | v :: r => (xArg m v).bind fun a => (xArgs m r).map fun b => a && b
def callA (Γ : Env) (m : Mem) (f : Nat) (args : List AV) : Option (AV × Mem × Bool) :=
  match allF args with
  | some fs => (callF Γ.p f fs).map fun r => (.f r.1, m, r.2)
  | none => (frzL (frz m 8) args).bind fun fs => (callF Γ.p f fs).bind fun r => bif flatF r.1 then some (.f r.1, m, r.2) else bif nobR r.1 then (xArgs m args).map fun b => (.f r.1, m, r.2 && b) else none

def fills (cs : List AV) : List (Nat × Nat × AV) → Option (List AV)
  | [] => some cs
  | (off, sz, v) :: r => (acells v).bind fun xs => bif xs.length == sz then (splice cs off xs).bind fun cs' => fills cs' r else none
def fillE (es : List (List AV)) (sz : Nat) : List (Nat × AV) → Option (List (List AV))
  | [] => some es
  | (i, v) :: r => (acells v).bind fun xs => bif xs.length == sz && Nat.blt i es.length then fillE (es.set i xs) sz r else none
def opvP3 (s : Slots) (G : List (Nat × Bool)) : List (Nat × Nat × AOpd) → Option (List (Nat × Nat × AV))
  | [] => some []
  | (a, b, x) :: r => (opv s G x).bind fun v => (opvP3 s G r).map fun vs => (a, b, v) :: vs
def opvP2 (s : Slots) (G : List (Nat × Bool)) : List (Nat × AOpd) → Option (List (Nat × AV))
  | [] => some []
  | (a, x) :: r => (opv s G x).bind fun v => (opvP2 s G r).map fun vs => (a, v) :: vs

/-- The most elements that a slice may come to by append. -/
def roomy : Nat := 1048576

def ok1 (v : AV) (m : Mem) : Option (AV × Mem × Bool) := some (v, m, true)

/-- What lies in a node. -/
def ndL (k : Nat) (x : Nd) : List AV := [.ndo k x.c0, .ndo k x.c1, .f (.bool x.has), .f (.int .i64 x.val)]
/-- A pointer to a node of the tree k, as a number. -/
def asNd (k : Nat) : AV → Option (Option Nat)
  | .f .nilp => some none
  | .ptr j 0 => bif j == k then some (some 0) else none
  | .nd j i 0 => bif j == k then some (some i) else none
  | .ndo j o => bif j == k then some o else none
  | _ => none
def asNds (k : Nat) : List AV → Option (List (Option Nat))
  | [] => some []
  | v :: r => (asNd k v).bind fun x => (asNds k r).map fun xs => x :: xs
def ndWr (k : Nat) (x : Nd) (v : AV) : Nat → Option Nd
  | 0 => (asNd k v).map fun o => ⟨o, x.c1, x.has, x.val⟩
  | 1 => (asNd k v).map fun o => ⟨x.c0, o, x.has, x.val⟩
  | 2 => match v with
    | .f (.bool b) => some ⟨x.c0, x.c1, b, x.val⟩
    | _ => none
  | 3 => match v with
    | .f (.int .i64 n) => some ⟨x.c0, x.c1, x.has, n⟩
    | _ => none
  | _ => none
/-- A cell of a tree written. -/
def arWr (k : Nat) (p : Option (Nat × List Nat)) (l : List Nd) (sz : Int) (i off : Nat) (v : AV) : Option MObj := match i, off with
  | 0, 4 => match v with
    | .f (.int .i64 n) => some (.arena p l n)
    | _ => none
  | i, off => (ndWr k (l.getD i Nd.z) v off).map fun x => .arena p (l.set i x) sz
/-- An own box that is a node. -/
def asNode (k : Nat) : List AV → Option Nd
  | [a, b, .f (.bool h), .f (.int .i64 n)] => (asNd k a).bind fun x => (asNd k b).map fun y => ⟨x, y, h, n⟩
  | _ => none

def loadA (m : Mem) (ag : Bool) (sz : Nat) : AV → Option AV
  | .f (.fpt cs off) => (rdF ag sz cs off).map .f
  | .ptr k off => match m[k]? with
    | some (.box _ cs) => rdA ag sz cs off
    | some (.arena _ l n) => rdA ag sz (ndL k (l.getD 0 Nd.z) ++ [.f (.int .i64 n)]) off
    | _ => none
  | .nd k i off => match m[k]? with
    | some (.arena _ l _) => rdA ag sz (ndL k (l.getD i Nd.z)) off
    | _ => none
  | .ndx k i n => match m[k]? with
    | some (.arena _ l _) => bif ag then none else some (.ndo k ((l.getD i Nd.z).ch n))
    | _ => none
  | .bx k n => match m[k]? with
    | some (.nrow j l) => bif ag then none else some (.ndo j (l.getD n.toNat none))
    | _ => none
  | .eptr k z i off => match m[k]? with
    | some (.row T l) => bif T.size == z then (rdF ag sz (T.enc (l.getD i T.dflt)) off).map .f else none
    | some (.arow T es) => bif T.size == z then (es[i]?).bind fun cs => rdA ag sz cs off else none
    | _ => none
  | _ => none
def storeA (m : Mem) (sz : Nat) (a v : AV) : Option Mem :=
  (acells v).bind fun xs =>
  bif xs.length == sz then
    match a with
    | .ptr k off => match m[k]? with
      | some (.box p cs) => (splice cs off xs).map fun cs' => m.set k (.box p cs')
      | some (.arena p l n) => match xs with
        | [x] => (arWr k p l n 0 off x).map fun o => m.set k o
        | _ => none
      | _ => none
    | .nd k i off => match m[k]?, xs with
      | some (.arena p l n), [x] => (ndWr k (l.getD i Nd.z) x off).map fun y => m.set k (.arena p (l.set i y) n)
      | _, _ => none
    | .ndx k i b => match m[k]?, xs with
      | some (.arena p l n), [x] => match asNd k x with
        | some o => some (m.set k (.arena p (l.set i ((l.getD i Nd.z).put b o)) n))
        | none => match x with
          | .ptr j 0 => match m[j]? with
            | some (.box none cs) => (asNode k cs).map fun y => (m.set j .dead).set k (.arena p (l.set i ((l.getD i Nd.z).put b (some l.length)) ++ [y]) n)
            | _ => none
          | _ => none
      | _, _ => none
    | .bx k n => match m[k]?, xs with
      | some (.nrow j l), [x] => (asNd j x).map fun o => m.set k (.nrow j (l.set n.toNat o))
      | _, _ => none
    | .eptr k z i off => match m[k]? with
      | some (.row T l) => bif T.size == z then (allF xs).bind fun fs => (splice (T.enc (l.getD i T.dflt)) off fs).bind fun cs => (T.dec cs).map fun x => m.set k (.row T (l.set i x)) else none
      | some (.arow T es) => bif T.size == z then (es[i]?).bind fun cs => (splice cs off xs).map fun cs' => m.set k (.arow T (es.set i cs')) else none
      | _ => none
    | _ => none
  else none

def ixA (sz : Nat) (x : AV) (n : Int) : Option (AV × Bool) :=
  match x with
  | .f (.fs T l) => bif T.size == sz then some (.f (.fpt (T.enc (l.getD n.toNat T.dflt)) 0), decide (0 ≤ n) && decide (n < (l.length : Int))) else none
  | .sl k z off len => bif z == sz then some (.eptr k z (off + n.toNat) 0, decide (0 ≤ n) && decide (n < (len : Int))) else none
  | .slx k len => bif 1 == sz then some (.eptr k 1 n.toNat 0, decide (0 ≤ n) && decide (n < (len : Int))) else none
  | _ => none
def loOf : Option AV → Option Int
  | none => some 0
  | some (.f (.int _ n)) => some n
  | _ => none
def hiOf (d : Int) : Option AV → Option Int
  | none => some d
  | some (.f (.int _ n)) => some n
  | _ => none
def slcA (sz : Nat) (x : AV) (lo hi : Option AV) : Option (AV × Bool) :=
  (loOf lo).bind fun l =>
  match x with
  | .f (.fs T xs) => bif T.size == sz then (hiOf xs.length hi).map fun h => (.f (.fs T ((xs.drop l.toNat).take (h.toNat - l.toNat))), decide (0 ≤ l) && decide (l ≤ h) && decide (h ≤ (xs.length : Int))) else none
  | .sl k z off len => bif z == sz then (hiOf len hi).map fun h => (.sl k z (off + l.toNat) (h.toNat - l.toNat), decide (0 ≤ l) && decide (l ≤ h) && decide (h ≤ (len : Int))) else none
  | .f .nils => (hiOf 0 hi).map fun h => (.f .nils, decide (0 ≤ l) && decide (l ≤ h) && decide (h ≤ 0))
  | _ => none

def asF : AV → Option FV
  | .f v => some v
  | _ => none
/-- What append is handed, as data. -/
def appSrc (m : Mem) (T : Sch) : AV → Option (List T.den)
  | .f (.fs U l) => (U.same T).map fun h => castL h l
  | .f .nils => some []
  | .sl k z off len => match m[k]? with
    | some (.row U l) => bif U.size == z then (U.same T).map fun h => castL h ((l.drop off).take len) else none
    | some (.arow U es) => bif U.size == z && U.size == T.size then frzE asF T ((es.drop off).take len) else none
    | _ => none
  | _ => none
/-- The same, the elements as values of the call's own. -/
def appSrcA (m : Mem) (sz : Nat) : AV → Option (List (List AV))
  | .sl k z off len => match m[k]? with
    | some (.arow U es) => bif U.size == z && U.size == sz then some ((es.drop off).take len) else none
    | _ => none
  | _ => none
/-- append: the slice, the memory, the premise. -/
def appA (m : Mem) (T : Sch) (x y : AV) : Option (AV × Mem × Bool) :=
  match x with
  | .f .nils => match appSrc m T y with
    | some ys => some (.sl m.length T.size 0 ys.length, m ++ [.row T ys], decide (ys.length ≤ roomy))
    | none => (appSrcA m T.size y).map fun es => (.sl m.length T.size 0 es.length, m ++ [.arow T es], decide (es.length ≤ roomy))
  | .sl k z off len => bif (off == 0) && (z == T.size) then match m[k]? with
    | some (.row U l) => (U.same T).bind fun h => (appSrc m T y).map fun ys =>
        (.sl m.length T.size 0 (len + ys.length), m.set k .dead ++ [.row T (castL h l ++ ys)], decide (len = l.length) && decide (len + ys.length ≤ roomy))
    | some (.arow U es) => bif U.size == T.size then match (frzE asF T es).bind fun l => (appSrc m T y).map fun ys => (l, ys) with
      | some (l, ys) => some (.sl m.length T.size 0 (len + ys.length), m.set k .dead ++ [.row T (l ++ ys)], decide (len = es.length) && decide (len + ys.length ≤ roomy))
      | none => (appSrcA m T.size y).map fun fs => (.sl m.length T.size 0 (len + fs.length), m.set k .dead ++ [.arow T (es ++ fs)], decide (len = es.length) && decide (len + fs.length ≤ roomy))
      else none
    | _ => none
    else none
  | _ => none

/-- What make gives. -/
def mkSl (T : Sch) (k n : Nat) : AV := match T with
  | .cons .bool .nil => .slx k n
  | T => .sl k T.size 0 n

/-- One operation on its operands' values. -/
def exOp (Γ : Env) (s : Slots) (G : List (Nat × Bool)) (m : Mem) : AOp → Option (AV × Mem × Bool)
  | .mov x => (opv s G x).bind fun v => ok1 v m
  | .pick c a b => (opv s G (.t c)).bind fun cv => (opv s ((c, true) :: G) a).bind fun va => (opv s ((c, false) :: G) b).bind fun vb =>
      match cv with
      | .f (.bool t) => (pickV t va vb).bind fun v => ok1 v m
      | _ => none
  | .box x => (opv s G x).bind fun v => (acells v).bind fun cs => ok1 (.ptr m.length 0) (m ++ [.box none cs])
  | .alloc z => ok1 (.ptr m.length 0) (m ++ [.box none z])
  | .build z ps => (opvP3 s G ps).bind fun vs => (fills z vs).bind fun cs => ok1 (mkAgg cs) m
  | .bslice T _ z n ps => (opvP2 s G ps).bind fun vs => bif z.length == T.size then (fillE (List.replicate n z) T.size vs).bind fun es => ok1 (.sl m.length T.size 0 n) (m ++ [.arow T es]) else none
  | .bslF T z n ps => (opvP2 s G ps).bind fun vs => bif z.length == T.size then (fillE (List.replicate n z) T.size vs).bind fun es => (frzE asF T es).bind fun l => ok1 (.f (.fs T l)) m else none
  | .load ag sz a => (opv s G a).bind fun p => (loadA m ag sz p).bind fun v => ok1 v m
  | .store sz a x => (opv s G a).bind fun p => (opv s G x).bind fun v => (storeA m sz p v).bind fun m' => ok1 .junk m'
  | .bin op x y => (opv s G x).bind fun a => (opv s G y).bind fun b => (evBin op a b).map fun r => (.f r.1, m, r.2)
  | .eqa neg offs x y => (opv s G x).bind fun a => (opv s G y).bind fun b => match a, b with
      | .f (.agg xs), .f (.agg ys) => (eqCells xs ys offs).map fun r => (.f (.bool (bif neg then !r else r)), m, true)
      | _, _ => none
  | .eqb neg x y => (opv s G x).bind fun a => (opv s G y).bind fun b => match a, b with
      | .f (.bool p), .f (.bool q) => ok1 (.f (.bool (bif neg then !(p == q) else (p == q)))) m
      | _, _ => none
  | .un op x => (opv s G x).bind fun a => match op, a with
      | .not, .f (.bool b) => ok1 (.f (.bool !b)) m
      | .xor, .f (.int k n) => ok1 (.f (.int k (k.wrap (BitVec.ofInt k.bits (if k.signed then -1 else k.max) ^^^ BitVec.ofInt k.bits n).toNat))) m
      | .neg, .f (.int k n) => ok1 (.f (.int k (k.wrap (0 - n)))) m
      | _, _ => none
  | .conv k x => (opv s G x).bind fun a => match a with
      | .f (.int _ n) => ok1 (.f (.int k (k.wrap n))) m
      | _ => none
  | .convS x => (opv s G x).bind fun a => match a with
      | .f (.str l) => ok1 (.f (.str l)) m
      | _ => none
  | .fld off x => (opv s G x).bind fun a => match a with
      | .f (.fpt cs o) => ok1 (.f (.fpt cs (o + off))) m
      | .ptr k o => ok1 (.ptr k (o + off)) m
      | .eptr k z i o => ok1 (.eptr k z i (o + off)) m
      | .nd k i o => ok1 (.nd k i (o + off)) m
      | _ => none
  | .ixn n x i => (opv s G x).bind fun a => (opv s G i).bind fun j => match j with
      | .f (.int _ v) => match a with
        | .nd k i 0 => bif n == 2 then some (.ndx k i v, m, decide (0 ≤ v) && decide (v < 2)) else none
        | .ptr k 0 => match m[k]? with
          | some (.arena _ _ _) => bif n == 2 then some (.ndx k 0 v, m, decide (0 ≤ v) && decide (v < 2)) else none
          | some (.nrow _ l) => some (.bx k v, m, decide (0 ≤ v) && decide (v < (n : Int)) && decide (n = l.length))
          | _ => none
        | _ => none
      | _ => none
  | .fldv ag off sz x => (opv s G x).bind fun a => match a with
      | .f (.agg cs) => (rdF ag sz cs off).bind fun v => ok1 (.f v) m
      | .agg cs => (rdA ag sz cs off).bind fun v => ok1 v m
      | _ => none
  | .ixa sz x i => (opv s G x).bind fun a => (opv s G i).bind fun j => match j with
      | .f (.int _ n) => (ixA sz a n).map fun r => (r.1, m, r.2)
      | _ => none
  | .ixs x i => (opv s G x).bind fun a => (opv s G i).bind fun j => match a, j with
      | .f (.str l), .f (.int _ n) => some (.f (.int .u8 ((l.getD n.toNat 0).toNat : Int)), m, decide (0 ≤ n) && decide (n < (l.length : Int)))
      | _, _ => none
  | .gix g i => (opv s G i).bind fun j => match j with
      | .f (.int _ n) => (globOf globs g).map fun t => (.f (.fpt [.int t.1 (t.2.getD n.toNat 0)] 0), m, decide (0 ≤ n) && decide (n < (t.2.length : Int)))
      | _ => none
  | .slc sz x lo hi => (opv s G x).bind fun a => (opvo s G lo).bind fun l => (opvo s G hi).bind fun h => (slcA sz a l h).map fun r => (r.1, m, r.2)
  | .slcs x lo hi => (opv s G x).bind fun a => (opvo s G lo).bind fun l => (opvo s G hi).bind fun h => match a with
      | .f (.str s) => (loOf l).bind fun l => (hiOf s.length h).map fun h => (.f (.str ((s.drop l.toNat).take (h.toNat - l.toNat))), m, decide (0 ≤ l) && decide (l ≤ h) && decide (h ≤ (s.length : Int)))
      | _ => none
  | .lens x => (opv s G x).bind fun a => match a with
      | .f (.str l) => ok1 (.f (.int .i64 (l.length : Int))) m
      | _ => none
  | .len x => (opv s G x).bind fun a => match a with
      | .f (.fs _ l) => ok1 (.f (.int .i64 (l.length : Int))) m
      | .f .nils => ok1 (.f (.int .i64 0)) m
      | .sl _ _ _ len => ok1 (.f (.int .i64 (len : Int))) m
      | .slx _ len => ok1 (.f (.int .i64 (len : Int))) m
      | _ => none
  | .call f args => (opvs s G args).bind fun vs => callA Γ m f vs
  | .callm f args => match G with
      | [] => (opvs s G args).bind fun vs => callM Γ.m m f vs
      | _ => (holdG s G G).bind fun h => (opvs s G args).bind fun vs => callMG Γ.m h m f vs
  | .callv x args => (opv s G x).bind fun c => (opvs s G args).bind fun vs => match c with
      | .f (.fn f caps) => callA Γ m f (vs ++ caps.map .f)
      | .fn f caps => callA Γ m f (vs ++ caps)
      | _ => none
  | .mkfn f caps => (opvs s G caps).bind fun vs => ok1 (.fn f vs) m
  | .app T _ x y => (opv s G x).bind fun a => (opv s G y).bind fun b => appA m T a b
  | .ext i x => (opv s G x).bind fun a => match a with
      | .f (.tup vs) => (vs[i]?).bind fun v => ok1 (.f v) m
      | .tup vs => (vs[i]?).bind fun v => ok1 v m
      | _ => none
  | .nilchk x => (opv s G x).bind fun a => match a with
      | .f (.fpt cs o) => ok1 (.f (.fpt cs o)) m
      | .f (.fn f c) => ok1 (.f (.fn f c)) m
      | .fn f c => ok1 (.fn f c) m
      | .ptr k o => ok1 (.ptr k o) m
      | .eptr k z i o => ok1 (.eptr k z i o) m
      | .nd k i o => ok1 (.nd k i o) m
      | .ndo k o => some (.nd k (o.getD 0) 0, m, o.isSome)
      | _ => none
  | .nil0 => ok1 (.f .nils) m
  | .mkm n => (opv s G n).bind fun j => match j with
      | .f (.int _ _) => ok1 (.mp m.length) (m ++ [.mset []])
      | _ => none
  | .mput x k => (opv s G x).bind fun a => (opv s G k).bind fun j => match a, j with
      | .mp q, .f (.int .i64 n) => match m[q]? with
        | some (.mset l) => ok1 .junk (m.set q (.mset (l ++ [n])))
        | _ => none
      | _, _ => none
  | .mget x k => (opv s G x).bind fun a => (opv s G k).bind fun j => match a, j with
      | .f (.fmap l), .f (.int .i64 n) => ok1 (.f (.bool (l.any fun y => y == n))) m
      | _, _ => none
  | .mm mx x y => (opv s G x).bind fun a => (opv s G y).bind fun b => match a, b with
      | .f (.int k p), .f (.int j q) => bif decide (k = j) then ok1 (.f (.int k (bif mx then (bif decide (q > p) then q else p) else (bif decide (q < p) then q else p)))) m else none
      | _, _ => none
  | .nilq neg x => (opv s G x).bind fun a => match a with
      | .f (.fs T l) => bif Nat.blt 0 T.size then ok1 (bif neg then .unkB True (l = []) else .unkB (l = []) True) m else none
      | .f .nils => ok1 (.unkB True True) m
      | .sl _ _ _ len => ok1 (bif neg then .unkB True (len = 0) else .unkB (len = 0) True) m
      | _ => none
  | .nilpq neg x => (opv s G x).bind fun a => match a with
      | .f .nilp => ok1 (.f (.bool (!neg))) m
      | .f (.fpt _ _) => ok1 (.f (.bool neg)) m
      | .ptr _ _ => ok1 (.f (.bool neg)) m
      | .eptr _ _ _ _ => ok1 (.f (.bool neg)) m
      | .nd _ _ _ => ok1 (.f (.bool neg)) m
      | .ndo _ o => ok1 (.f (.bool (bif neg then o.isSome else o.isNone))) m
      | _ => none
  | .capn x => (opv s G x).bind fun a => match a with
      | .f .nils => ok1 (.f (.int .i64 0)) m
      | _ => none
  | .appz T x n => (opv s G x).bind fun a => (opv s G n).bind fun j => match a, j with
      | .f .nils, .f (.int .i64 n) => some (.sl m.length T.size 0 n.toNat, m ++ [.row T (List.replicate n.toNat T.dflt)], decide (0 ≤ n) && decide (n ≤ (roomy : Int)))
      | _, _ => none
  | .mks T n => (opv s G n).bind fun j => match j with
      | .f (.int .i64 n) => some (mkSl T m.length n.toNat, m ++ [.row T (List.replicate n.toNat T.dflt)], decide (0 ≤ n) && decide (n ≤ (roomy : Int)))
      | _ => none
  | .clr T x => (opv s G x).bind fun a => match a with
      | .f .nils => ok1 .junk m
      | .sl k z off len => match m[k]? with
        | some (.row U l) => (U.same T).bind fun _ => bif U.size == z then ok1 .junk (m.set k (.row U (l.take off ++ List.replicate len U.dflt ++ l.drop (off + len)))) else none
        | _ => none
      | _ => none

/-- The guards under which an operation runs. -/
def guardsOf (s : Slots) : Option (Nat × Bool) → List (Nat × Bool)
  | none => []
  | some (t, want) => (t, want) :: (get s t).1
/-- All guards hold. -/
def holdB (s : Slots) : List (Nat × Bool) → Option Bool
  | [] => some true
  | (t, want) :: r => match (get s t).2 with
    | .f (.bool b) => (holdB s r).map fun x => (b == want) && x
    | _ => none
def addVc (vc : Bool) (s : Slots) (G : List (Nat × Bool)) (b : Bool) : Option Bool :=
  match G with
  | [] => some (vc && b)
  | _ => (holdB s G).map fun h => vc && (b || !h)

/-- 'true' to the letter? (A symbolic Bool is not asked.) -/
structure RS where
  st : St
  vc : Bool

def putS (d : Option Nat) (G : List (Nat × Bool)) (v : AV) (s : Slots) : Slots :=
  match d with
  | none => s
  | some t => (t, G, v) :: s

/-- Does the operation bear a premise? -/
def hasVc : AOp → Bool
  | .ixa .. | .ixs .. | .gix .. | .slc .. | .slcs .. | .call .. | .callm .. | .callv .. | .app .. | .appz .. | .mks .. | .ixn .. | .nilchk .. => true
  | .bin .shl _ _ | .bin .shr _ _ | .bin .rem _ _ | .bin .quo _ _ => true
  | _ => false

def evOper (Γ : Env) (o : AOper) (r : RS) : Option RS :=
  let G := guardsOf r.st.s o.guard
  (exOp Γ r.st.s G r.st.m o.op).bind fun x =>
    let st' : St := ⟨putS o.dst G x.1 r.st.s, x.2.1⟩
    bif hasVc o.op then (addVc r.vc r.st.s G x.2.2).map fun vc => ⟨st', vc⟩ else some ⟨st', r.vc⟩

def evOps (Γ : Env) : List AOper → RS → Option RS
  | [], r => some r
  | o :: os, r => (evOper Γ o r).bind (evOps Γ os)

/-- The object that an address or a slice points to: none, if it is data. -/
def objV : AV → Option (List Nat)
  | .f _ => some []
  | .ptr k _ => some [k]
  | .eptr k _ _ _ => some [k]
  | .sl k _ _ _ => some [k]
  | .nd k _ _ => some [k]
  | .bx k _ => some [k]
  | _ => none
def objO (s : Slots) : AOpd → Option (List Nat)
  | .t n => objV (get s n).2
  | .c v => objV v
/-- The objects that an operation looks at; none: it may look at any. -/
def objsR (s : Slots) : AOp → Option (List Nat)
  | .load _ _ a => objO s a
  | .ixn _ x _ => objO s x
  | .call _ args => objA s args
  | .callv x args => objA s (x :: args)
  | .alloc _ => some []
  | _ => none
where objA (s : Slots) : List AOpd → Option (List Nat)
  | [] => some []
  | x :: r => match objO s x with
    | some [] => objA s r
    | _ => none
/-- The values of the operands, whatever guards they stand under. -/
def argsV (s : Slots) : List AOpd → List AV
  | [] => []
  | .t n :: r => (get s n).2 :: argsV s r
  | .c v :: r => v :: argsV s r
/-- The objects that an operation changes or makes; none: any. -/
def objsW (Γ : Env) (s : Slots) (o : AOper) : Option (List Nat) :=
  match o.op, o.dst with
  | .store _ (.t n) _, _ => objV (get s n).2
  | .box _, some d => objV (get s d).2
  | .alloc _, some d => objV (get s d).2
  | .bslice _ _ _ _ _, some d => objV (get s d).2
  | .app _ _ x _, some d => (objV (get s d).2).bind fun a => (objO s x).map fun b => a ++ b
  | .callm f args, some d => match entMOf Γ.m f with
    | some e => (objV (get s d).2).bind fun a => (e.wr (argsV s args)).map fun b => a ++ b
    | none => none
  | _, _ => none
def apartL : List Nat → List Nat → Bool
  | [], _ => true
  | a :: r, l => !(l.any fun b => a == b) && apartL r l
/-- The pairs of a reader and a writer that may come in either order: they meet different objects. -/
def pairsOk (Γ : Env) (s : Slots) (os : List AOper) : List (Nat × Nat) → Bool
  | [] => true
  | p :: r => match os[p.1]?, os[p.2]? with
    | some x, some y => match objsR s x.op, objsW Γ s y with
      | some a, some b => apartL a b && pairsOk Γ s os r
      | _, _ => false
    | _, _ => false

/-- Behind a region: what stands under a guard is forgotten. -/
def endE (e : Nat × List (Nat × Bool) × AV) : Nat × List (Nat × Bool) × AV := bif e.2.1.isEmpty then e else (e.1, [], .junk)
def endR (s : Slots) : Slots := s.map endE

inductive Out where
  | norm | exit (id : Nat) | ret

/-! ### At a loop's head: the live slots alone, the memory that they reach -/
mutual
def refsV : AV → List Nat
  | .agg cs => refsVs cs
  | .ptr k _ => [k]
  | .eptr k _ _ _ => [k]
  | .sl k _ _ _ => [k]
  | .nd k _ _ => [k]
  | .ndo k _ => [k]
  | .ndx k _ _ => [k]
  | .bx k _ => [k]
  | .slx k _ => [k]
  | .mp k => [k]
  | .fn _ cs => refsVs cs
  | _ => []
def refsVs : List AV → List Nat
  | [] => []
  | v :: r => refsV v ++ refsVs r
end
def refsE : List (List AV) → List Nat
  | [] => []
  | e :: r => refsVs e ++ refsE r
def refsO : MObj → List Nat
  | .box _ cs => refsVs cs
  | .arow _ es => refsE es
  | .nrow k _ => [k]
  | _ => []
def isIn (k : Nat) : List Nat → Bool
  | [] => false
  | j :: r => (k == j) || isIn k r
def reach (m : Mem) : Nat → List Nat → List Nat → List Nat
  | 0, _, acc => acc
  | _, [], acc => acc
  | n + 1, k :: r, acc => bif isIn k acc then reach m n r acc else reach m n (r ++ (match m[k]? with | some o => refsO o | none => [])) (acc ++ [k])
def posOf (ks : List Nat) (k : Nat) : Nat → Option Nat
  | i => match ks with
    | [] => none
    | j :: r => bif j == k then some i else posOf r k (i + 1)
mutual
def renV (ks : List Nat) : AV → Option AV
  | .agg cs => (renVs ks cs).map .agg
  | .ptr k o => (posOf ks k 0).map fun j => .ptr j o
  | .eptr k z i o => (posOf ks k 0).map fun j => .eptr j z i o
  | .sl k z o l => (posOf ks k 0).map fun j => .sl j z o l
  | .nd k i o => (posOf ks k 0).map fun j => .nd j i o
  | .ndo k o => (posOf ks k 0).map fun j => .ndo j o
  | .ndx k i n => (posOf ks k 0).map fun j => .ndx j i n
  | .bx k n => (posOf ks k 0).map fun j => .bx j n
  | .slx k n => (posOf ks k 0).map fun j => .slx j n
  | .mp k => (posOf ks k 0).map fun j => .mp j
  | .fn f cs => (renVs ks cs).map (.fn f)
  | .tup _ => none
  | v => some v
def renVs (ks : List Nat) : List AV → Option (List AV)
  | [] => some []
  | v :: r => (renV ks v).bind fun x => (renVs ks r).map fun xs => x :: xs
end
def renE (ks : List Nat) : List (List AV) → Option (List (List AV))
  | [] => some []
  | e :: r => (renVs ks e).bind fun x => (renE ks r).map fun xs => x :: xs
def renO (ks : List Nat) : MObj → Option MObj
  | .box p cs => (renVs ks cs).map (.box p)
  | .arow T es => (renE ks es).map (.arow T)
  | .nrow k l => (posOf ks k 0).map fun j => .nrow j l
  | o => some o
def renM (ks : List Nat) (m : Mem) : List Nat → Option Mem
  | [] => some []
  | k :: r => ((m[k]?).bind (renO ks)).bind fun o => (renM ks m r).map fun os => o :: os
/-- Nil slices that are to be grown in the loop, in slots or in cells of own boxes: empty rows of the call's own. -/
def ownN (s : Slots) : List (Nat × KP) → Mem → Slots × Mem
  | [], m => ([], m)
  | (t, .no) :: r, m => let x := ownN s r m; ((t, get s t) :: x.1, x.2)
  | (t, .dat T) :: r, m => match get s t with
    | ([], .f .nils) => let x := ownN s r m; ((t, [], .f (.fs T [])) :: x.1, x.2)
    | e => let x := ownN s r m; ((t, e) :: x.1, x.2)
  | (t, .own T) :: r, m => match get s t with
    | ([], .f .nils) => let x := ownN s r (m ++ [.row T []]); ((t, [], .sl m.length T.size 0 0) :: x.1, x.2)
    | e => let x := ownN s r m; ((t, e) :: x.1, x.2)
  | (t, .nod j) :: r, m => match get s j with
    | ([], .ptr k 0) => match asNd k (get s t).2 with
      | some o => let x := ownN s r m; ((t, (get s t).1, .ndo k o) :: x.1, x.2)
      | none => let x := ownN s r m; ((t, get s t) :: x.1, x.2)
    | _ => let x := ownN s r m; ((t, get s t) :: x.1, x.2)
  | (t, .nods j) :: r, m => match get s j with
    | ([], .ptr k 0) => match get s t with
      | ([], .ptr q 0) => match m[q]? with
        | some (.box none cs) => match asNds k cs with
          | some l => let x := ownN s r (m.set q (.nrow k l)); ((t, get s t) :: x.1, x.2)
          | none => let x := ownN s r m; ((t, get s t) :: x.1, x.2)
        | _ => let x := ownN s r m; ((t, get s t) :: x.1, x.2)
      | _ => let x := ownN s r m; ((t, get s t) :: x.1, x.2)
    | _ => let x := ownN s r m; ((t, get s t) :: x.1, x.2)
  | (t, .cell j T) :: r, m => match get s t with
    | ([], .ptr k 0) => match m[k]? with
      | some (.box p cs) => match cs[j]? with
        | some (.f .nils) => ownN s r (m.set k (.box p (cs.set j (.sl m.length T.size 0 0))) ++ [.row T []])
        | _ => ownN s r m
      | _ => ownN s r m
    | _ => ownN s r m
def refsS : Slots → List Nat
  | [] => []
  | e :: r => refsV e.2.2 ++ refsS r
def renS (ks : List Nat) : Slots → Option Slots
  | [] => some []
  | (t, G, v) :: r => (renV ks v).bind fun x => (renS ks r).map fun xs => (t, G, x) :: xs
def keepS (keep : List (Nat × KP)) (st : St) : Option St :=
  let x := ownN st.s keep st.m
  let ks := reach x.2 200 (refsS x.1) []
  (renS ks x.1).bind fun s => (renM ks x.2 ks).map fun m => ⟨s, m⟩

def live : MObj → Bool
  | .dead => false
  | _ => true
def killL : List Nat → Mem → Mem
  | [], m => m
  | k :: r, m => killL r (m.set k .dead)
/-- Own memory that nobody changes any more is data. -/
def frzV (m : Mem) (v : AV) : AV := match frz m 8 v with
  | some x => .f x
  | none => .junk
def frzS (st : St) : St := ⟨st.s.map fun e => (e.1, e.2.1, frzV st.m e.2.2), []⟩

def keepL (s : Slots) : List Nat → Slots
  | [] => []
  | t :: r => (t, get s t) :: keepL s r
def frzL2 (s : Slots) (mf : Mem) : List Nat → Slots → Slots
  | [], x => x
  | t :: r, x => (t, (get s t).1, frzV mf (get s t).2) :: frzL2 s mf r x
def frzP (fz kp : List Nat) (st : St) : Option St :=
  let ks := reach st.m 200 (refsS (keepL st.s kp)) []
  (renS ks (keepL st.s kp)).bind fun s => (renM ks st.m ks).bind fun m => bif m.all live then some ⟨frzL2 st.s (killL ks st.m) fz s, m⟩ else none

abbrev K := Out → St → Prop
/-- The loops' own laws, by number. -/
abbrev Loops := Nat → St → K → Prop

def kSeq (f : St → K → Prop) (k : K) : K
  | .norm, st => f st k
  | o, st => k o st
def kBlock (id : Nat) (k : K) : K
  | .exit i, st => cond (i == id) (k .norm st) (k (.exit i) st)
  | o, st => k o st

def kP (fz kp : List Nat) (f : St → K → Prop) (st : St) (k : K) : Prop := match frzP fz kp st with
  | some st' => f st' k
  | none => False

def evC (Γ : Env) (Λ : Loops) : ACode → St → K → Prop
  | .skip, st, k => k .norm st
  | .region ops ps, st, k => match evOps Γ ops ⟨st, true⟩ with
    | some r => cond (pairsOk Γ r.st.s ops ps) (cond r.vc (k .norm ⟨endR r.st.s, r.st.m⟩) False) False
    | none => False
  | .bad, _, _ => False
  | .seq a b, st, k => evC Γ Λ a st (kSeq (evC Γ Λ b) k)
  | .seqF a b, st, k => evC Γ Λ a st (kSeq (fun st => evC Γ Λ b (frzS st)) k)
  | .seqP fz kp a b, st, k => evC Γ Λ a st (kSeq (kP fz kp (evC Γ Λ b)) k)
  | .cond c t e, st, k => match get st.s c with
    | ([], .f (.bool b)) => cond b (evC Γ Λ t st k) (evC Γ Λ e st k)
    | ([], .unkB p q) => (p → evC Γ Λ t st k) ∧ (q → evC Γ Λ e st k)
    | _ => False
  | .block id b, st, k => evC Γ Λ b st (kBlock id k)
  | .loop n keep _, st, k => match keepS keep st with
    | some st' => Λ n st' k
    | none => False
  | .exit id, st, k => k (.exit id) st
  | .ret, st, k => k .ret st

/-- A result: a slot, or what the box at a slot's address holds. -/
inductive ARes where
  | t (n : Nat)
  | cell (n : Nat) (ag : Bool) (sz : Nat)

structure AFunc where
  ntmps : Nat
  nparams : Nat
  res : List ARes
  body : ACode

def resV (st : St) : ARes → Option FV
  | .t n => match get st.s n with
    | ([], v) => frz st.m 8 v
    | _ => none
  | .cell n ag sz => match get st.s n with
    | ([], v) => (loadA st.m ag sz v).bind (frz st.m 8)
    | _ => none
def resVs (st : St) : List ARes → Option (List FV)
  | [] => some []
  | r :: rs => (resV st r).bind fun v => (resVs st rs).map fun vs => v :: vs

def start : Nat → List FV → Slots
  | _, [] => []
  | i, v :: r => (i, [], .f v) :: start (i + 1) r

def kDone (f : AFunc) (Q : List FV → Prop) : K
  | .norm, st | .ret, st => match resVs st f.res with
    | some vs => Q vs
    | none => False
  | .exit _, _ => False

/-- The whole function on its arguments. -/
def evF (Γ : Env) (Λ : Loops) (f : AFunc) (args : List FV) (Q : List FV → Prop) : Prop :=
  evC Γ Λ f.body ⟨start 0 args, []⟩ (kDone f Q)

end Go.AM
