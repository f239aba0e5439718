/-
  From the model's code to the compact code, and the checks under which a region's operations may come up in any order.
-/
import Derived.Test.YthjhlpbiljpccaaAmDef
namespace Go.AM

def appS : Sch → Sch → Sch
  | .nil, r => r
  | .cons c s, r => .cons c (appS s r)
def repS (s : Sch) : Nat → Sch
  | 0 => .nil
  | n + 1 => appS s (repS s n)

/-- The schema of a type: its cells, in a row. -/
def schF (f : TypeId → Option Sch) : List Field → Option Sch
  | [] => some .nil
  | x :: r => (f x.type).bind fun a => (schF f r).map fun b => appS a b
def schT (P : Program) : Nat → TypeId → Option Sch
  | 0, _ => none
  | d + 1, t => match P.underlying t with
    | some .bool => some (.cons .bool .nil)
    | some (.int k) => some (.cons (.int k) .nil)
    | some .string => some (.cons .str .nil)
    | some (.slice e) => (schT P d e).map fun s => .cons (.sl s) .nil
    | some (.struct fs) => schF (schT P d) fs.toList
    | some (.array n e) => (schT P d e).map fun s => repS s n
    | some (.map k e) => match P.underlying k, P.underlying e with
      | some (.int .i64), some .bool => some (.cons .mp .nil)
      | _, _ => none
    | _ => none

def constF : Value → Option FV
  | .bool b => some (.bool b)
  | .int k n => bif decide (k.min ≤ n) && decide (n ≤ k.max) then some (.int k n) else none
  | .string s => bif Nat.ble s.data.toList.length 4294967296 then some (.str s.data.toList) else none
  | .pointer none => some .nilp
  | .slice none 0 0 => some .nils
  | .nilFunc => some .nilf
  | .map none => some (.fmap [])
  | _ => none
def constFs : List Value → Option (List FV)
  | [] => some []
  | v :: r => (constF v).bind fun x => (constFs r).map fun xs => x :: xs
def constA : Value → Option AV
  | .agg cs => (constFs cs.toList).map fun xs => .f (.agg xs)
  | v => (constF v).map .f
def zeroA (P : Program) (t : TypeId) : Option (List AV) :=
  match P.info? t with
  | some i => match i.zero with
    | some z => (constFs z.cells.toList).map fun xs => xs.map .f
    | none => none
  | none => none

def zeroOk (P : Program) (t : TypeId) : Bool := match zeroA P t with
  | some z => z.length == P.cellsOf t
  | none => false

def cOpd : Operand → Option AOpd
  | .tmp t => some (.t t)
  | .const v => (constA v).map .c
  | .func f => some (.c (.f (.fn f [])))
  | _ => none
def cOpds : List Operand → Option (List AOpd)
  | [] => some []
  | x :: r => (cOpd x).bind fun a => (cOpds r).map fun b => a :: b
def cOpdo : Option Operand → Option (Option AOpd)
  | none => some none
  | some x => (cOpd x).map some

def isAggT (P : Program) (t : TypeId) : Bool := match P.underlying t with
  | some (.struct _) | some (.array _ _) => true
  | _ => false

def tyOk (P : Program) (t : TypeId) : Bool := (P.info? t).isSome && (P.underlying t).isSome
/-- The cells of a struct that == compares, in order: each one's place, its kind (0: bool, 1: integer, 2: string). -/
def leavesF (lv : TypeId → Option (List (Nat × Nat))) : List Field → Option (List (Nat × Nat))
  | [] => some []
  | f :: r => bif f.name == "_" then none else (lv f.type).bind fun a => (leavesF lv r).map fun b => a.map (fun p => (f.offset + p.1, p.2)) ++ b
def leaves (P : Program) : Nat → TypeId → Option (List (Nat × Nat))
  | 0, _ => none
  | d + 1, t => bif tyOk P t then match P.underlying t with
    | some .bool => some [(0, 0)]
    | some (.int _) => some [(0, 1)]
    | some .string => some [(0, 2)]
    | some (.struct fs) => bif P.stoodInHeld t then none else (leavesF (leaves P d) fs.toList).bind fun l => bif l.all fun o => Nat.blt o.1 (P.cellsOf t) then some l else none
    | _ => none
    else none

def cParts (P : Program) (fs : Array Field) : List (Nat × Operand) → Option (List (Nat × Nat × AOpd))
  | [] => some []
  | (i, x) :: r => (fs[i]?).bind fun f => (cOpd x).bind fun a => (cParts P fs r).map fun b => (f.offset, P.cellsOf f.type, a) :: b
def allTy (P : Program) : List Field → Bool
  | [] => true
  | f :: r => tyOk P f.type && allTy P r
def cPartsS : List (Nat × Operand) → Option (List (Nat × AOpd))
  | [] => some []
  | (i, x) :: r => (cOpd x).bind fun a => (cPartsS r).map fun b => (i, a) :: b

def elemN (n : Nat) : List Nat → Bool
  | [] => false
  | m :: r => (n == m) || elemN n r

/-- Each cell is the schema's own zero. -/
def zOk : Sch → List AV → Bool
  | .nil, [] => true
  | .cons .bool s, .f (.bool b) :: r => !b && zOk s r
  | .cons (.int k) s, .f (.int j n) :: r => decide (k = j) && decide (n = 0) && zOk s r
  | .cons .str s, .f (.str l) :: r => l.isEmpty && zOk s r
  | .cons (.sl _) s, .f .nils :: r => zOk s r
  | _, _ => false
/-- The zero value of a bool. -/
def zFalse (P : Program) (e : TypeId) : Bool := match P.info? e with
  | some i => match i.zero with
    | some (.bool b) => !b
    | _ => false
  | none => false
def zOkT (P : Program) (T : Sch) (e : TypeId) : Bool := match zeroA P e with
  | some z => zOk T z
  | none => false
/-- An array's elements, as fields. -/
def arrFs (n sz : Nat) (e : TypeId) : Array Field := ((List.range n).map fun i => { (default : Field) with type := e, offset := i * sz }).toArray
def cOp (P : Program) (ms : List Nat) (op : Op) : Option AOp :=
  match op with
  | .move x | .assign x => (cOpd x).map .mov
  | .pick (.tmp c) a b => (cOpd a).bind fun a => (cOpd b).map fun b => .pick c a b
  | .box _ x => (cOpd x).map .box
  | .alloc t => (zeroA P t).map .alloc
  | .buildSlice t 0 ps => match P.underlying t with
    | some (.slice e) => bif ps.isEmpty && tyOk P e then some .nil0 else none
    | _ => none
  | .build t ps => match P.underlying t with
    | some (.struct fs) => bif allTy P fs.toList then (zeroA P t).bind fun z => (cParts P fs ps.toList).map fun p => .build z p else none
    | some (.array n e) => bif tyOk P e then (zeroA P t).bind fun z => (cParts P (arrFs n (P.cellsOf e) e) ps.toList).map fun p => .build z p else none
    | _ => none
  | .buildSlice t n ps => match P.underlying t with
    | some (.slice e) => (schT P 20 e).bind fun T => (zeroA P e).bind fun z => (cPartsS ps.toList).bind fun p =>
        bif tyOk P e && Nat.blt 0 n && Nat.ble (n * P.cellsOf e) 4096 && (T.size == P.cellsOf e) && Nat.blt 0 (P.cellsOf e) then some (bif elemN 1000000 ms then .bslF T z n p else .bslice T (P.bytesOf e) z n p) else none
    | _ => none
  | .load t a => bif tyOk P t then (cOpd a).map fun a => .load (isAggT P t) (P.cellsOf t) a else none
  | .store t a v => bif tyOk P t then (cOpd a).bind fun a => (cOpd v).map fun v => .store (P.cellsOf t) a v else none
  | .binOp op t x y _ => bif isAggT P t then
      (bif P.eqGuardType P.depth t then none else match P.underlying t with
        | some (.struct _) => match op with
          | .eql => (leaves P 20 t).bind fun l => (cOpd x).bind fun x => (cOpd y).map fun y => .eqa false l x y
          | .neq => (leaves P 20 t).bind fun l => (cOpd x).bind fun x => (cOpd y).map fun y => .eqa true l x y
          | _ => none
        | _ => none)
    else match P.underlying t with
      | some .bool => match op with
        | .eql => (cOpd x).bind fun x => (cOpd y).map fun y => .eqb false x y
        | .neq => (cOpd x).bind fun x => (cOpd y).map fun y => .eqb true x y
        | _ => none
      | some (.int _) | some .string => (cOpd x).bind fun x => (cOpd y).map fun y => .bin op x y
      | some (.pointer _) => match op, y with
        | .eql, .const (.pointer none) => (cOpd x).map (.nilpq false)
        | .neq, .const (.pointer none) => (cOpd x).map (.nilpq true)
        | _, _ => none
      | some (.slice _) => match op, y with
        | .eql, .const (.slice none 0 0) => (cOpd x).map (.nilq false)
        | .neq, .const (.slice none 0 0) => (cOpd x).map (.nilq true)
        | _, _ => none
      | _ => none
  | .unOp op _ x => (cOpd x).map fun x => .un op x
  | .convert s d x => match P.underlying s, P.underlying d with
    | some (.int _), some (.int k) => (cOpd x).map fun x => .conv k x
    | some .string, some .string => (cOpd x).map .convS
    | _, _ => none
  | .fieldAddr t x i => match P.underlying t with
    | some (.struct fs) => (fs[i]?).bind fun f => bif tyOk P f.type && Nat.blt 0 (P.cellsOf f.type) then (cOpd x).map fun x => .fld f.offset x else none
    | _ => none
  | .field t x i => match P.underlying t with
    | some (.struct fs) => (fs[i]?).bind fun f => bif tyOk P f.type then (cOpd x).map fun x => .fldv (isAggT P f.type) f.offset (P.cellsOf f.type) x else none
    | _ => none
  | .indexAddr t x i => match P.underlying t with
    | some (.slice e) => bif tyOk P e && Nat.blt 0 (P.cellsOf e) then (cOpd x).bind fun x => (cOpd i).map fun i => .ixa (P.cellsOf e) x i else none
    | some (.array n e) => match i with
      | .const (.int _ v) => bif tyOk P e && Nat.blt 0 (P.cellsOf e) && decide (0 ≤ v) && decide (v < (n : Int)) then (cOpd x).map fun x => .fld (v.toNat * P.cellsOf e) x else none
      | i => match x with
        | .global g => match globOf globs g, P.underlying e with
          | some (k, l), some (.int j) => bif decide (k = j) && tyOk P e && (P.cellsOf e == 1) && (l.length == n) then (cOpd i).map (.gix g) else none
          | _, _ => none
        | x => bif tyOk P e && (P.cellsOf e == 1) then (cOpd x).bind fun x => (cOpd i).map fun i => .ixn n x i else none
    | _ => none
  | .index t x i => match P.underlying t with
    | some .string => (cOpd x).bind fun x => (cOpd i).map fun i => .ixs x i
    | _ => none
  | .slice t x lo hi none => match P.underlying t with
    | some (.slice e) => bif tyOk P e then (cOpd x).bind fun x => (cOpdo lo).bind fun lo => (cOpdo hi).map fun hi => .slc (P.cellsOf e) x lo hi else none
    | some .string => (cOpd x).bind fun x => (cOpdo lo).bind fun lo => (cOpdo hi).map fun hi => .slcs x lo hi
    | _ => none
  | .makeFunc (.func f) first caps => bif first.isEmpty then (cOpds caps.toList).map fun c => .mkfn f c else none
  | .call { callee := .builtin .len, args, argTypes } => match args.toList, argTypes.toList with
    | [x], [t] => match P.underlying t with
      | some .string => (cOpd x).map .lens
      | some (.slice _) => (cOpd x).map .len
      | _ => none
    | _, _ => none
  | .call { callee := .builtin .append, args, argTypes } => match args.toList, argTypes.toList with
    | [x, y], [t, u] => match P.underlying t, P.underlying u with
      | some (.slice e), some (.int .i64) => (schT P 20 e).bind fun T => (cOpd x).bind fun x => (cOpd y).bind fun y =>
          bif tyOk P e && zOkT P T e && (T.size == P.cellsOf e) && Nat.blt 0 (P.cellsOf e) && Nat.blt 0 (P.bytesOf e) && Nat.ble (P.bytesOf e) 4096 then some (.appz T x y) else none
      | some (.slice e), some (.slice _) => (schT P 20 e).bind fun T => (cOpd x).bind fun x => (cOpd y).bind fun y =>
          bif tyOk P e && zeroOk P e && (T.size == P.cellsOf e) && Nat.blt 0 (P.cellsOf e) && Nat.blt 0 (P.bytesOf e) && Nat.ble (P.bytesOf e) 4096 then some (.app T (P.bytesOf e) x y) else none
      | _, _ => none
    | _, _ => none
  | .call { callee := .builtin .cap, args, argTypes } => match args.toList, argTypes.toList with
    | [x], [t] => match P.underlying t with
      | some (.slice _) => (cOpd x).map .capn
      | _ => none
    | _, _ => none
  | .call { callee := .builtin .clear, args, argTypes } => match args.toList, argTypes.toList with
    | [x], [t] => match P.underlying t with
      | some (.slice e) => (schT P 20 e).bind fun T => bif tyOk P e && zOkT P T e && (T.size == P.cellsOf e) && Nat.blt 0 (P.cellsOf e) then (cOpd x).map (.clr T) else none
      | _ => none
    | _, _ => none
  | .makeSlice t (.tmp l) (.tmp c) => match P.underlying t with
    | some (.slice e) => (schT P 20 e).bind fun T => bif (l == c) && tyOk P e && zOkT P T e && (T.size == P.cellsOf e) && Nat.blt 0 (P.cellsOf e) && Nat.blt 0 (P.bytesOf e) && Nat.ble (P.bytesOf e) 4096 then some (.mks T (.t l)) else none
    | _ => none
  | .call { callee := .builtin .max, args, .. } => match args.toList with
    | [x, y] => (cOpd x).bind fun x => (cOpd y).map fun y => .mm true x y
    | _ => none
  | .call { callee := .builtin .min, args, .. } => match args.toList with
    | [x, y] => (cOpd x).bind fun x => (cOpd y).map fun y => .mm false x y
    | _ => none
  | .call { callee := .value (.func f), args, .. } => (cOpds args.toList).map fun a => bif elemN f ms then .callm f a else .call f a
  | .call { callee := .value (.tmp t), args, .. } => (cOpds args.toList).map fun a => .callv (.t t) a
  | .makeMap t (some r) => match P.underlying t with
    | some (.map k e) => match P.underlying k, P.underlying e with
      | some (.int .i64), some .bool => (cOpd r).map .mkm
      | _, _ => none
    | _ => none
  | .mapUpdate t x k (.const (.bool true)) => match P.underlying t with
    | some (.map q e) => match P.underlying q, P.underlying e with
      | some (.int .i64), some .bool => (cOpd x).bind fun x => (cOpd k).map fun k => .mput x k
      | _, _ => none
    | _ => none
  | .lookup t x k false => match P.underlying t with
    | some (.map q e) => match P.underlying q, P.underlying e with
      | some (.int .i64), some .bool => bif zFalse P e then (cOpd x).bind fun x => (cOpd k).map fun k => .mget x k else none
      | _, _ => none
    | _ => none
  | .extract x i => (cOpd x).map fun x => .ext i x
  | .nilCheck x => (cOpd x).map .nilchk
  | _ => none

def cGuard (ops : Array Oper) : Option (Nat × Bool) → Option (Option (Nat × Bool))
  | none => some none
  | some (j, want) => match ops[j]? with
    | some o => o.dst.map fun d => some (d, want)
    | none => none
def cOper (P : Program) (ms : List Nat) (ops : Array Oper) (o : Oper) : Option AOper :=
  (cGuard ops o.guard).bind fun g => (cOp P ms o.op).map fun op => ⟨o.dst, g, op⟩
def cOpers (P : Program) (ms : List Nat) (ops : Array Oper) : List Oper → Option (List AOper)
  | [] => some []
  | o :: r => (cOper P ms ops o).bind fun a => (cOpers P ms ops r).map fun b => a :: b

/-! ### The checks -/
def tmpsOf : List AOpd → List Nat
  | [] => []
  | .t n :: r => n :: tmpsOf r
  | _ :: r => tmpsOf r
def optL : Option AOpd → List AOpd
  | none => []
  | some x => [x]
def opdsOf : AOp → List AOpd
  | .mov x | .box x | .load _ _ x | .un _ x | .conv _ x | .convS x | .fld _ x | .fldv _ _ _ x | .len x | .lens x | .ext _ x | .nilchk x | .nilq _ x | .nilpq _ x | .capn x | .mks _ x | .clr _ x | .gix _ x | .mkm x => [x]
  | .pick c a b => [.t c, a, b]
  | .alloc _ | .nil0 => []
  | .build _ ps => ps.map fun p => p.2.2
  | .bslice _ _ _ _ ps => ps.map fun p => p.2
  | .bslF _ _ _ ps => ps.map fun p => p.2
  | .store _ a v => [a, v]
  | .bin _ x y | .eqa _ _ x y | .eqb _ x y | .ixa _ x y | .ixs x y | .app _ _ x y | .mm _ x y | .appz _ x y | .ixn _ x y | .mput x y | .mget x y => [x, y]
  | .slc _ x lo hi | .slcs x lo hi => x :: (optL lo ++ optL hi)
  | .call _ args | .callm _ args => args
  | .callv x args => x :: args
  | .mkfn _ caps => caps
/-- Does it look at the call's own memory? Does it change it? -/
def readsM : AOp → Bool
  | .load .. | .call .. | .callm .. | .callv .. | .ixn .. => true
  | _ => false
def writesM : AOp → Bool
  | .box .. | .alloc .. | .bslice .. | .store .. | .app .. | .callm .. | .appz .. | .mks .. | .clr .. | .mkm .. | .mput .. => true
  | _ => false

def distinctN : List Nat → Bool
  | [] => true
  | n :: r => !elemN n r && distinctN r
def dstsOf : List AOper → List Nat
  | [] => []
  | ⟨some d, _, _⟩ :: r => d :: dstsOf r
  | ⟨none, _, _⟩ :: r => dstsOf r
def unionN : List Nat → List Nat → List Nat
  | [], l => l
  | x :: r, l => bif elemN x (unionN r l) then unionN r l else x :: unionN r l
/-- All operations ahead of each, by their edges. -/
def aheadOf (acc : List (List Nat)) : List Edge → List Nat
  | [] => []
  | e :: r => bif Region.binds .any e then unionN (e.on :: (acc[e.on]?).getD []) (aheadOf acc r) else aheadOf acc r
def aheads : List Oper → List (List Nat) → List (List Nat)
  | [], acc => acc
  | o :: r, acc => aheads r (acc ++ [aheadOf acc o.after.toList])
/-- What an operation looks at: its operands, its guard's slot. -/
def looks (o : AOper) : List Nat :=
  (match o.guard with | none => [] | some (t, _) => [t]) ++ tmpsOf (opdsOf o.op)
/-- A new variable, under no guard. -/
def isAlloc (x : AOper) : Bool := match x.op with
  | .alloc _ => x.guard.isNone
  | _ => false
/-- A reader and a writer that may come in either order, if they meet different objects. -/
def loose (ps : List (Nat × Nat)) (x : AOper) (i : Nat) (y : AOper) (j : Nat) : Bool :=
  (readsM x.op && !writesM x.op && writesM y.op && elemP (i, j) ps) || (writesM x.op && readsM y.op && !writesM y.op && elemP (j, i) ps) || (isAlloc x && isAlloc y && elemP (i, j) ps)
where elemP (p : Nat × Nat) : List (Nat × Nat) → Bool
  | [] => false
  | q :: r => (p.1 == q.1 && p.2 == q.2) || elemP p r
/-- They touch by their slots. -/
def touchS (x y : AOper) : Bool :=
  (match x.dst with | some d => elemN d (looks y) | none => false) ||
  (match y.dst with | some d => elemN d (looks x) | none => false)
def touchM (x y : AOper) : Bool :=
  (writesM x.op && (readsM y.op || writesM y.op)) || (readsM x.op && writesM y.op)
def touchX (ps : List (Nat × Nat)) (x : AOper) (i : Nat) (y : AOper) (j : Nat) : Bool :=
  touchS x y || (touchM x y && !loose ps x i y j)
def waits (ps : List (Nat × Nat)) (ahs : List (List Nat)) (x : AOper) (i : Nat) : List (AOper × Nat) → Bool
  | [] => true
  | (y, j) :: r => (!touchX ps x i y j || elemN i ((ahs[j]?).getD [])) && waits ps ahs x i r
def allWait (ps : List (Nat × Nat)) (ahs : List (List Nat)) : List (AOper × Nat) → Bool
  | [] => true
  | (x, i) :: r => waits ps ahs x i r && allWait ps ahs r
/-- The pairs that a region leaves open. -/
def openW (ahs : List (List Nat)) (x : AOper) (i : Nat) : List (AOper × Nat) → List (Nat × Nat)
  | [] => []
  | (y, j) :: r => (bif touchM x y && !elemN i ((ahs[j]?).getD []) then (bif (readsM x.op && !writesM x.op) || (isAlloc x && isAlloc y) then [(i, j)] else [(j, i)]) else []) ++ openW ahs x i r
def openP (ahs : List (List Nat)) : List (AOper × Nat) → List (Nat × Nat)
  | [] => []
  | (x, i) :: r => openW ahs x i r ++ openP ahs r
/-- The slot of an address, or of a slice that is grown, is no later operation's own. -/
def adrs : AOper → List Nat
  | o => (tmpsOf (match o.op with | .load _ _ a => [a] | .store _ a _ => [a] | .call _ l => l | .callv x l => x :: l | .app _ _ x _ => [x] | .ixn _ x _ => [x] | .callm _ l => l | _ => [])) ++ o.dst.toList
def stays : List AOper → Bool
  | [] => true
  | o :: r => (r.all fun y => match y.dst with | some d => !elemN d (adrs o) | none => true) && (match o.dst with | some d => !elemN d (looks o) | none => true) && stays r
def onBack : Nat → List Oper → Bool
  | _, [] => true
  | i, o :: r => (o.after.toList.all fun e => !Region.binds .any e || Nat.blt e.on i) && onBack (i + 1) r
def allocAt (as : List AOper) (i : Nat) : Bool := match as[i]? with
  | some x => isAlloc x
  | none => false
/-- At most two new variables come in either order; no writer stands between them, and a reader that is loose of the second is loose of the first. -/
def pairOk (as : List AOper) (ps : List (Nat × Nat)) : Bool :=
  match ps.filter fun p => allocAt as p.1 && allocAt as p.2 with
  | [] => true
  | [(i, j)] => Nat.blt i j && ((as.zipIdx).all fun z => !writesM z.1.op || !(Nat.blt i z.2 && Nat.blt z.2 j)) && ((List.range i).all fun r => !loose.elemP (r, j) ps || loose.elemP (r, i) ps)
  | _ => false
def anyOk (ops : List Oper) (as : List AOper) (ps : List (Nat × Nat)) : Bool :=
  onBack 0 ops && allWait ps (aheads ops []) (as.zipIdx) && (ps.isEmpty || stays as) && pairOk as ps
def guardBack : List Nat → List AOper → Bool
  | _, [] => true
  | ds, o :: r => (match o.guard with | none => true | some (t, _) => elemN t ds) && guardBack (ds ++ o.dst.toList) r
def dstOk (n : Nat) : List AOper → Bool
  | [] => true
  | o :: r => (match o.dst with | some d => Nat.blt d n | none => true) && dstOk n r
/-- A store is under no guard, and has no slot. -/
def storeOk : List AOper → Bool
  | [] => true
  | o :: r => (match o.op with | .store .. => o.guard.isNone && o.dst.isNone | .clr .. => o.guard.isNone | .mput .. => o.guard.isNone && o.dst.isNone | _ => true) && storeOk r
def regOk (n : Nat) (as : List AOper) : Bool := distinctN (dstsOf as) && guardBack [] as && dstOk n as && storeOk as

def cC (P : Program) (ms : List Nat) (n : Nat) : Code → Option ACode
  | .skip => some .skip
  | .region _ ops draw => match cOpers P ms ops ops.toList with
    | some as => bif regOk n as then (bif draw then (let ps := openP (aheads ops.toList []) as.zipIdx; bif anyOk ops.toList as ps then some (.region as ps) else some .bad) else some (.region as [])) else some .bad
    | none => some .bad
  | .seq a b => (cC P ms n a).bind fun x => (cC P ms n b).map fun y => .seq x y
  | .cond (.tmp c) t e => (cC P ms n t).bind fun x => (cC P ms n e).map fun y => .cond c x y
  | .block id b => (cC P ms n b).map fun x => .block id x
  | .loop b => (cC P ms n b).map fun x => .loop 0 [] x
  | .exit id => some (.exit id)
  | .ret => some .ret
  | _ => none

def cRes (P : Program) : List ResultVar → Option (List ARes)
  | [] => some []
  | .tmp t :: r => (cRes P r).map fun x => .t t :: x
  | .cell a t :: r => bif tyOk P t then (cRes P r).map fun x => .cell a (isAggT P t) (P.cellsOf t) :: x else none

def compF (P : Program) (ms : List Nat) (f : Func) : Option AFunc :=
  match f.body with
  | none => none
  | some c => (cC P ms f.ntmps c).bind fun b => (cRes P f.results.toList).map fun r => ⟨f.ntmps, f.params.size, r, b⟩

/-- The loops' numbers and live slots are the prover's own. -/
def strip : ACode → ACode
  | .seq a b => .seq (strip a) (strip b)
  | .seqF a b => .seq (strip a) (strip b)
  | .seqP _ _ a b => .seq (strip a) (strip b)
  | .cond c t e => .cond c (strip t) (strip e)
  | .block id b => .block id (strip b)
  | .loop _ _ b => .loop 0 [] (strip b)
  | c => c
def AFunc.strip (f : AFunc) : AFunc := { f with body := Go.AM.strip f.body }
end Go.AM
