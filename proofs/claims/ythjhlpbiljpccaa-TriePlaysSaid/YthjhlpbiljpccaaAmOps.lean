/-
  Names for what the abstract machine computes; how to go through a printed tree.
-/
import Derived.Test.YthjhlpbiljpccaaAmLawB
namespace Go.AM

def iand (k : IntKind) (a b : Int) : Int := k.wrap (BitVec.ofInt k.bits a &&& BitVec.ofInt k.bits b).toNat
def ior (k : IntKind) (a b : Int) : Int := k.wrap (BitVec.ofInt k.bits a ||| BitVec.ofInt k.bits b).toNat
def ixor (k : IntKind) (a b : Int) : Int := k.wrap (BitVec.ofInt k.bits a ^^^ BitVec.ofInt k.bits b).toNat
def iandnot (k : IntKind) (a b : Int) : Int := k.wrap (BitVec.ofInt k.bits a &&& ~~~ BitVec.ofInt k.bits b).toNat
def inot (k : IntKind) (n : Int) : Int := k.wrap (BitVec.ofInt k.bits (if k.signed then -1 else k.max) ^^^ BitVec.ofInt k.bits n).toNat
def ishl (k : IntKind) (a b : Int) : Int := k.wrap (a * 2 ^ (min b.toNat k.bits))
def ishr (k : IntKind) (a b : Int) : Int := a.fdiv (2 ^ (min b.toNat k.bits))
def byteAt (l : List UInt8) (n : Int) : Int := ((l.getD n.toNat 0).toNat : Int)
def okIx (n len : Int) : Bool := decide (0 ≤ n) && decide (n < len)
def okSlc (l h n : Int) : Bool := decide (0 ≤ l) && decide (l ≤ h) && decide (h ≤ n)
def okApp (len n m : Nat) : Bool := decide (len = n) && decide (len + m ≤ roomy)
def slcL {α : Type} (xs : List α) (l h : Int) : List α := (xs.drop l.toNat).take (h.toNat - l.toNat)
def segL {α : Type} (xs : List α) (off len : Nat) : List α := (xs.drop off).take len

def clrL {α : Type} (d : α) (xs : List α) (off len : Nat) : List α := xs.take off ++ List.replicate len d ++ xs.drop (off + len)

theorem cond_i {b : Bool} {p q : Prop} (h1 : b = true → p) (h2 : b = false → q) : cond b p q := by
  cases b
  · exact h2 rfl
  · exact h1 rfl
theorem vc_i {b : Bool} {p : Prop} (h : b = true) (hp : p) : cond b p False := by subst h; exact hp
theorem cond_q {α : Type} {F : α → Prop} {b : Bool} {x y : α} {p q : Prop} (h1 : p = F x) (h2 : q = F y) : cond b p q = F (cond b x y) := by
  cases b
  · exact h2
  · exact h1
theorem cond_r {α : Type} {F : α → Prop} {b r s : Bool} {x y : α} {p q : Prop} (h1 : r = true → p = F x) (h2 : s = true → q = F y) : cond b r s = true → cond b p q = F (cond b x y) := by
  cases b
  · exact h2
  · exact h1
theorem vc_r {α : Type} {F : α → Prop} {b r : Bool} {x : α} {p : Prop} (h1 : r = true → p = F x) : (b && r) = true → cond b p False = F x := by
  cases b
  · intro h; cases h
  · exact h1
theorem vc_e {α : Type} {F : α → Prop} {b : Bool} {x : α} {p : Prop} (h1 : p = F x) : b = true → cond b p False = F x := by
  intro h; subst h; exact h1
theorem vcn_i {b : Bool} {p : Prop} (h : b = false) (hp : p) : cond b False p := by subst h; exact hp
theorem vcn_r {α : Type} {F : α → Prop} {b r : Bool} {x : α} {p : Prop} (h1 : r = true → p = F x) : ((!b) && r) = true → cond b False p = F x := by
  cases b
  · exact h1
  · intro h; cases h
theorem vcn_e {α : Type} {F : α → Prop} {b : Bool} {x : α} {p : Prop} (h1 : p = F x) : (!b) = true → cond b False p = F x := by
  cases b
  · intro _; exact h1
  · intro h; cases h
end Go.AM
