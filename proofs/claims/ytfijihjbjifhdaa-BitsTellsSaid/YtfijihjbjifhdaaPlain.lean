/- What the functions of layer 6 compute, on lists of bytes; no program is named here; no condition. -/
import Derived.IntWalk
import Derived.Laws.BitsAllLaws
namespace Go.Proofs.Ytfijihjbjifhdaa

/-- bit k of a byte, the most significant first -/
def bitOf (x : UInt8) (k : Nat) : Bool := x.toNat / 2 ^ (7 - k % 8) % 2 == 1
def bitB (l : List UInt8) (k : Nat) : Bool := match l[k / 8]? with | some x => bitOf x k | none => false
def hasB (l : List UInt8) (i : Int) : Bool := decide (0 ≤ i) && bitB l i.toNat

/-- without noughts at the end -/
def cutL (l : List UInt8) : List UInt8 := (l.reverse.dropWhile (· == 0)).reverse

def padTo (l : List UInt8) (n : Nat) : List UInt8 := l ++ List.replicate (n - l.length) 0
/-- a byte with bit k set or cleared -/
def turnB (x : UInt8) (k : Nat) (t : Bool) : UInt8 :=
  if t then x ||| UInt8.ofNat (2 ^ (7 - k % 8)) else if bitOf x k then x - UInt8.ofNat (2 ^ (7 - k % 8)) else x
def withB (l : List UInt8) (i : Int) (t : Bool) : List UInt8 :=
  if i < 0 ∨ (t = false ∧ l.length ≤ i.toNat / 8) then cutL l
  else cutL ((padTo l (i.toNat / 8 + 1)).modify (i.toNat / 8) fun x => turnB x i.toNat t)

def countB (l : List UInt8) (n : Int) : Nat := ((List.range (min n.toNat (8 * l.length))).filter fun k => bitB l k).length

def freeB (l : List UInt8) (n : Nat) : List Int := ((List.range n).filter fun k => !bitB l k).map fun k : Nat => (k : Int)
/-- what Draw hands back, and its error -/
def drawB (l : List UInt8) (n many : Int) : List Int := if many < 0 ∨ ((freeB l n.toNat).length : Int) < many then [] else (freeB l n.toNat).take many.toNat
def drawE (l : List UInt8) (n many : Int) : Int := if many < 0 then 1 else if ((freeB l n.toNat).length : Int) < many then 66 else 0

theorem cutL_snoc_zero (l : List UInt8) : cutL (l ++ [0]) = cutL l := by simp [cutL]
theorem cutL_snoc (l : List UInt8) (x : UInt8) (h : x ≠ 0) : cutL (l ++ [x]) = l ++ [x] := by simp [cutL, h]
theorem cutL_nil : cutL [] = [] := rfl

theorem take_succ_get {α : Type} (l : List α) (k : Nat) (x : α) (h : l[k]? = some x) : l.take (k + 1) = l.take k ++ [x] := by
  rw [List.take_add_one, h]; rfl

end Go.Proofs.Ytfijihjbjifhdaa
