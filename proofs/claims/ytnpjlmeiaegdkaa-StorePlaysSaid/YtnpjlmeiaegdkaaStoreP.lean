/-
  THE DEVICE, PLAIN: what a put, a take, a drop make of it.
-/
import Derived.Test.YtnpjlmeiaegdkaaCrcP
namespace Store

structure Dev where
  room : Nat
  next : Nat
  most : Nat
  puts : Nat
  takes : Nat
  count : Nat
  blocks : Int → Option (List UInt8)
  full : List Int
  fail : List Int
  bends : Int → Option (Int × BitVec 32)

def among (x : Int) (l : List Int) : Bool := l.contains x
def set {α : Type} (f : Int → Option α) (k : Int) (v : Option α) : Int → Option α := fun j => if j = k then v else f j

def Dev.p (D : Dev) : Dev := { D with puts := D.puts + 1 }
def Dev.n (D : Dev) : Dev := { D with next := D.next + 1 }
def Dev.b (D : Dev) (k : Int) (l : List UInt8) : Dev := { D with blocks := set D.blocks k (some l), count := if (D.blocks k).isSome then D.count else D.count + 1 }
def Dev.m (D : Dev) : Dev := { D with most := max D.most D.count }

/-- put: its number, an error; the device behind it -/
def Dev.put (D : Dev) (b : List UInt8) : Int × Int × Dev :=
  if b.length ≠ 64 then (0, 6, D)
  else if D.room ≤ D.count ∨ among D.puts D.full = true then (0, 8, D.p)
  else ((D.next : Int) + 1, 0, (D.p.n.b ((D.next : Int) + 1) (Crc.put b)).m)

theorem put_full (D : Dev) (b : List UInt8) (hl : b.length = 64) (h : D.room ≤ D.count ∨ among D.puts D.full = true) : D.put b = (0, 8, D.p) := by simp [Dev.put, hl, h]
theorem put_ok (D : Dev) (b : List UInt8) (hl : b.length = 64) (h : ¬ D.room ≤ D.count) (h' : among D.puts D.full = false) : D.put b = ((D.next : Int) + 1, 0, (D.p.n.b ((D.next : Int) + 1) (Crc.put b)).m) := by simp [Dev.put, hl, h, h']

def Dev.gone (D : Dev) (k : Int) : Dev := { D with blocks := set D.blocks k none, count := D.count - 1 }

def Dev.t (D : Dev) : Dev := { D with takes := D.takes + 1 }

/-- what a take finds, of so many bytes that were there -/
def Dev.found (D : Dev) (b : List UInt8) : List UInt8 :=
  match D.bends D.takes with
  | some (f, m) => Crc.bend f m b
  | none => b

/-- take: bytes, an error; the device behind it -/
def Dev.take (D : Dev) (k : Int) : List UInt8 × Int × Dev :=
  match D.blocks k with
  | none => ([], 9, D)
  | some b =>
    if among D.takes D.fail = true then ([], 10, (D.gone k).t)
    else if Crc.right (D.found b) = true then ((D.found b).take 64, 0, (D.gone k).t)
    else ([], 10, (D.gone k).t)

def Dev.drop (D : Dev) (k : Int) : Int × Dev :=
  match D.blocks k with
  | none => (9, D)
  | some _ => (0, D.gone k)

/-- a new one -/
def new (room : Int) (full fail : List Int) (bends : Int → Option (Int × BitVec 32)) : Dev :=
  { room := (min (max room 0) 4096).toNat, next := 0, most := 0, puts := 0, takes := 0, count := 0, blocks := fun _ => none, full, fail, bends }

end Store
