/-
  A RECORD's BYTES, PLAIN.
-/
import Derived.Test.YtjeeeiekabjcfaaWireP
namespace Tri
open Wire
/-- a number's place: of a corner, the j-th of eight -/
def pos (i j : Nat) : Nat := if j < 2 then 2 * i + j else if j = 2 then 6 + i else if j = 3 then 9 + i else 12 + 4 * i + (j - 4)
/-- the q-th number in the order of the bytes -/
def ord (R : Nat → Int) (q : Nat) : Int := R (pos (q / 8) (q % 8))
/-- less the same one of the corner ahead -/
def delta (R : Nat → Int) (q : Nat) : Int := ord R q - (if q < 8 then 0 else ord R (q - 8))
def encs (R : Nat → Int) : Nat → List UInt8
  | 0 => []
  | m + 1 => encs R m ++ enc (zig (delta R m))
def head (d : Nat) (s : Bool) : Nat := if s then 2 * d + 1 else 2 * d
def bytes (d : Nat) (s : Bool) (R : Nat → Int) : List UInt8 := enc (head d s) ++ if s then encs R 24 else []

theorem enc_len : ∀ (k n : Nat), n < 2 ^ (7 * (k + 1)) → (enc n).length ≤ k + 1
  | 0, n, h => by rw [enc_low (by simpa using h)]; simp
  | k + 1, n, h => by
    by_cases hl : n < 128
    · rw [enc_low hl]; simp
    · rw [enc_high hl, List.length_cons]
      have := enc_len k (n / 128) (by
        rw [show 7 * (k + 1 + 1) = 7 * (k + 1) + 7 from by omega, Nat.pow_add] at h
        omega)
      omega
theorem enc_pos (n : Nat) : 0 < (enc n).length := by
  by_cases hl : n < 128
  · rw [enc_low hl]; simp
  · rw [enc_high hl]; simp
theorem encs_len (R : Nat → Int) (h : ∀ q, q < 24 → -1000000000 ≤ delta R q ∧ delta R q ≤ 1000000000) : ∀ m, m ≤ 24 → (encs R m).length ≤ 5 * m
  | 0, _ => by simp [encs]
  | m + 1, hm => by
    have ih := encs_len R h m (by omega)
    have h1 := h m (by omega)
    have := enc_len 4 (zig (delta R m)) (by unfold zig; split <;> omega)
    simp only [encs, List.length_append]
    omega
end Tri
