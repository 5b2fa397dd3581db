/-
  NUMBERS IN FEW BYTES, PLAIN: seven bits a byte, the lowest first.
-/
namespace Wire

def enc (n : Nat) : List UInt8 := if h : n < 128 then [UInt8.ofNat n] else UInt8.ofNat (n % 128 + 128) :: enc (n / 128)
termination_by n
decreasing_by omega

inductive Res
  | ok (n : Nat) (rest : List UInt8)
  | short
  | form

/-- the k-th byte on -/
def dec (k : Nat) : List UInt8 → Res
  | [] => .short
  | c :: l => if (k = 9 ∧ 1 < c.toNat) ∨ (0 < k ∧ c.toNat = 0) then .form
    else if c.toNat < 128 then .ok c.toNat l
    else match dec (k + 1) l with
      | .ok n r => .ok (c.toNat % 128 + 128 * n) r
      | .short => .short
      | .form => .form

theorem enc_low {n : Nat} (h : n < 128) : enc n = [UInt8.ofNat n] := by rw [enc, dif_pos h]
theorem enc_high {n : Nat} (h : ¬ n < 128) : enc n = UInt8.ofNat (n % 128 + 128) :: enc (n / 128) := by rw [enc, dif_neg h]
theorem nat_of (n : Nat) (h : n < 256) : (UInt8.ofNat n).toNat = n := by
  rw [UInt8.toNat_ofNat']
  omega

theorem pow_step (k : Nat) (h : k ≤ 8) : 2 ^ (64 - 7 * k) = 128 * 2 ^ (64 - 7 * (k + 1)) := by
  rw [show 64 - 7 * k = (64 - 7 * (k + 1)) + 7 from by omega, Nat.pow_add]
  omega

theorem dec_enc (r : List UInt8) : ∀ (n k : Nat), k ≤ 9 → n < 2 ^ (64 - 7 * k) → (0 < k → 0 < n) → dec k (enc n ++ r) = .ok n r := by
  intro n
  induction n using Nat.strongRecOn with
  | _ n ih =>
    intro k hk hn h0
    by_cases h : n < 128
    · rw [enc_low h, List.singleton_append, dec, nat_of n (by omega), if_neg, if_pos h]
      rintro (⟨rfl, h1⟩ | ⟨h1, h2⟩)
      · simp at hn; omega
      · have := h0 h1; omega
    · have hk8 : k ≤ 8 := by
        rcases (by omega : k ≤ 8 ∨ k = 9) with h1 | rfl
        · exact h1
        · simp at hn; omega
      rw [pow_step k hk8] at hn
      rw [enc_high h, List.cons_append, dec, nat_of _ (by omega), if_neg (by omega), if_neg (by omega), ih (n / 128) (by omega) (k + 1) (by omega) (by omega) (by omega)]
      simp only [Res.ok.injEq, and_true]
      omega

theorem dec_short : ∀ (n k j : Nat), k ≤ 9 → n < 2 ^ (64 - 7 * k) → (0 < k → 0 < n) → j < (enc n).length → dec k ((enc n).take j) = .short := by
  intro n
  induction n using Nat.strongRecOn with
  | _ n ih =>
    intro k j hk hn h0 hj
    cases j with
    | zero => rfl
    | succ j =>
      by_cases h : n < 128
      · rw [enc_low h] at hj
        simp at hj
      · have hk8 : k ≤ 8 := by
          rcases (by omega : k ≤ 8 ∨ k = 9) with h1 | rfl
          · exact h1
          · simp at hn; omega
        rw [pow_step k hk8] at hn
        rw [enc_high h] at hj ⊢
        rw [List.take_succ_cons, dec, nat_of _ (by omega), if_neg (by omega), if_neg (by omega), ih (n / 128) (by omega) (k + 1) j (by omega) (by omega) (by omega) (by simpa using hj)]

theorem dec_ok : ∀ (l : List UInt8) (k n : Nat) (r : List UInt8), k ≤ 9 → dec k l = .ok n r → l = enc n ++ r ∧ (0 < k → 0 < n) ∧ n < 2 ^ (64 - 7 * k)
  | [], _, _, _, _, h => by cases h
  | c :: l, k, n, r, hk, h => by
    have hc := c.toNat_lt
    rw [dec] at h
    split at h
    · cases h
    · rename_i hf
      split at h
      · rename_i hl
        injection h with h1 h2
        subst h1 h2
        refine ⟨by rw [enc_low hl, List.singleton_append]; simp, fun h0 => by omega, ?_⟩
        rcases (by omega : k ≤ 8 ∨ k = 9) with h1 | rfl
        · rw [pow_step k h1]
          have : 0 < 2 ^ (64 - 7 * (k + 1)) := Nat.pow_pos (by omega)
          omega
        · simp; omega
      · rename_i hl
        have hk8 : k ≤ 8 := by
          rcases (by omega : k ≤ 8 ∨ k = 9) with h1 | rfl
          · exact h1
          · omega
        cases hd : dec (k + 1) l with
        | short => rw [hd] at h; cases h
        | form => rw [hd] at h; cases h
        | ok m r' =>
          rw [hd] at h
          injection h with h1 h2
          subst h1 h2
          obtain ⟨g1, g2, g3⟩ := dec_ok l (k + 1) m r' (by omega) hd
          have g4 := g2 (by omega)
          refine ⟨?_, fun _ => by omega, by rw [pow_step k hk8]; omega⟩
          rw [enc_high (by omega), show (c.toNat % 128 + 128 * m) / 128 = m from by omega, show (c.toNat % 128 + 128 * m) % 128 + 128 = c.toNat from by omega, List.cons_append, ← g1]
          simp

/-- a number with a sign, as one without -/
def zig (n : Int) : Nat := if 0 ≤ n then (2 * n).toNat else (-2 * n - 1).toNat
def zag (u : Nat) : Int := if u % 2 = 0 then (u / 2 : Nat) else -((u / 2 : Nat) : Int) - 1

theorem zag_zig (n : Int) : zag (zig n) = n := by
  unfold zag zig
  split <;> split <;> omega
theorem zig_zag (u : Nat) : zig (zag u) = u := by
  unfold zag zig
  split <;> split <;> omega
theorem zig_lt (n : Int) (h : -9223372036854775808 ≤ n ∧ n ≤ 9223372036854775807) : zig n < 18446744073709551616 := by
  unfold zig
  split <;> omega
theorem zag_in (u : Nat) (h : u < 18446744073709551616) : -9223372036854775808 ≤ zag u ∧ zag u ≤ 9223372036854775807 := by
  unfold zag
  split <;> omega
end Wire
