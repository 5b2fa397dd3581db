/-
  A BLOCK WITH ITS SUM, 32 NEIGHBOURING BITS OF IT CHANGED: it is as it was, or its sum is wrong.
-/
import Derived.Test.YtnpjlmeiaegdkaaCrcP
namespace Crc

theorem word_append : ∀ (a b : List Bool), word (a ++ b) = word a ^^^ (word b >>> a.length)
  | [], b => by simp [word]
  | d :: a, b => by
    show (if d then 0x80000000#32 else 0) ^^^ (word (a ++ b) >>> 1) = ((if d then 0x80000000#32 else 0) ^^^ (word a >>> 1)) ^^^ (word b >>> (a.length + 1))
    rw [word_append a b, BitVec.ushiftRight_xor_distrib, ← BitVec.shiftRight_add, BitVec.xor_assoc]

theorem word_byte_ : ∀ c : Fin 256, word (bitsOf (UInt8.ofNat c.val)) = BitVec.ofNat 32 c.val <<< 24 := by decide +kernel
theorem word_byte (c : UInt8) : word (bitsOf c) = BitVec.ofNat 32 c.toNat <<< 24 := by
  have h := word_byte_ ⟨c.toNat, c.toNat_lt⟩
  simpa using h

theorem byte_at (t : BitVec 32) (k i : Nat) : (BitVec.ofNat 32 (UInt8.ofNat (t.toNat / 2 ^ k)).toNat).getLsbD i = (decide (i < 8) && t.getLsbD (i + k)) := by
  rw [BitVec.getLsbD_ofNat, UInt8.toNat_ofNat']
  rw [Nat.testBit_mod_two_pow, Nat.testBit_div_two_pow]
  by_cases h : i < 8
  · have : i < 32 := by omega
    simp [h, this, BitVec.getLsbD]
  · simp [h]

theorem word_be (t : BitVec 32) : word (allBits (be t)) = t := by
  have e : allBits (be t) = bitsOf (UInt8.ofNat (t.toNat / 2 ^ 24)) ++ (bitsOf (UInt8.ofNat (t.toNat / 2 ^ 16)) ++ (bitsOf (UInt8.ofNat (t.toNat / 2 ^ 8)) ++ bitsOf (UInt8.ofNat (t.toNat / 2 ^ 0)))) := by
    simp [allBits, be]
  rw [e, word_append, word_append, word_append, word_byte, word_byte, word_byte, word_byte, length_bitsOf, length_bitsOf, length_bitsOf]
  apply BitVec.eq_of_getLsbD_eq
  intro i hi
  simp only [BitVec.getLsbD_xor, BitVec.getLsbD_ushiftRight, BitVec.getLsbD_shiftLeft, byte_at]
  rcases (by omega : i < 8 ∨ (8 ≤ i ∧ i < 16) ∨ (16 ≤ i ∧ i < 24) ∨ (24 ≤ i ∧ i < 32)) with h | h | h | h
  · simp [show 8 + (8 + (8 + i)) < 32 from by omega, show i < 24 from by omega, show 8 + i < 24 from by omega, show 8 + (8 + i) < 24 from by omega, show ¬ (8 + (8 + (8 + i)) < 24) from by omega, show 8 + (8 + (8 + i)) - 24 = i from by omega, h]
  · simp [show i < 24 from by omega, show 8 + i < 24 from by omega, show ¬ (8 + (8 + i) < 24) from by omega, show 8 + (8 + i) < 32 from by omega, show 8 + (8 + i) - 24 < 8 from by omega, show ¬ (8 + (8 + (8 + i)) < 32) from by omega, show 8 + (8 + i) - 24 + 8 = i from by omega]
  · simp [show i < 24 from by omega, show ¬ (8 + i < 24) from by omega, show 8 + i < 32 from by omega, show 8 + i - 24 < 8 from by omega, show ¬ (8 + (8 + i) < 32) from by omega, show ¬ (8 + (8 + (8 + i)) < 32) from by omega, show 8 + i - 24 + 16 = i from by omega]
  · simp [show ¬ (i < 24) from by omega, show i < 32 from by omega, show i - 24 < 8 from by omega, show ¬ (8 + i < 32) from by omega, show ¬ (8 + (8 + i) < 32) from by omega, show ¬ (8 + (8 + (8 + i)) < 32) from by omega, show i - 24 + 24 = i from by omega]

theorem length_allBits : ∀ l : List UInt8, (allBits l).length = 8 * l.length
  | [] => rfl
  | c :: l => by
    have := length_allBits l
    simp only [allBits, List.flatMap_cons, List.length_append, length_bitsOf, List.length_cons] at *
    omega

theorem run_append (n : BitVec 32) (a b : List UInt8) : run n (a ++ b) = run (run n a) b := by unfold run; rw [List.foldl_append]

/-- the register behind a block and its sum -/
theorem run_right (l : List UInt8) (h : right l = true) : run ones l = steps 32 ones := by
  unfold right at h
  simp only [Bool.and_eq_true, decide_eq_true_eq] at h
  obtain ⟨h1, h2⟩ := h
  have hl : l = l.take (l.length - 4) ++ l.drop (l.length - 4) := (List.take_append_drop _ _).symm
  generalize l.take (l.length - 4) = a at *
  rw [h2] at hl
  rw [hl, run_append, run_bits (be (sum a))]
  have hlen : (allBits (be (sum a))).length = 32 := by rw [length_allBits]; rfl
  rw [runBits_word _ _ (by omega), hlen, word_be]
  congr 1
  unfold sum ones
  generalize run (BitVec.allOnes 32) a = r
  apply BitVec.eq_of_getLsbD_eq
  intro i hi
  rw [show BitVec.allOnes 32 = BitVec.allOnes 32 from rfl, BitVec.getLsbD_xor, BitVec.getLsbD_not, BitVec.getLsbD_allOnes]
  simp [hi]

theorem right_put (b : List UInt8) : right (put b) = true := by
  unfold right put
  have : (be (sum b)).length = 4 := rfl
  rw [List.length_append, this]
  simp
theorem put_take (b : List UInt8) (hb : b.length = 64) : (put b).take 64 = b := by
  unfold put
  rw [← hb, List.take_left']
  rfl

theorem allBits_at : ∀ (l : List UInt8) (i : Nat), (allBits l)[i]? = if i < 8 * l.length then some ((l.getD (i / 8) 0).toNat.testBit (7 - i % 8)) else none
  | [], i => by simp [allBits]
  | c :: l, i => by
    have ih := allBits_at l (i - 8)
    have e : allBits (c :: l) = bitsOf c ++ allBits l := by simp [allBits]
    rw [e]
    by_cases h : i < 8
    · rw [List.getElem?_append_left (by rw [length_bitsOf]; exact h)]
      have h0 : i / 8 = 0 := by omega
      have h1 : i % 8 = i := by omega
      simp [bitsOf, h, h0, h1, show i < 8 * (l.length + 1) from by omega]
    · rw [List.getElem?_append_right (by rw [length_bitsOf]; omega), length_bitsOf, ih]
      have h0 : i / 8 = (i - 8) / 8 + 1 := by omega
      have h1 : i % 8 = (i - 8) % 8 := by omega
      rw [h0, h1]
      simp only [List.length_cons, List.getD_cons_succ]
      by_cases h2 : i - 8 < 8 * l.length
      · rw [if_pos h2, if_pos (by omega)]
      · rw [if_neg h2, if_neg (by omega)]

theorem bits_inj {x y : List UInt8} (hl : x.length = y.length) (h : allBits x = allBits y) : x = y := by
  apply List.ext_getElem? 
  intro i
  by_cases hi : i < x.length
  · rw [List.getElem?_eq_getElem hi, List.getElem?_eq_getElem (by omega)]
    congr 1
    apply UInt8.toNat_inj.1
    apply Nat.eq_of_testBit_eq
    intro j
    by_cases hj : j < 8
    · have h1 := allBits_at x (8 * i + (7 - j))
      have h2 := allBits_at y (8 * i + (7 - j))
      rw [if_pos (by omega)] at h1 h2
      rw [h, h2] at h1
      have e1 : (8 * i + (7 - j)) / 8 = i := by omega
      have e2 : 7 - (8 * i + (7 - j)) % 8 = j := by omega
      rw [e1, e2] at h1
      injection h1 with h1
      have hy : i < y.length := by omega
      simp only [List.getD, List.getElem?_eq_getElem hi, List.getElem?_eq_getElem hy, Option.getD_some] at h1
      exact h1.symm
    · have hx : ∀ c : UInt8, c.toNat.testBit j = false := fun c => Nat.testBit_lt_two_pow (Nat.lt_of_lt_of_le c.toNat_lt (Nat.pow_le_pow_right (by omega) (by omega : 8 ≤ j)))
      rw [hx, hx]
  · rw [List.getElem?_eq_none (by omega), List.getElem?_eq_none (by omega)]

/-- bit i of a block -/
def bitAt (l : List UInt8) (i : Nat) : Bool := (l.getD (i / 8) 0).toNat.testBit (7 - i % 8)

theorem bit128 : ∀ r : Fin 8, ∀ s : Fin 8, ((128 : UInt8) >>> UInt8.ofNat r.val).toNat.testBit (7 - s.val) = decide (r.val = s.val) := by decide

theorem bend1_out (from_ : Int) (mask : BitVec 32) (k : Nat) (l : List UInt8) (i : Nat) (hi : (i : Int) ≠ from_ + k) : bitAt (bend1 from_ mask k l) i = bitAt l i := by
  unfold bend1
  split
  · rename_i h
    obtain ⟨_, h0, h1⟩ := h
    obtain ⟨q, hq⟩ : ∃ q : Nat, from_ + k = (q : Int) := ⟨(from_ + k).toNat, by omega⟩
    rw [hq] at hi h1 ⊢
    simp only [Int.toNat_natCast]
    unfold bitAt
    by_cases he : i / 8 = q / 8
    · have hlt : q / 8 < l.length := by omega
      rw [he]
      simp only [List.getD, List.getElem?_set_self hlt, Option.getD_some]
      rw [UInt8.toNat_xor, Nat.testBit_xor]
      have := bit128 ⟨q % 8, by omega⟩ ⟨i % 8, by omega⟩
      simp only at this
      rw [this, decide_eq_false (by omega)]
      simp
    · simp only [List.getD, List.getElem?_set_ne (Ne.symm he)]
  · rfl

theorem bendTo_out (from_ : Int) (mask : BitVec 32) (l : List UInt8) (i : Nat) : ∀ k : Nat, ((i : Int) < from_ ∨ from_ + k ≤ i) → bitAt (bendTo from_ mask l k) i = bitAt l i
  | 0, _ => rfl
  | k + 1, h => by
    rw [bendTo, bend1_out _ _ _ _ _ (by omega)]
    exact bendTo_out from_ mask l i k (by omega)

theorem falses : ∀ (d : List Bool), (∀ x ∈ d, x = false) → d = List.replicate d.length false
  | [], _ => rfl
  | x :: d, h => by
    rw [List.length_cons, List.replicate_succ, ← falses d (fun y hy => h y (.tail _ hy)), h x (.head _)]

/-- A block with its sum that 32 neighbouring bits were bent of: if its sum is right, it is as it was. -/
theorem bend_right (from_ : Int) (mask : BitVec 32) (l : List UInt8) (hl : right l = true) (h : right (bend from_ mask l) = true) : bend from_ mask l = l := by
  have hlen : (bend from_ mask l).length = l.length := length_bendTo _ _ _ _
  have hbits : (allBits (bend from_ mask l)).length = (allBits l).length := by rw [length_allBits, length_allBits, hlen]
  have hrun := runBits_xor (allBits (bend from_ mask l)) (allBits l) ones ones hbits
  rw [← run_bits, ← run_bits, run_right _ hl, run_right _ h] at hrun
  simp only [BitVec.xor_self] at hrun
  generalize hd : List.zipWith (· ^^ ·) (allBits (bend from_ mask l)) (allBits l) = d at hrun
  have hdl : d.length = 8 * l.length := by rw [← hd, List.length_zipWith, hbits, length_allBits]; omega
  have hat : ∀ i, i < 8 * l.length → d[i]? = some (bitAt (bend from_ mask l) i ^^ bitAt l i) := fun i hi => by
    rw [← hd, List.getElem?_zipWith, allBits_at, allBits_at, hlen, if_pos hi, if_pos hi]
    rfl
  have hout : ∀ i, i < 8 * l.length → ((i : Int) < from_ ∨ from_ + 32 ≤ i) → d[i]? = some false := fun i hi ho => by
    rw [hat i hi, bend, bendTo_out _ _ _ _ 32 ho]; simp
  obtain ⟨p, hp⟩ : ∃ p : Nat, (p : Int) = max from_ 0 := ⟨(max from_ 0).toNat, by omega⟩
  have hsplit : d = List.replicate (d.take p).length false ++ (d.drop p).take 32 ++ List.replicate ((d.drop p).drop 32).length false := by
    rw [← falses (d.take p), ← falses ((d.drop p).drop 32), List.append_assoc, List.take_append_drop, List.take_append_drop]
    · intro x hx
      obtain ⟨i, hi, rfl⟩ := List.mem_iff_getElem.1 hx
      have h1 := hout (p + (32 + i)) (by simp at hi; omega) (by omega)
      have h2 : ((d.drop p).drop 32)[i]? = some false := by rw [List.getElem?_drop, List.getElem?_drop]; exact h1
      rw [List.getElem?_eq_getElem hi] at h2
      injection h2
    · intro x hx
      obtain ⟨i, hi, rfl⟩ := List.mem_iff_getElem.1 hx
      have hip : i < p ∧ i < d.length := by simp at hi; omega
      have h1 := hout i (by omega) (by omega)
      have h2 : (d.take p)[i]? = some false := by rw [List.getElem?_take, if_pos hip.1]; exact h1
      rw [List.getElem?_eq_getElem hi] at h2
      injection h2
  have hno : ¬ true ∈ (d.drop p).take 32 := by
    intro ht
    have := burst (d.take p).length ((d.drop p).take 32) ((d.drop p).drop 32).length (by simp; omega) ht
    rw [← hsplit] at this
    exact this hrun
  have hall : ∀ i, i < 8 * l.length → d[i]? = some false := by
    intro i hi
    rcases (by omega : ((i : Int) < from_ ∨ from_ + 32 ≤ i) ∨ (from_ ≤ i ∧ (i : Int) < from_ + 32)) with ho | ho
    · exact hout i hi ho
    · rw [hat i hi]
      cases hb : (bitAt (bend from_ mask l) i ^^ bitAt l i) with
      | false => rfl
      | true =>
        exfalso
        apply hno
        have h1 := hat i hi
        rw [hb] at h1
        have hpi : p ≤ i := by omega
        have h2 : ((d.drop p).take 32)[i - p]? = some true := by
          rw [List.getElem?_take, if_pos (by omega), List.getElem?_drop, show p + (i - p) = i from by omega]; exact h1
        exact List.mem_of_getElem? h2
  apply bits_inj hlen
  apply List.ext_getElem?
  intro i
  rw [allBits_at, allBits_at, hlen]
  split
  · rename_i hi
    have h1 := hall i hi
    rw [hat i hi] at h1
    injection h1 with h1
    have h2 : bitAt (bend from_ mask l) i = bitAt l i := by
      cases hx : bitAt (bend from_ mask l) i <;> cases hy : bitAt l i <;> rw [hx, hy] at h1 <;> simp at h1 <;> rfl
    show some (bitAt (bend from_ mask l) i) = some (bitAt l i)
    rw [h2]
  · rfl
end Crc
