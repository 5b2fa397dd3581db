/-
  THE CHECKSUM OF 32 BITS, AS PLAIN MATHEMATICS: a change of bits within 32 neighbouring places is always seen.
-/
namespace Crc

def poly : BitVec 32 := 0x04c11db7#32

def step (n : BitVec 32) : BitVec 32 := if n.msb then (n <<< 1) ^^^ poly else n <<< 1

theorem xlc (a b c : BitVec 32) : a ^^^ (b ^^^ c) = b ^^^ (a ^^^ c) := by rw [← BitVec.xor_assoc, BitVec.xor_comm a b, BitVec.xor_assoc]
theorem xcan (a b : BitVec 32) : a ^^^ (a ^^^ b) = b := by rw [← BitVec.xor_assoc]; simp

theorem step_xor (a b : BitVec 32) : step (a ^^^ b) = step a ^^^ step b := by
  unfold step
  rw [BitVec.msb_xor, BitVec.shiftLeft_xor_distrib]
  cases a.msb <;> cases b.msb <;> simp [BitVec.xor_assoc]
  · rw [BitVec.xor_comm]
  · rw [xlc poly]; simp

theorem step_zero : step 0 = 0 := by decide

theorem step_ne (a : BitVec 32) (h : a ≠ 0) : step a ≠ 0 := by
  intro e
  unfold step at e
  split at e
  · have h0 := congrArg (fun x : BitVec 32 => x.getLsbD 0) e
    simp [poly] at h0
  · rename_i hm
    apply h
    apply BitVec.eq_of_getLsbD_eq
    intro i hi
    have h0 := congrArg (fun x : BitVec 32 => x.getLsbD (i + 1)) e
    simp at h0
    by_cases hl : i + 1 < 32
    · simpa [hl] using h0 (by omega)
    · have : i = 31 := by omega
      subst this
      simpa [BitVec.msb_eq_getLsbD_last] using hm

def steps : Nat → BitVec 32 → BitVec 32
  | 0, x => x
  | k + 1, x => steps k (step x)

theorem steps_succ (k : Nat) : ∀ a, steps (k + 1) a = step (steps k a) := by
  induction k with
  | zero => intro a; rfl
  | succ k ih => intro a; show steps (k + 1) (step a) = _; rw [ih]; rfl

theorem steps_xor (k : Nat) : ∀ a b, steps k (a ^^^ b) = steps k a ^^^ steps k b := by
  induction k with
  | zero => intro a b; rfl
  | succ k ih => intro a b; simp only [steps, step_xor, ih]

theorem steps_zero (k : Nat) : steps k 0 = 0 := by
  induction k with
  | zero => rfl
  | succ k ih => simp only [steps, step_zero]; exact ih

theorem steps_ne (k : Nat) : ∀ a, a ≠ 0 → steps k a ≠ 0 := by
  induction k with
  | zero => intro a h; exact h
  | succ k ih => intro a h; exact ih _ (step_ne a h)

/-- one byte -/
def byte (n : BitVec 32) (c : UInt8) : BitVec 32 := steps 8 (n ^^^ (BitVec.ofNat 32 c.toNat <<< 24))

/-- all, from some register on -/
def run (n : BitVec 32) (l : List UInt8) : BitVec 32 := l.foldl byte n

/-- where it begins (behind a name: simp would write the number out) -/
def ones : BitVec 32 := BitVec.allOnes 32

def sum (l : List UInt8) : BitVec 32 := ~~~ (run ones l)

/-- one bit -/
def bit (n : BitVec 32) (d : Bool) : BitVec 32 := step (n ^^^ (if d then 0x80000000#32 else 0))

def runBits (n : BitVec 32) (l : List Bool) : BitVec 32 := l.foldl bit n

theorem bit_xor (a b : BitVec 32) (d e : Bool) : bit (a ^^^ b) (d ^^ e) = bit a d ^^^ bit b e := by
  unfold bit
  rw [← step_xor]
  congr 1
  cases d <;> cases e <;> simp [BitVec.xor_assoc]
  · rw [BitVec.xor_comm b]
  · rw [xlc]; simp

theorem runBits_xor : ∀ (l m : List Bool) (a b : BitVec 32), l.length = m.length → runBits (a ^^^ b) (List.zipWith (· ^^ ·) l m) = runBits a l ^^^ runBits b m
  | [], [], a, b, _ => rfl
  | x :: l, y :: m, a, b, h => by
    simp only [List.zipWith_cons_cons, runBits, List.foldl_cons] at *
    rw [bit_xor]
    exact runBits_xor l m _ _ (by simpa using h)
  | [], _ :: _, _, _, h => by simp at h
  | _ :: _, [], _, _, h => by simp at h

/-- the bits of a byte, the highest first -/
def bitsOf (c : UInt8) : List Bool := (List.range 8).map fun i => c.toNat.testBit (7 - i)

theorem length_bitsOf (c : UInt8) : (bitsOf c).length = 8 := by simp [bitsOf]

theorem runBits_falses (k : Nat) : ∀ a, runBits a (List.replicate k false) = steps k a := by
  induction k with
  | zero => intro a; rfl
  | succ k ih =>
    intro a
    simp only [List.replicate_succ, runBits, List.foldl_cons, steps]
    have : bit a false = step a := by simp [bit]
    rw [this]
    exact ih _

theorem byte_zero_bits : ∀ c : Fin 256, steps 8 (BitVec.ofNat 32 c.val <<< 24) = runBits 0 (bitsOf (UInt8.ofNat c.val)) := by decide +kernel

theorem byte_bits (n : BitVec 32) (c : UInt8) : byte n c = runBits n (bitsOf c) := by
  have h := byte_zero_bits ⟨c.toNat, c.toNat_lt⟩
  simp only [UInt8.ofNat_toNat] at h
  unfold byte
  rw [steps_xor, h]
  have h2 := runBits_xor (List.replicate 8 false) (bitsOf c) n 0 (by simp [length_bitsOf])
  rw [runBits_falses] at h2
  rw [← h2]
  have h3 : List.zipWith (· ^^ ·) (List.replicate 8 false) (bitsOf c) = bitsOf c := by
    apply List.ext_getElem
    · simp [length_bitsOf]
    · intro i h1 h2; rw [List.getElem_zipWith, List.getElem_replicate]; simp
  rw [h3]; simp

def allBits (l : List UInt8) : List Bool := l.flatMap bitsOf

theorem run_bits : ∀ (l : List UInt8) (n : BitVec 32), run n l = runBits n (allBits l)
  | [], n => rfl
  | c :: l, n => by
    simp only [run, List.foldl_cons, allBits, List.flatMap_cons, runBits, List.foldl_append]
    rw [byte_bits]
    exact run_bits l _

/-- bits as a word, the first the highest -/
def word : List Bool → BitVec 32
  | [] => 0
  | d :: l => (if d then 0x80000000#32 else 0) ^^^ (word l >>> 1)

theorem word_low : ∀ (l : List Bool) (i : Nat), i + l.length < 32 → (word l).getLsbD i = false
  | [], i, _ => by simp [word]
  | d :: l, i, h => by
    simp only [List.length_cons] at h
    have ih := word_low l (i + 1) (by omega)
    simp only [word, BitVec.getLsbD_xor, BitVec.getLsbD_ushiftRight]
    have e : 1 + i = i + 1 := by omega
    rw [e, ih]
    cases d
    · simp
    · have hi : i < 31 := by omega
      have : ∀ j : Fin 31, (0x80000000#32).getLsbD j.val = false := by decide
      simpa using this ⟨i, hi⟩

theorem step_shift (a : BitVec 32) (h : a.getLsbD 0 = false) : step (a >>> 1) = a := by
  unfold step
  have hm : (a >>> 1).msb = false := by simp [BitVec.msb_ushiftRight]
  rw [hm]
  apply BitVec.eq_of_getLsbD_eq
  intro i hi
  simp
  by_cases h0 : i = 0
  · subst h0; simpa using h.symm
  · have : 1 + (i - 1) = i := by omega
    simp [h0, hi, this]

theorem runBits_word : ∀ (l : List Bool) (n : BitVec 32), l.length ≤ 32 → runBits n l = steps l.length (n ^^^ word l)
  | [], n, _ => by simp [runBits, steps, word]
  | d :: l, n, h => by
    simp only [List.length_cons] at h
    simp only [runBits, List.foldl_cons, List.length_cons, steps]
    have ih := runBits_word l (bit n d) (by omega)
    simp only [runBits] at ih
    rw [ih]
    congr 1
    simp only [word, bit]
    rw [← BitVec.xor_assoc, step_xor _ (word l >>> 1), step_shift _ (word_low l 0 (by omega))]

theorem word_ne : ∀ (l : List Bool), l.length ≤ 32 → true ∈ l → word l ≠ 0
  | d :: l, h, hm => by
    simp only [List.length_cons] at h
    cases d with
    | true =>
      intro e
      have h0 := congrArg (fun x : BitVec 32 => x.getLsbD 31) e
      simp [word] at h0
    | false =>
      have hm' : true ∈ l := by simpa using hm
      have ih := word_ne l (by omega) hm'
      intro e
      apply ih
      have e' : word l >>> 1 = 0 := by simpa [word] using e
      have := step_shift (word l) (word_low l 0 (by omega))
      rw [e', step_zero] at this
      exact this.symm

/-- A change of bits within 32 neighbouring places turns the register. -/
theorem burst (p : Nat) (ds : List Bool) (q : Nat) (hd : ds.length ≤ 32) (ht : true ∈ ds) : runBits 0 (List.replicate p false ++ ds ++ List.replicate q false) ≠ 0 := by
  have h1 : runBits 0 (List.replicate p false ++ ds ++ List.replicate q false) = steps q (steps ds.length (word ds)) := by
    have h := runBits_word ds (steps p 0) hd
    unfold runBits at *
    rw [List.foldl_append, List.foldl_append]
    have hp := runBits_falses p 0
    unfold runBits at hp
    rw [hp, h]
    have hq := runBits_falses q (steps ds.length (steps p 0 ^^^ word ds))
    unfold runBits at hq
    rw [hq, steps_zero]; simp
  rw [h1]
  exact steps_ne _ _ (steps_ne _ _ (word_ne ds hd ht))

/-- the bytes of a word, the highest first -/
def be (t : BitVec 32) : List UInt8 := [UInt8.ofNat (t.toNat / 16777216), UInt8.ofNat (t.toNat / 65536), UInt8.ofNat (t.toNat / 256), UInt8.ofNat t.toNat]

/-- a sequence with its sum behind -/
def put (l : List UInt8) : List UInt8 := l ++ be (sum l)

/-- does it end with its sum? -/
def right (l : List UInt8) : Bool := decide (4 ≤ l.length) && decide (l.drop (l.length - 4) = be (sum (l.take (l.length - 4))))

/-- one bit of a block changed: the k-th of 32 from a place on, if the mask wants it and the block has it -/
def bend1 (from_ : Int) (mask : BitVec 32) (k : Nat) (l : List UInt8) : List UInt8 :=
  if mask.getLsbD (31 - k) = true ∧ 0 ≤ from_ + k ∧ from_ + k < 8 * (l.length : Int) then
    l.set ((from_ + k).toNat / 8) (l.getD ((from_ + k).toNat / 8) 0 ^^^ ((128 : UInt8) >>> UInt8.ofNat ((from_ + k).toNat % 8)))
  else l

def bendTo (from_ : Int) (mask : BitVec 32) (l : List UInt8) : Nat → List UInt8
  | 0 => l
  | k + 1 => bend1 from_ mask k (bendTo from_ mask l k)

def bend (from_ : Int) (mask : BitVec 32) (l : List UInt8) : List UInt8 := bendTo from_ mask l 32

theorem length_bend1 (from_ : Int) (mask : BitVec 32) (k : Nat) (l : List UInt8) : (bend1 from_ mask k l).length = l.length := by
  unfold bend1; split <;> simp
theorem length_bendTo (from_ : Int) (mask : BitVec 32) (l : List UInt8) : ∀ k, (bendTo from_ mask l k).length = l.length
  | 0 => rfl
  | k + 1 => by rw [bendTo, length_bend1, length_bendTo from_ mask l k]

end Crc
