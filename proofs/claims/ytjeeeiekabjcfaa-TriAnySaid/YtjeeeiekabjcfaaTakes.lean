/-
  THE READER: numbers within bounds.
-/
import Derived.Test.YtjeeeiekabjcfaaLong
import Derived.Lib.MinMax
import Derived.BigQuiet
import Derived.StillTailTactics
namespace Wire

def decN (b : List UInt8) : Except Int (Int × List UInt8) := match dec 0 b with
  | .ok m r => .ok ((m : Int), r)
  | .short => .error 3
  | .form => .error 4
def countF (most : Int) (b : List UInt8) : Except Int (Int × List UInt8) := match decN b with
  | .ok (m, r) => if most < m then .error 7 else .ok (m, r)
  | .error e => .error e
def intF (b : List UInt8) : Except Int (Int × List UInt8) := match decN b with
  | .ok (m, r) => .ok (zag m.toNat, r)
  | .error e => .error e
def withinF (lo hi : Int) (b : List UInt8) : Except Int (Int × List UInt8) := match intF b with
  | .ok (n, r) => if n < lo ∨ hi < n then .error 2 else .ok (n, r)
  | .error e => .error e

/-- what a reader makes of its next bytes -/
structure Does (f : List UInt8 → Except Int (Int × List UInt8)) (R : Rd) (n : Int) (R' : Rd) : Prop where
  b : R'.b = R.b
  le : R.pos ≤ R'.pos
  bad : R.err ≠ 0 → n = 0 ∧ R' = R
  ok : R.err = 0 → ∀ m r, f (R.b.drop R.pos) = .ok (m, r) → n = m ∧ R'.err = 0 ∧ R.b.drop R'.pos = r
  error : R.err = 0 → ∀ e, f (R.b.drop R.pos) = .error e → n = 0 ∧ R'.err = e ∧ e ≠ 0

theorem Took.does {R R' : Rd} {n : Nat} (h : Took R n R') : Does decN R n R' := by
  refine ⟨h.b, h.le, fun h0 => by have := h.bad h0; exact ⟨by omega, this.2⟩, fun h0 m r hm => ?_, fun h0 e he => ?_⟩
  · have := h.ok h0
    unfold decN at hm
    split at hm
    · rename_i m' r' hd
      rw [hd] at this
      injection hm with hm
      injection hm with h1 h2
      subst h1 h2
      exact ⟨by omega, this.2⟩
    · cases hm
    · cases hm
  · have := h.ok h0
    unfold decN at he
    split at he
    · cases he
    · rename_i hd
      rw [hd] at this
      injection he with he
      subst he
      exact ⟨by omega, this.2, by omega⟩
    · rename_i hd
      rw [hd] at this
      injection he with he
      subst he
      exact ⟨by omega, this.2, by omega⟩
theorem decN_lt {b : List UInt8} {m : Int} {r : List UInt8} (h : decN b = .ok (m, r)) : 0 ≤ m ∧ m < 18446744073709551616 := by
  unfold decN at h
  split at h
  · rename_i m' r' hd
    injection h with h
    injection h with h1 h2
    have := (dec_ok b 0 m' r' (by omega) hd).2.2
    simp at this
    omega
  · cases h
  · cases h
theorem Does.lt {R R' : Rd} {n : Nat} (h : Does decN R n R') : n < 18446744073709551616 := by
  by_cases h0 : R.err = 0
  · cases hd : decN (R.b.drop R.pos) with
    | ok x =>
      obtain ⟨m, r⟩ := x
      have := (h.ok h0 m r hd).1
      have := decN_lt hd
      omega
    | error e =>
      have := (h.error h0 e hd).1
      omega
  · have := (h.bad h0).1
    omega

theorem does_count {R R' : Rd} {n : Nat} {most : Int} (h : Does decN R n R') (hm : 0 ≤ most) :
    (most < n → Does (countF most) R 0 (R'.fail 7)) ∧ (¬ most < n → Does (countF most) R n R') := by
  refine ⟨fun hlt => ?_, fun hlt => ?_⟩
  · by_cases h0 : R.err = 0
    · cases hd : decN (R.b.drop R.pos) with
      | ok x =>
        obtain ⟨m, r⟩ := x
        obtain ⟨g1, g2, g3⟩ := h.ok h0 m r hd
        have hc : countF most (R.b.drop R.pos) = .error 7 := by simp only [countF, hd]; rw [if_pos (by omega)]
        have hf : R'.fail 7 = { R' with err := 7 } := by simp [Rd.fail, g2]
        rw [hf]
        exact ⟨h.b, h.le, fun h1 => absurd h0 h1, fun _ m' r' he => by (rw [hc] at he; cases he), fun _ e he => by (rw [hc] at he; injection he with he; subst he; exact ⟨rfl, rfl, by omega⟩)⟩
      | error e =>
        have := (h.error h0 e hd).1
        omega
    · have := (h.bad h0).1
      omega
  · refine ⟨h.b, h.le, h.bad, fun h0 m r hc => ?_, fun h0 e hc => ?_⟩
    · unfold countF at hc
      split at hc
      · rename_i m' r' hd
        split at hc
        · cases hc
        · injection hc with hc
          injection hc with h1 h2
          subst h1 h2
          exact h.ok h0 _ _ hd
      · cases hc
    · unfold countF at hc
      split at hc
      · rename_i m' r' hd
        split at hc
        · have := (h.ok h0 _ _ hd).1
          omega
        · cases hc
      · rename_i e' hd
        injection hc with hc
        subst hc
        exact h.error h0 _ hd

theorem does_int {R R' : Rd} {n : Nat} (h : Does decN R n R') : Does intF R (zag n) R' := by
  refine ⟨h.b, h.le, fun h0 => ?_, fun h0 m r hc => ?_, fun h0 e hc => ?_⟩
  · obtain ⟨g1, g2⟩ := h.bad h0
    exact ⟨by rw [show n = 0 from by omega]; rfl, g2⟩
  · unfold intF at hc
    split at hc
    · rename_i m' r' hd
      injection hc with hc
      injection hc with h1 h2
      subst h1 h2
      obtain ⟨g1, g2⟩ := h.ok h0 _ _ hd
      exact ⟨by rw [← g1]; rfl, g2⟩
    · cases hc
  · unfold intF at hc
    split at hc
    · cases hc
    · rename_i e' hd
      injection hc with hc
      subst hc
      obtain ⟨g1, g2⟩ := h.error h0 _ hd
      exact ⟨by rw [show n = 0 from by omega]; rfl, g2⟩

theorem does_within {R R' : Rd} {n lo hi : Int} (h : Does intF R n R') :
    (R'.err = 0 → n < lo ∨ hi < n → Does (withinF lo hi) R 0 { R' with err := 2 }) ∧ (R'.err = 0 → ¬ (n < lo ∨ hi < n) → Does (withinF lo hi) R n R') ∧ (R'.err ≠ 0 → Does (withinF lo hi) R 0 R') := by
  have hn : R.err ≠ 0 → R'.err ≠ 0 := fun h0 => by rw [(h.bad h0).2]; exact h0
  refine ⟨fun h1 h2 => ⟨h.b, h.le, fun h0 => absurd h1 (hn h0), fun h0 m r hc => ?_, fun h0 e hc => ?_⟩, fun h1 h2 => ⟨h.b, h.le, h.bad, fun h0 m r hc => ?_, fun h0 e hc => ?_⟩, fun h1 => ⟨h.b, h.le, fun h0 => ⟨rfl, (h.bad h0).2⟩, fun h0 m r hc => ?_, fun h0 e hc => ?_⟩⟩ <;> unfold withinF at hc <;> split at hc
  · rename_i m' r' hd
    have := (h.ok h0 _ _ hd).1
    subst this
    rw [if_pos h2] at hc; cases hc
  · cases hc
  · rename_i m' r' hd
    have := (h.ok h0 _ _ hd).1
    subst this
    rw [if_pos h2] at hc
    injection hc with hc
    subst hc
    exact ⟨rfl, rfl, by omega⟩
  · rename_i e' hd
    have := (h.error h0 _ hd).2
    exact absurd h1 (by rw [this.1]; exact this.2)
  · rename_i m' r' hd
    have h3 := h.ok h0 _ _ hd
    split at hc
    · cases hc
    · injection hc with hc
      injection hc with h4 h5
      subst h4 h5
      exact h3
  · cases hc
  · rename_i m' r' hd
    have h3 := (h.ok h0 _ _ hd).1
    subst h3
    rw [if_neg h2] at hc; cases hc
  · rename_i e' hd
    have := (h.error h0 _ hd).2
    exact absurd h1 (by rw [this.1]; exact this.2)
  · rename_i m' r' hd
    exact absurd (h.ok h0 _ _ hd).2.1 h1
  · cases hc
  · rename_i m' r' hd
    exact absurd (h.ok h0 _ _ hd).2.1 h1
  · rename_i e' hd
    injection hc with hc
    subst hc
    have := h.error h0 _ hd
    exact ⟨rfl, this.2⟩
end Wire

namespace Go.Proofs.Ytjeeeiekabjcfaa
open Go.RowKit Go.Azu

theorem ret_int_ {a b : Int} (h : a = b) : Ending.returned (.int .i64 a) = .returned (.int .i64 b) := by rw [h]

set_option maxHeartbeats 800000 in
theorem rCount_any {g : Nat} {R : Wire.Rd} (most : Int) (w : World) (h : ReaderAt w g R) (hm : 0 ≤ most ∧ most ≤ 4611686018427387904) :
    Calls Try.prog 24 #[.pointer (some ⟨g, 0, none⟩), .int .i64 most] w fun x w' => ∃ (n : Int) (R' : Wire.Rd), x = .returned (.int .i64 n) ∧ Wire.Does (Wire.countF most) R n R' ∧ ReaderAt w' g R' ∧ Only [g] w w' := by
  go_enter Try.func24, Try.ntmps24
  go_wp2_with fail
  refine (rLong_any w h).mono ?_
  rintro e w1 ⟨n, R1, rfl, hT, hr1, ho1⟩
  have hD := hT.does
  have hlt := hD.lt
  have hC := Wire.does_count hD hm.1
  clear hT
  by_cases hgt : most < n
  · have d1 : max most 0 < (n : Int) := by omega
    have HC := Lib.hid (hC.1 hgt)
    clear hC hD
    go_wp2_with fail
    refine (rFail_any 7 w1 hr1).mono ?_
    rintro e w2 ⟨rfl, hr2, ho2⟩
    go_wp2
    go_ret
    exact ⟨0, _, rfl, HC.out, hr2, ho1.trans ho2⟩
  · have d1 : (n : Int) ≤ max most 0 := by omega
    have HC := Lib.hid (hC.2 hgt)
    clear hC hD
    go_wp2
    go_ret
    exact ⟨n, R1, rfl, HC.out, hr1, ho1⟩

theorem and1_ : ∀ x : Fin 2, bits BinOp.xor .i64 0 (-(x.val : Int)) = -(x.val : Int) := by decide +kernel
theorem zag_bits (n : Nat) (hn : n < 18446744073709551616) (a : Int) (ha : a = ((n / 2 : Nat) : Int)) (b : Int) (hb : b = -((n % 2 : Nat) : Int)) : bits BinOp.xor .i64 a b = Wire.zag n := by
  subst ha hb
  have hq : n / 2 < 9223372036854775808 := by omega
  have h1 : (BitVec.ofInt 64 ((n / 2 : Nat) : Int)) = BitVec.ofNat 64 (n / 2) := BitVec.ofInt_natCast ..
  show IntKind.i64.wrap ((BitVec.ofInt 64 ((n / 2 : Nat) : Int) ^^^ BitVec.ofInt 64 (-((n % 2 : Nat) : Int))).toNat : Int) = _
  have hw : ∀ z : Int, IntKind.i64.wrap z = if z % 18446744073709551616 ≥ 9223372036854775808 then z % 18446744073709551616 - 18446744073709551616 else z % 18446744073709551616 := fun z => by simp [IntKind.wrap, IntKind.bits, IntKind.signed]
  have e64 : (2 : Nat) ^ 64 = 18446744073709551616 := by decide
  rcases (by omega : n % 2 = 0 ∨ n % 2 = 1) with e | e
  · have hz : Wire.zag n = ((n / 2 : Nat) : Int) := by unfold Wire.zag; rw [if_pos e]
    rw [hz, e, show BitVec.ofInt 64 (-((0 : Nat) : Int)) = 0#64 from by decide +kernel, BitVec.xor_zero, h1, BitVec.toNat_ofNat, e64, hw]
    rw [if_neg (by omega)]
    omega
  · have hz : Wire.zag n = -((n / 2 : Nat) : Int) - 1 := by unfold Wire.zag; rw [if_neg (by omega)]
    rw [hz, e, show BitVec.ofInt 64 (-((1 : Nat) : Int)) = BitVec.allOnes 64 from by decide +kernel, BitVec.xor_allOnes, BitVec.toNat_not, h1, BitVec.toNat_ofNat, e64, hw]
    rw [if_pos (by omega)]
    omega
theorem and_one (n : Nat) : bits BinOp.and .u64 (n : Int) 1 = ((n % 2 : Nat) : Int) := by
  show IntKind.u64.wrap ((BitVec.ofInt 64 (n : Int) &&& BitVec.ofInt 64 1).toNat : Int) = _
  rw [BitVec.ofInt_natCast, BitVec.toNat_and, BitVec.toNat_ofNat, show (BitVec.ofInt 64 1).toNat = 1 from by decide +kernel, Nat.and_one_is_mod, IntKind.wrap_u64]
  omega

set_option maxHeartbeats 800000 in
theorem rInt_any {g : Nat} {R : Wire.Rd} (w : World) (h : ReaderAt w g R) :
    Calls Try.prog 34 #[.pointer (some ⟨g, 0, none⟩)] w fun x w' => ∃ (n : Int) (R' : Wire.Rd), x = .returned (.int .i64 n) ∧ Wire.Does Wire.intF R n R' ∧ ReaderAt w' g R' ∧ Only [g] w w' := by
  go_enter Try.func34, Try.ntmps34
  go_wp2_with fail
  refine (rLong_any w h).mono ?_
  rintro e w1 ⟨n, R1, rfl, hT, hr1, ho1⟩
  have hlt := hT.does.lt
  have HI := Lib.hid (Wire.does_int hT.does)
  have ha := and_one n
  clear hT
  go_wp2
  go_ret
  exact ⟨_, R1, ret_int_ (zag_bits n hlt _ (by omega) _ (by omega)), HI.out, hr1, ho1⟩

set_option maxHeartbeats 1600000 in
theorem rWithin_any {g : Nat} {R : Wire.Rd} (lo hi : Int) (w : World) (h : ReaderAt w g R) :
    Calls Try.prog 25 #[.pointer (some ⟨g, 0, none⟩), .int .i64 lo, .int .i64 hi] w fun x w' => ∃ (n : Int) (R' : Wire.Rd), x = .returned (.int .i64 n) ∧ Wire.Does (Wire.withinF lo hi) R n R' ∧ ReaderAt w' g R' ∧ Only [g] w w' := by
  go_enter Try.func25, Try.ntmps25
  go_wp2_with fail
  refine (rInt_any w h).mono ?_
  rintro e w1 ⟨n, R1, rfl, hD, hr1, ho1⟩
  obtain ⟨q1, q2, q3⟩ := Wire.does_within (lo := lo) (hi := hi) hD
  clear hD
  by_cases h0 : R1.err = 0
  · by_cases hlo : n < lo
    · have HC := Lib.hid (q1 h0 (.inl hlo))
      have hf : R1.fail 2 = { R1 with err := 2 } := by simp [Wire.Rd.fail, h0]
      have HF := Lib.hid hf
      clear q1 q2 q3 hf
      go_wp2_with (first
        | (go_at_call 26; refine (rFail_any 2 _ hr1).mono ?_; rw [HF.out]; rintro e w3 ⟨rfl, hr3, ho3⟩)
        | (go_at_call 15; refine (rErr_any _ hr3).mono ?_; rintro e wu ⟨rfl, rfl⟩)
        | (go_at_call 15; refine (rErr_any _ hr1).mono ?_; rintro e wu ⟨rfl, rfl⟩))
      go_ret
      exact ⟨0, _, rfl, HC.out, hr3, ho1.trans ho3⟩
    · by_cases hhi : hi < n
      · have HC := Lib.hid (q1 h0 (.inr hhi))
        have hf : R1.fail 2 = { R1 with err := 2 } := by simp [Wire.Rd.fail, h0]
        have HF := Lib.hid hf
        clear q1 q2 q3 hf
        go_wp2_with (first
          | (go_at_call 26; refine (rFail_any 2 _ hr1).mono ?_; rw [HF.out]; rintro e w3 ⟨rfl, hr3, ho3⟩)
          | (go_at_call 15; refine (rErr_any _ hr3).mono ?_; rintro e wu ⟨rfl, rfl⟩)
          | (go_at_call 15; refine (rErr_any _ hr1).mono ?_; rintro e wu ⟨rfl, rfl⟩))
        go_ret
        exact ⟨0, _, rfl, HC.out, hr3, ho1.trans ho3⟩
      · have HC := Lib.hid (q2 h0 (by omega))
        clear q1 q2 q3
        go_wp2_with (first
          | (go_at_call 15; refine (rErr_any _ hr1).mono ?_; rintro e wu ⟨rfl, rfl⟩))
        go_ret
        exact ⟨n, _, rfl, HC.out, hr1, ho1⟩
  · have HC := Lib.hid (q3 h0)
    have d1 : (R1.err == 0) = false := by simpa using h0
    have d2 : (R1.err != 0) = true := by simpa using h0
    clear q1 q2 q3
    go_wp2_with (first
      | (go_at_call 15; refine (rErr_any _ hr1).mono ?_; rintro e wu ⟨rfl, rfl⟩))
    go_ret
    exact ⟨0, _, rfl, HC.out, hr1, ho1⟩

/-- what a reader says at its end -/
def Wire.Rd.fin (R : Wire.Rd) : Int := if R.err = 0 then if R.pos < R.b.length then 15 else 0 else R.err

set_option maxHeartbeats 1600000 in
theorem rEnd_any {g : Nat} {R : Wire.Rd} (w : World) (h : ReaderAt w g R) :
    Calls Try.prog 14 #[.pointer (some ⟨g, 0, none⟩)] w fun x w' => x = .returned (.int .i64 (Wire.Rd.fin R)) ∧ ∃ k, w' = w.drewN k := by
  obtain ⟨A, c, h1, h2, h3⟩ := h.at_
  have c0 : w.cell? ⟨g, 0, none⟩ = some (.slice A R.b.length c) := h1.cell 0
  have c1 : w.cell? ⟨g, 1, none⟩ = some (.int .i64 R.pos) := h1.cell 1
  have c2 : w.cell? ⟨g, 2, none⟩ = some (.int .i64 R.err) := h1.cell 2
  have hs := h.small
  by_cases h0 : R.err = 0
  · by_cases hp : R.pos < R.b.length
    · have HF := Lib.hid (show Wire.Rd.fin R = 15 by simp [Wire.Rd.fin, h0, hp])
      rw [h0] at c2
      clear h h1 h2 h3
      generalize R.b.length = n at *
      generalize R.pos = p at *
      clear h0
      go_enter Try.func14, Try.ntmps14
      go_wp2_with fail
      go_quiet (fail)
      go_wp2
      go_ret
      exact ⟨ret_int_ HF.out.symm, _, rfl⟩
    · have HF := Lib.hid (show Wire.Rd.fin R = 0 by simp [Wire.Rd.fin, h0, hp])
      have hr := fun k => rErr_any (w.drewN k) (h.drewN k)
      rw [h0] at c2 hr
      clear h h1 h2 h3
      generalize R.b.length = n at *
      generalize R.pos = p at *
      clear h0
      go_enter Try.func14, Try.ntmps14
      go_wp2_with fail
      go_quiet (fail)
      go_wp2_with fail
      refine (hr _).mono ?_
      rintro e wu ⟨rfl, rfl⟩
      go_wp2
      go_ret
      exact ⟨ret_int_ HF.out.symm, _, rfl⟩
  · have HF := Lib.hid (show Wire.Rd.fin R = R.err by simp [Wire.Rd.fin, h0])
    have hr := fun k => rErr_any (w.drewN k) (h.drewN k)
    have d1 : (R.err == 0) = false := by simpa using h0
    clear h h1 h2 h3
    generalize R.b.length = n at *
    generalize R.pos = p at *
    go_enter Try.func14, Try.ntmps14
    go_wp2_with fail
    go_quiet (fail)
    go_wp2_with fail
    refine (hr _).mono ?_
    rintro e wu ⟨rfl, rfl⟩
    go_wp2
    go_ret
    exact ⟨ret_int_ HF.out.symm, _, rfl⟩
end Go.Proofs.Ytjeeeiekabjcfaa
