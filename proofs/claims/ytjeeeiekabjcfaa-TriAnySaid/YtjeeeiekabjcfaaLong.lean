/-
  THE READER: numbers of many bytes.
-/
import Derived.Test.YtjeeeiekabjcfaaReader
namespace Wire

/-- what is behind so many bytes already taken -/
def lift (acc k : Nat) : Res → Res
  | .ok m r => .ok (acc + 2 ^ (7 * k) * m) r
  | .short => .short
  | .form => .form

theorem lift_zero (x : Res) : lift 0 0 x = x := by
  cases x <;> simp [lift]

theorem lift_cons (acc k : Nat) (c : UInt8) (l : List UInt8) (x : Res) (h : lift acc k (dec k (c :: l)) = x) :
    ((k = 9 ∧ 1 < c.toNat) ∨ (0 < k ∧ c.toNat = 0) → x = .form) ∧
    (¬ ((k = 9 ∧ 1 < c.toNat) ∨ (0 < k ∧ c.toNat = 0)) → c.toNat < 128 → x = .ok (acc + c.toNat * 2 ^ (7 * k)) l) ∧
    (¬ ((k = 9 ∧ 1 < c.toNat) ∨ (0 < k ∧ c.toNat = 0)) → ¬ c.toNat < 128 → lift (acc + (c.toNat % 128) * 2 ^ (7 * k)) (k + 1) (dec (k + 1) l) = x) := by
  rw [dec] at h
  refine ⟨fun hb => ?_, fun hb hl => ?_, fun hb hl => ?_⟩
  · rw [if_pos hb] at h; exact h.symm
  · rw [if_neg hb, if_pos hl] at h
    rw [← h, lift, Nat.mul_comm]
  · rw [if_neg hb, if_neg hl] at h
    rw [← h]
    cases dec (k + 1) l with
    | ok m r =>
      simp only [lift, Res.ok.injEq, and_true]
      rw [show 7 * (k + 1) = 7 * k + 7 from by omega, Nat.pow_add, Nat.mul_add]
      have e : 2 ^ (7 * k) * (128 * m) = 2 ^ (7 * k) * 2 ^ 7 * m := by rw [Nat.mul_assoc]
      rw [e, Nat.mul_comm (c.toNat % 128)]
      omega
    | short => rfl
    | form => rfl

theorem acc_lt {acc m k : Nat} (h : acc < 2 ^ (7 * k)) : acc + (m % 128) * 2 ^ (7 * k) < 2 ^ (7 * (k + 1)) := by
  rw [show 7 * (k + 1) = 7 * k + 7 from by omega, Nat.pow_add]
  have hm : m % 128 * 2 ^ (7 * k) ≤ 127 * 2 ^ (7 * k) := Nat.mul_le_mul_right _ (by omega)
  omega

/-- what a reader makes of a number: its value, its place, its error -/
structure Took (R : Rd) (n : Nat) (R' : Rd) : Prop where
  b : R'.b = R.b
  le : R.pos ≤ R'.pos
  bad : R.err ≠ 0 → n = 0 ∧ R' = R
  ok : R.err = 0 → match dec 0 (R.b.drop R.pos) with
    | .ok m r => n = m ∧ R'.err = 0 ∧ R.b.drop R'.pos = r
    | .short => n = 0 ∧ R'.err = 3
    | .form => n = 0 ∧ R'.err = 4
end Wire

namespace Go.Proofs.Ytjeeeiekabjcfaa
open Go.RowKit Go.Azu

theorem and127_ : ∀ x : Fin 256, bits BinOp.and .u8 (x.val : Int) 127 = ((x.val % 128 : Nat) : Int) := by decide +kernel
theorem bits_or_u64_nat (a b : Nat) (ha : a < 18446744073709551616) (hb : b < 18446744073709551616) :
    bits .or .u64 (a : Int) (b : Int) = ((a ||| b : Nat) : Int) := by
  have hx : a ||| b < 2 ^ 64 := Nat.or_lt_two_pow (by omega) (by omega)
  have h1 : (BitVec.ofInt 64 (a : Int)).toNat = a := by
    rw [BitVec.ofInt_natCast, BitVec.toNat_ofNat]; exact Nat.mod_eq_of_lt (by omega)
  have h2 : (BitVec.ofInt 64 (b : Int)).toNat = b := by
    rw [BitVec.ofInt_natCast, BitVec.toNat_ofNat]; exact Nat.mod_eq_of_lt (by omega)
  show IntKind.u64.wrap ((BitVec.ofInt 64 (a : Int) ||| BitVec.ofInt 64 (b : Int)).toNat : Int) = _
  rw [BitVec.toNat_or, h1, h2, IntKind.wrap_u64]
  omega
theorem wrap_u64_in (n : Nat) (h : n < 18446744073709551616) : IntKind.u64.wrap (n : Int) = (n : Int) := by rw [IntKind.wrap_u64]; omega
theorem or_add (acc m j : Nat) (h : acc < 2 ^ j) : acc ||| m * 2 ^ j = acc + m * 2 ^ j := by
  rw [Nat.or_comm, Nat.mul_comm, ← Nat.two_pow_add_eq_or_of_lt h, Nat.add_comm]
theorem or_shl (acc c k : Nat) (hk : k < 9) (hc : c < 256) (ha : acc < 2 ^ (7 * k)) :
    bits .or .u64 (acc : Int) (IntKind.u64.wrap (IntKind.u64.wrap (bits .and .u8 (c : Int) 127) * 2 ^ (7 * k))) = ((acc + (c % 128) * 2 ^ (7 * k) : Nat) : Int) := by
  have h1 := and127_ ⟨c, hc⟩
  simp only at h1
  have hp : 2 ^ (7 * k) ≤ 2 ^ 56 := Nat.pow_le_pow_right (by omega) (by omega)
  have hm : c % 128 * 2 ^ (7 * k) ≤ 127 * 2 ^ 56 := Nat.mul_le_mul (by omega) hp
  rw [h1, wrap_u64_in _ (by omega), show ((c % 128 : Nat) : Int) * 2 ^ (7 * k) = ((c % 128 * 2 ^ (7 * k) : Nat) : Int) from by push_cast; rfl, wrap_u64_in _ (by omega), bits_or_u64_nat _ _ (by omega) (by omega), or_add _ _ _ ha]
theorem or_shl0 (acc c : Nat) (hc : c < 256) (ha : acc < 2 ^ (7 * 0)) :
    bits .or .u64 (acc : Int) (IntKind.u64.wrap (IntKind.u64.wrap (bits .and .u8 (c : Int) 127))) = ((acc + (c % 128) * 2 ^ (7 * 0) : Nat) : Int) := by
  rw [← or_shl acc c 0 (by omega) hc ha]
  simp
theorem or_shl9 (acc : Nat) (ha : acc < 2 ^ (7 * 9)) :
    bits .or .u64 (acc : Int) (IntKind.u64.wrap (IntKind.u64.wrap (bits .and .u8 1 127) * 9223372036854775808)) = ((acc + 1 * 2 ^ (7 * 9) : Nat) : Int) := by
  rw [show IntKind.u64.wrap (IntKind.u64.wrap (bits .and .u8 1 127) * 9223372036854775808) = ((1 * 2 ^ (7 * 9) : Nat) : Int) from by decide +kernel, bits_or_u64_nat _ _ (by omega) (by omega), or_add _ _ _ ha]

set_option maxRecDepth 10000 in
set_option maxHeartbeats 2000000 in
theorem rLong_any {g : Nat} {R : Wire.Rd} (w : World) (h : ReaderAt w g R) :
    Calls Try.prog 33 #[.pointer (some ⟨g, 0, none⟩)] w fun x w' => ∃ (n : Nat) (R' : Wire.Rd), x = .returned (.int .u64 (n : Int)) ∧ Wire.Took R n R' ∧ ReaderAt w' g R' ∧ Only [g] w w' := by
  by_cases h0 : R.err = 0
  · go_enter Try.func33, Try.ntmps33
    go_wp2_with fail
    go_loopw [3, 4, 5] (fun x3 x4 _ wr => ∃ (k acc p : Nat), k ≤ 9 ∧ x3 = .int .u64 acc ∧ x4 = .int .i64 (7 * (k : Int)) ∧ acc < 2 ^ (7 * k) ∧ R.pos ≤ p ∧ ReaderAt wr g { R with pos := p } ∧ Wire.lift acc k (Wire.dec k (R.b.drop p)) = Wire.dec 0 (R.b.drop R.pos) ∧ Only [g] w wr) (fun _ x4 _ _ => 100 - (intOf x4).toNat)
    case atStart => exact ⟨0, 0, R.pos, by omega, rfl, rfl, by simp, Nat.le_refl _, h, by rw [Wire.lift_zero], Only.refl _ _⟩
    case round =>
      obtain ⟨k, acc, p, hk, rfl, rfl, hacc, hp, hr, hd, ho⟩ := hrel
      have HD := Lib.hid hd
      have HA := Lib.hid hacc
      clear hd hacc
      go_wp2_with fail
      refine (rByte_any wr hr).mono ?_
      by_cases hend : p = R.b.length
      · have hby : (Wire.Rd.mk R.b p R.err).byte = (0, { R with pos := p, err := 3 }) := by
          simp [Wire.Rd.byte, Wire.Rd.left, Wire.Rd.fail, h0, hend]
        rw [hby]
        rintro e w2 ⟨rfl, hr2, ho2⟩
        have hf2 : ({ R with pos := p, err := 3 } : Wire.Rd).fail 4 = { R with pos := p, err := 3 } := by simp [Wire.Rd.fail]
        have hT : Wire.Took R 0 { R with pos := p, err := 3 } := by
          refine ⟨rfl, hp, fun h => absurd h0 h, fun _ => ?_⟩
          rw [← HD.out, hend, List.drop_length]
          exact ⟨rfl, rfl⟩
        have HT := Lib.hid hT
        clear hT
        go_wp2_with (first
          | (go_at_call 26; refine (rFail_any 4 _ hr2).mono ?_; rw [hf2]; rintro e w3 ⟨rfl, hr3, ho3⟩)
          | (go_at_call 15; refine (rErr_any _ hr3).mono ?_; rintro e wu ⟨rfl, rfl⟩)
          | (go_at_call 15; refine (rErr_any _ hr2).mono ?_; rintro e wu ⟨rfl, rfl⟩))
        all_goals
          go_wp2
          go_ret
          first
            | exact ⟨0, _, rfl, HT.out, hr3, ho.trans (ho2.trans ho3)⟩
            | exact ⟨0, _, rfl, HT.out, hr2, ho.trans ho2⟩
      · have hlt : p < R.b.length := by have := hr.small.1; simp at this; omega
        obtain ⟨c, hc⟩ : ∃ c, R.b[p]? = some c := ⟨_, List.getElem?_eq_getElem hlt⟩
        have hby : (Wire.Rd.mk R.b p R.err).byte = (c, { R with pos := p + 1 }) := by
          simp [Wire.Rd.byte, Wire.Rd.left, h0, hc]
          omega
        have hdr : R.b.drop p = c :: R.b.drop (p + 1) := by
          rw [List.drop_eq_getElem_cons hlt]
          rw [List.getElem?_eq_getElem hlt] at hc
          injection hc with hc
          rw [hc]
        have HD2 := Lib.hid (Wire.lift_cons acc k c (R.b.drop (p + 1)) (Wire.dec 0 (R.b.drop R.pos)) (by rw [← hdr]; exact HD.out))
        have hcl := c.toNat_lt
        rw [hby]
        rintro e w2 ⟨rfl, hr2, ho2⟩
        clear hby hdr hc HD
        have hr2' : ReaderAt w2 g { R with pos := p + 1 } := hr2
        clear hr2
        generalize c.toNat = cn at *
        by_cases hbad : (k = 9 ∧ 1 < cn) ∨ (0 < k ∧ cn = 0)
        · have hf2 : ({ R with pos := p + 1 } : Wire.Rd).fail 4 = { R with pos := p + 1, err := 4 } := by simp [Wire.Rd.fail, h0]
          have HT := Lib.hid (show Wire.Took R 0 { R with pos := p + 1, err := 4 } from
            ⟨rfl, by show R.pos ≤ p + 1; omega, fun h => absurd h0 h, fun _ => by rw [HD2.out.1 hbad]; exact ⟨rfl, rfl⟩⟩)
          rcases (by omega : (k = 9 ∧ 1 < cn) ∨ (k = 9 ∧ cn = 0) ∨ (0 < k ∧ k < 9 ∧ cn = 0)) with ⟨rfl, h1⟩ | ⟨rfl, rfl⟩ | ⟨h1, h2, rfl⟩
          · have d1 : (1 : Int) < (cn : Int) := by omega
            go_wp2_with (first
              | (go_at_call 26; refine (rFail_any 4 _ hr2').mono ?_; rw [hf2]; rintro e w3 ⟨rfl, hr3, ho3⟩)
              | (go_at_call 15; refine (rErr_any _ hr3).mono ?_; rintro e wu ⟨rfl, rfl⟩)
              | (go_at_call 15; refine (rErr_any _ hr2').mono ?_; rintro e wu ⟨rfl, rfl⟩))
            go_wp2
            go_ret
            exact ⟨0, _, rfl, HT.out, hr3, ho.trans (ho2.trans ho3)⟩
          · go_wp2_with (first
              | (go_at_call 26; refine (rFail_any 4 _ hr2').mono ?_; rw [hf2]; rintro e w3 ⟨rfl, hr3, ho3⟩)
              | (go_at_call 15; refine (rErr_any _ hr3).mono ?_; rintro e wu ⟨rfl, rfl⟩)
              | (go_at_call 15; refine (rErr_any _ hr2').mono ?_; rintro e wu ⟨rfl, rfl⟩))
            go_wp2
            go_ret
            exact ⟨0, _, rfl, HT.out, hr3, ho.trans (ho2.trans ho3)⟩
          · have d1 : (7 * (k : Int) == 63) = false := by simp; omega
            have d2 : 0 < k := h1
            go_wp2_with (first
              | (go_at_call 26; refine (rFail_any 4 _ hr2').mono ?_; rw [hf2]; rintro e w3 ⟨rfl, hr3, ho3⟩)
              | (go_at_call 15; refine (rErr_any _ hr3).mono ?_; rintro e wu ⟨rfl, rfl⟩)
              | (go_at_call 15; refine (rErr_any _ hr2').mono ?_; rintro e wu ⟨rfl, rfl⟩))
            go_wp2
            go_ret
            exact ⟨0, _, rfl, HT.out, hr3, ho.trans (ho2.trans ho3)⟩
        · rcases (by omega : (k = 9 ∧ cn = 1) ∨ (0 < k ∧ k < 9 ∧ 0 < cn) ∨ k = 0) with ⟨rfl, rfl⟩ | ⟨h1, h2, h3⟩ | rfl
          · go_wp2_with (first
              | (go_at_call 15; refine (rErr_any _ hr2').mono ?_; rintro e wu ⟨rfl, rfl⟩))
            rw [or_shl9 acc HA.out]
            go_ret
            refine ⟨acc + 1 * 2 ^ (7 * 9), { R with pos := p + 1 }, rfl, ⟨rfl, by show R.pos ≤ p + 1; omega, fun h => absurd h0 h, fun _ => ?_⟩, hr2', ho.trans ho2⟩
            rw [HD2.out.2.1 hbad (by omega)]
            exact ⟨rfl, h0, rfl⟩
          · have d1 : (7 * (k : Int) == 63) = false := by simp; omega
            have d2 : 0 < k := h1
            have d3 : ((cn : Int) == 0) = false := by simp; omega
            by_cases hl : cn < 128
            · go_wp2_with (first
                | (go_at_call 15; refine (rErr_any _ hr2').mono ?_; rintro e wu ⟨rfl, rfl⟩))
              rw [or_shl acc cn k h2 hcl HA.out, Nat.mod_eq_of_lt hl]
              go_ret
              refine ⟨_, { R with pos := p + 1 }, rfl, ⟨rfl, by show R.pos ≤ p + 1; omega, fun h => absurd h0 h, fun _ => ?_⟩, hr2', ho.trans ho2⟩
              rw [HD2.out.2.1 hbad hl]
              exact ⟨rfl, h0, rfl⟩
            · go_wp2_with (first
                | (go_at_call 15; refine (rErr_any _ hr2').mono ?_; rintro e wu ⟨rfl, rfl⟩))
              rw [or_shl acc cn k h2 hcl HA.out]
              exact ⟨⟨k + 1, _, p + 1, by omega, rfl, by simp; omega, Wire.acc_lt HA.out, by omega, hr2', HD2.out.2.2 hbad hl, ho.trans ho2⟩, by simp [intOf]; omega⟩
          · by_cases hl : cn < 128
            · go_wp2_with (first
                | (go_at_call 15; refine (rErr_any _ hr2').mono ?_; rintro e wu ⟨rfl, rfl⟩))
              rw [or_shl0 acc cn hcl HA.out]
              go_ret
              refine ⟨_, { R with pos := p + 1 }, rfl, ⟨rfl, by show R.pos ≤ p + 1; omega, fun h => absurd h0 h, fun _ => ?_⟩, hr2', ho.trans ho2⟩
              rw [HD2.out.2.1 hbad hl, Nat.mod_eq_of_lt hl]
              exact ⟨rfl, h0, rfl⟩
            · go_wp2_with (first
                | (go_at_call 15; refine (rErr_any _ hr2').mono ?_; rintro e wu ⟨rfl, rfl⟩))
              rw [or_shl0 acc cn hcl HA.out]
              exact ⟨⟨0 + 1, _, p + 1, by omega, rfl, by simp, Wire.acc_lt HA.out, by omega, hr2', HD2.out.2.2 hbad hl, ho.trans ho2⟩, by simp [intOf]⟩
  · have hby : R.byte = (0, R) := by simp [Wire.Rd.byte, Wire.Rd.left, Wire.Rd.fail, h0]
    have hd : (R.err != 0) = true := by simpa using h0
    have HB := Lib.hid hby
    clear hby
    go_enter Try.func33, Try.ntmps33
    go_wp2_with fail
    go_loopw [4] (fun x4 wr => x4 = .int .i64 0 ∧ ReaderAt wr g R ∧ Only [g] w wr) (fun _ _ => 0)
    case atStart => exact ⟨rfl, h, Only.refl _ _⟩
    case round =>
      obtain ⟨rfl, hr, ho⟩ := hrel
      go_wp2_with fail
      refine (rByte_any wr hr).mono ?_
      rw [HB.out]
      rintro e w2 ⟨rfl, hr2, ho2⟩
      have hr2' : ReaderAt w2 g R := hr2
      clear hr2
      go_wp2_with (first
        | (go_at_call 15; refine (rErr_any _ hr2').mono ?_; rintro e wu ⟨rfl, rfl⟩))
      go_ret
      exact ⟨0, R, rfl, ⟨rfl, Nat.le_refl _, fun _ => ⟨rfl, rfl⟩, fun h => absurd h h0⟩, hr2', ho.trans ho2⟩
end Go.Proofs.Ytjeeeiekabjcfaa
