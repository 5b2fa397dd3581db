/-
  BITS THAT ARE CHANGED: store.Bend.bend and the law's own bent compute the same bytes.
-/
import Derived.Test.YtnpjlmeiaegdkaaCrc
import Derived.BigRegion
import Derived.BigQuiet
import Derived.Deep.QuietTactic
namespace Go.Proofs.Ytnpjlmeiaegdkaa
open Go.RowKit Go.Azu

theorem bit_of (m : BitVec 32) (k : Nat) (hk : k < 32) : (m.toNat : Int) * (2 : Int) ^ k % (4294967296 : Int) / (2147483648 : Int) = if m.getLsbD (31 - k) = true then 1 else 0 := by
  obtain ⟨j, hj⟩ : ∃ j, j + k = 31 := ⟨31 - k, by omega⟩
  have e1 : 31 - k = j := by omega
  have p1 : (4294967296 : Nat) = 2 ^ j * 2 * 2 ^ k := by
    have : (2 : Nat) ^ j * 2 * 2 ^ k = 2 ^ (j + k) * 2 := by rw [Nat.pow_add]; rw [Nat.mul_assoc, Nat.mul_comm 2, ← Nat.mul_assoc]
    rw [this, hj]
  have p2 : (2147483648 : Nat) = 2 ^ j * 2 ^ k := by rw [← Nat.pow_add, hj]
  have hpos : 0 < 2 ^ k := Nat.pow_pos (by omega)
  have e2 : m.toNat * 2 ^ k % 4294967296 / 2147483648 = m.toNat / 2 ^ j % 2 := by
    rw [p1, p2, Nat.mul_mod_mul_right, Nat.mul_div_mul_right _ _ hpos, Nat.mod_mul_right_div_self]
  have e3 : (m.toNat : Int) * (2 : Int) ^ k % (4294967296 : Int) / (2147483648 : Int) = ((m.toNat * 2 ^ k % 4294967296 / 2147483648 : Nat) : Int) := by simp
  rw [e3, e2, e1]
  have e4 : m.getLsbD j = decide (m.toNat / 2 ^ j % 2 = 1) := by rw [BitVec.getLsbD, Nat.testBit_eq_decide_div_mod_eq]
  rw [e4]
  by_cases h : m.toNat / 2 ^ j % 2 = 1
  · simp [h]
  · have : m.toNat / 2 ^ j % 2 = 0 := by omega
    simp [this]

theorem bit_of2 (m : BitVec 32) (j : Nat) : bits .and .u32 ((m.toNat : Int) / (2 : Int) ^ j) 1 = if m.getLsbD j = true then 1 else 0 := by
  have e3 : (m.toNat : Int) / (2 : Int) ^ j = ((m.toNat / 2 ^ j : Nat) : Int) := by simp
  have hlt : m.toNat / 2 ^ j < 4294967296 := Nat.lt_of_le_of_lt (Nat.div_le_self _ _) m.isLt
  have h1 : (1 : Int) = ((1 : Nat) : Int) := rfl
  rw [e3, h1, u32_and_nat _ _ hlt (by omega), nat_mask1]
  have e4 : m.getLsbD j = decide (m.toNat / 2 ^ j % 2 = 1) := by rw [BitVec.getLsbD, Nat.testBit_eq_decide_div_mod_eq]
  rw [e4]
  by_cases h : m.toNat / 2 ^ j % 2 = 1
  · simp [h]
  · have : m.toNat / 2 ^ j % 2 = 0 := by omega
    simp [this]

theorem bend_yes {from_ : Int} {mask : BitVec 32} {l : List UInt8} {k n q : Nat} {ch : UInt8} (hf : -9223372036854775808 ≤ from_ ∧ from_ ≤ 9223372036854775807) (hk : k < 32) (hl : l.length = n)
    (hb : mask.getLsbD (31 - k) = true) (hq : wrap64 (from_ + ↑k) = (q : Int)) (hq8 : q / 8 < n) (hch : (Crc.bendTo from_ mask l k)[q / 8]? = some ch) :
    bytesV (Crc.bendTo from_ mask l (k + 1)) = (bytesV (Crc.bendTo from_ mask l k)).set (q / 8) (.int .u8 (bits .xor .u8 (ch.toNat : Int) ((128 : Int) / (2 : Int) ^ (q % 8)))) := by
  have hq' : from_ + (k : Int) = (q : Int) := by unfold wrap64 at hq; omega
  have hd : (Crc.bendTo from_ mask l k).getD (q / 8) 0 = ch := by simp [hch]
  have e8 : (((128 : UInt8) >>> UInt8.ofNat (q % 8)).toNat : Int) = (128 : Int) / (2 : Int) ^ (q % 8) := by
    rw [UInt8.toNat_shiftRight, UInt8.toNat_ofNat', Nat.shiftRight_eq_div_pow]
    have : q % 8 % 2 ^ 8 % 8 = q % 8 := by omega
    rw [this]; simp
  rw [Crc.bendTo, Crc.bend1, if_pos ⟨hb, by omega, by rw [Crc.length_bendTo, hl]; omega⟩, hq', Int.toNat_natCast, hd, bytesV, List.map_set, ← e8]
  rw [u8_xor_nat _ _ ch.toNat_lt (UInt8.toNat_lt _)]
  simp [byteV, bytesV]

theorem bend_no {from_ : Int} {mask : BitVec 32} {l : List UInt8} {k n : Nat} (hn : n ≤ 1000000) (hl : l.length = n)
    (h : mask.getLsbD (31 - k) = false ∨ ¬ 0 ≤ wrap64 (from_ + ↑k) ∨ 8 * (n : Int) ≤ wrap64 (from_ + ↑k)) : Crc.bendTo from_ mask l (k + 1) = Crc.bendTo from_ mask l k := by
  rw [Crc.bendTo, Crc.bend1, if_neg]
  rintro ⟨h1, h2, h3⟩
  rw [Crc.length_bendTo, hl] at h3
  unfold wrap64 at h
  rcases h with h | h | h
  · rw [h] at h1; cases h1
  · omega
  · omega

set_option maxHeartbeats 1000000 in
theorem bend_any (from_ : Int) (mask : BitVec 32) (A : Option Addr) (n c : Nat) (l : List UInt8) (w : World) (hn : n ≤ 100000) (hr : Byts w w.heap.size A n l) (hf : -9223372036854775808 ≤ from_ ∧ from_ ≤ 9223372036854775807) :
    Calls Try.prog 19 #[.agg #[.int .i64 from_, .int .u32 (mask.toNat : Int)], .slice A n c] w fun e w' => ∃ g cap, e = .returned (.slice (some ⟨g, 0, none⟩) n cap) ∧ n ≤ cap ∧ w'.ownsRow w.heap.size 5 1 (.slice (some ⟨g, 0, none⟩) n cap) n (bytesV (Crc.bend from_ mask l)) ∧ Only [] w w' := by
  have hm32 := mask.isLt
  have HL := Lib.hid hr.len
  have hown0 := ownsRow_empty (w.alloc (.cells #[.int .i64 from_, .int .u32 (mask.toNat : Int)] 25)) 5 1
  simp only [World.size_alloc] at hown0
  go_enter Try.func19, Try.ntmps19
  go_wp2_with (at_builtin
               refine wpList_append_ex bytesTy (.tmp 8) (.tmp 9) rfl rfl hown0 rfl ((hr.alloc (Nat.le_refl _) _).alloc (by simp) _) rfl (bytesV_one l) (by simp only [maxLen]; omega) (by omega) ?_
               intro g cap w1 hg0 hglt hcap hown1 hgrow1 _)
  have hB0 : Blk w1 w.heap.size 25 #[.int .i64 from_, .int .u32 (mask.toNat : Int)] := (((Blk.new w _ _).alloc _).grown hgrow1 (by simp))
  have ho1 : Only [] w w1 := (((Only.refl [] w).alloc _).alloc _).grow hgrow1 (by simp)
  simp only [Nat.zero_add, List.nil_append] at hown1 hcap
  clear hgrow1 hown0
  go_loopw [11] (fun i wr => ∃ k : Nat, k ≤ 32 ∧ i = .int .i64 k ∧ wr.ownsRow (w.heap.size + 1) 5 1 (.slice (some ⟨g, 0, none⟩) n cap) n (bytesV (Crc.bendTo from_ mask l k)) ∧
      Blk wr w.heap.size 25 #[.int .i64 from_, .int .u32 (mask.toNat : Int)] ∧ Only [] w wr) (fun i _ => 32 - (intOf i).toNat)
  case atStart => exact ⟨0, by omega, rfl, hown1, hB0, ho1⟩
  case round =>
    obtain ⟨k, hk, rfl, hown, hB, ho⟩ := hrel
    have c0 : wr.cell? ⟨w.heap.size, 0, none⟩ = some (.int .i64 from_) := hB.cell 0
    have c1 : wr.cell? ⟨w.heap.size, 1, none⟩ = some (.int .u32 (mask.toNat : Int)) := hB.cell 1
    by_cases hlt : k < 32
    · have hbl := Crc.length_bendTo from_ mask l k
      have HBL := Lib.hid hbl
      clear hbl
      go_wp2
      · have h0 : 0 ≤ wrap64 (from_ + ↑k) := by assumption
        have h1 : wrap64 (from_ + ↑k) < 8 * ↑n := by assumption
        obtain ⟨q, hq⟩ : ∃ q : Nat, wrap64 (from_ + ↑k) = (q : Int) := ⟨(wrap64 (from_ + ↑k)).toNat, by omega⟩
        have hq8 : q / 8 < n := by omega
        rw [hq]
        obtain ⟨ch, hch⟩ : ∃ ch, (Crc.bendTo from_ mask l k)[q / 8]? = some ch := ⟨_, List.getElem?_eq_getElem (by rw [HBL.out, HL.out]; exact hq8)⟩
        have hcell : wr.cell? ⟨g, q / 8, none⟩ = some (.int .u8 (ch.toNat : Int)) := by
          rw [hown.cellAt _ (by omega)]
          simp [bytesV, hch, byteV]
        have hfz : wr.frozen? ⟨g, q / 8, none⟩ = false := hown.frozenAt _
        have HQ := Lib.hid hq
        have HC := Lib.hid hch
        clear hq hch h0 h1
        go_region
        go_wp2
        go_roundw
        case rel =>
          have hbit : mask.getLsbD (31 - k) = true := by
            have hb := bit_of mask k hlt
            rcases hx : mask.getLsbD (31 - k) with _ | _
            · rw [hx] at hb; simp at hb; omega
            · rfl
          refine ⟨k + 1, by omega, by go_num, ?_, hB.drew.far (by simp; omega) _, (ho.drew.setCell (.inr (by simp; omega)) _)⟩
          rw [bend_yes hf hlt HL.out hbit HQ.out hq8 HC.out]
          exact (hown.stored _ _).1.drew
        case measure => simp [intOf]; omega
      all_goals
        go_roundw
        case rel =>
          have hno : mask.getLsbD (31 - k) = false ∨ ¬ 0 ≤ wrap64 (from_ + ↑k) ∨ 8 * (n : Int) ≤ wrap64 (from_ + ↑k) := by
            first
            | exact .inr (.inr ‹_›)
            | exact .inr (.inl ‹_›)
            | (have hb := bit_of mask k hlt
               rcases hx : mask.getLsbD (31 - k) with _ | _
               · exact .inl rfl
               · rw [hx] at hb; simp at hb; omega)
          refine ⟨k + 1, by omega, by go_num, ?_, hB, ho⟩
          rw [bend_no (by omega) HL.out hno]
          exact hown
        case measure => simp [intOf]; omega
    · go_wp2
      go_ret
      obtain rfl : k = 32 := by omega
      exact ⟨_, _, rfl, hcap, ownsRow_low hown (by omega), ho⟩
set_option maxHeartbeats 1000000 in
theorem bent_any (from_ : Int) (mask : BitVec 32) (A : Option Addr) (n c : Nat) (l : List UInt8) (w : World) (hn : n ≤ 100000) (hr : Byts w w.heap.size A n l) (hf : -9223372036854775808 ≤ from_ ∧ from_ ≤ 9223372036854775807) :
    Calls Try.prog 13 #[.slice A n c, .agg #[.int .i64 from_, .int .u32 (mask.toNat : Int)]] w fun e w' => ∃ g cap, e = .returned (.slice (some ⟨g, 0, none⟩) (n + 4) cap) ∧ n + 4 ≤ cap ∧ w'.ownsRow w.heap.size 5 1 (.slice (some ⟨g, 0, none⟩) (n + 4) cap) (n + 4) (bytesV (Crc.bend from_ mask (Crc.put l))) ∧ Only [] w w' := by
  have hm32 := mask.isLt
  have HL := Lib.hid hr.len
  have hlp : (Crc.put l).length = n + 4 := by rw [Crc.put, List.length_append, hr.len]; rfl
  have HLP := Lib.hid hlp
  clear hlp
  go_enter Try.func13, Try.ntmps13
  go_wp2_with (go_at_call 18; refine (put_any _ _ _ l _ (by omega) ((hr.alloc (Nat.le_refl _) _).more (by simp))).mono ?_; rintro e w1 ⟨g, cap, rfl, hg0, hcap, hown1, hop⟩)
  simp only [World.size_alloc] at hg0 hown1
  have hB0 : Blk w1 w.heap.size 25 #[.int .i64 from_, .int .u32 (mask.toNat : Int)] := (Blk.new w _ _).only hop (by simp)
  have ho1 : Only [] w w1 := ((Only.refl [] w).alloc _).trans_new hop
  clear hop
  go_loopw [10] (fun i wr => ∃ k : Nat, k ≤ 32 ∧ i = .int .i64 k ∧ wr.ownsRow (w.heap.size + 1) 5 1 (.slice (some ⟨g, 0, none⟩) (n + 4) cap) (n + 4) (bytesV (Crc.bendTo from_ mask (Crc.put l) k)) ∧
      Blk wr w.heap.size 25 #[.int .i64 from_, .int .u32 (mask.toNat : Int)] ∧ Only [] w wr) (fun i _ => 32 - (intOf i).toNat)
  case atStart => exact ⟨0, by omega, rfl, hown1, hB0, ho1⟩
  case round =>
    obtain ⟨k, hk, rfl, hown, hB, ho⟩ := hrel
    have c0 : wr.cell? ⟨w.heap.size, 0, none⟩ = some (.int .i64 from_) := hB.cell 0
    have c1 : wr.cell? ⟨w.heap.size, 1, none⟩ = some (.int .u32 (mask.toNat : Int)) := hB.cell 1
    by_cases hlt : k < 32
    · have hbl := Crc.length_bendTo from_ mask (Crc.put l) k
      have HBL := Lib.hid hbl
      clear hbl
      go_wp2
      · have h0 : 0 ≤ wrap64 (from_ + ↑k) := by assumption
        have h1 : wrap64 (from_ + ↑k) < 8 * (↑n + 4) := by assumption
        obtain ⟨q, hq⟩ : ∃ q : Nat, wrap64 (from_ + ↑k) = (q : Int) := ⟨(wrap64 (from_ + ↑k)).toNat, by omega⟩
        have hq8 : q / 8 < n + 4 := by omega
        rw [hq]
        obtain ⟨ch, hch⟩ : ∃ ch, (Crc.bendTo from_ mask (Crc.put l) k)[q / 8]? = some ch := ⟨_, List.getElem?_eq_getElem (by rw [HBL.out, HLP.out]; exact hq8)⟩
        have hcell : wr.cell? ⟨g, q / 8, none⟩ = some (.int .u8 (ch.toNat : Int)) := by
          rw [hown.cellAt _ (by omega)]
          simp [bytesV, hch, byteV]
        have hfz : wr.frozen? ⟨g, q / 8, none⟩ = false := hown.frozenAt _
        have HQ := Lib.hid hq
        have HC := Lib.hid hch
        clear hq hch h0 h1
        go_region
        go_wp2
        go_roundw
        case rel =>
          have hbit : mask.getLsbD (31 - k) = true := by
            have hb := bit_of2 mask (31 - k)
            rcases hx : mask.getLsbD (31 - k) with _ | _
            · rw [hx] at hb; simp at hb; omega
            · rfl
          refine ⟨k + 1, by omega, by go_num, ?_, hB.drew.far (by simp; omega) _, (ho.drew.setCell (.inr (by simp; omega)) _)⟩
          rw [bend_yes hf hlt HLP.out hbit HQ.out hq8 HC.out]
          exact (hown.stored _ _).1.drew
        case measure => simp [intOf]; omega
      all_goals
        go_roundw
        case rel =>
          have hno : mask.getLsbD (31 - k) = false ∨ ¬ 0 ≤ wrap64 (from_ + ↑k) ∨ 8 * ((n + 4 : Nat) : Int) ≤ wrap64 (from_ + ↑k) := by
            first
            | (have h8 : 8 * (↑n + 4) ≤ wrap64 (from_ + ↑k) := by assumption
               exact .inr (.inr (by omega)))
            | exact .inr (.inl ‹_›)
            | (have hb := bit_of2 mask (31 - k)
               rcases hx : mask.getLsbD (31 - k) with _ | _
               · exact .inl rfl
               · rw [hx] at hb; simp at hb; omega)
          refine ⟨k + 1, by omega, by go_num, ?_, hB, ho⟩
          rw [bend_no (by omega) HLP.out hno]
          exact hown
        case measure => simp [intOf]; omega
    · go_wp2
      go_ret
      obtain rfl : k = 32 := by omega
      exact ⟨_, _, rfl, hcap, ownsRow_low hown (by omega), ho⟩
end Go.Proofs.Ytnpjlmeiaegdkaa
