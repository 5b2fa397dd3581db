/-
  THE LAW's block: so many bytes.
-/
import Derived.Test.YtnpjlmeiaegdkaaAwake
namespace Store

/-- the block of so many bytes, the first k laid -/
def blockTo (seed : UInt8) (n k : Nat) : List UInt8 := (List.range n).map fun i => if i < k then seed + UInt8.ofNat (i * 7) else 0
def block (seed : UInt8) (long : Bool) : List UInt8 := blockTo seed (if long = true then seed.toNat else 64) (if long = true then seed.toNat else 64)

theorem blockTo_zero (seed : UInt8) (n : Nat) : blockTo seed n 0 = List.replicate n 0 := by
  unfold blockTo
  apply List.ext_getElem?
  intro i
  by_cases h : i < n
  · simp [h]
  · simp [h]
theorem blockTo_succ (seed : UInt8) (n k : Nat) (hk : k < n) : (blockTo seed n k).set k (seed + UInt8.ofNat (k * 7)) = blockTo seed n (k + 1) := by
  unfold blockTo
  apply List.ext_getElem?
  intro i
  rw [List.getElem?_set]
  by_cases hi : k = i
  · subst hi
    simp [hk]
  · rw [if_neg hi]
    by_cases h : i < n
    · simp only [List.getElem?_map, List.getElem?_range h, Option.map_some]
      congr 1
      by_cases h2 : i < k
      · rw [if_pos h2, if_pos (by omega)]
      · rw [if_neg h2, if_neg (by omega)]
    · simp [h]
theorem length_block (seed : UInt8) (long : Bool) : (block seed long).length = if long = true then seed.toNat else 64 := by simp [block, blockTo]
end Store

namespace Go.Proofs.Ytnpjlmeiaegdkaa
open Go.RowKit Go.Azu

theorem u8_sum (seed : UInt8) (k : Nat) : ((seed.toNat : Int) + ((k : Int) * 7) % 256) % 256 = ((seed + UInt8.ofNat (k * 7)).toNat : Int) := by
  rw [UInt8.toNat_add, UInt8.toNat_ofNat']
  omega

theorem make_bytes (w : World) (n : Nat) (hn : n ≤ 1000000) : ∃ w1, (Instr.makeSlice 22 (.int .i64 (n : Int)) (.int .i64 (n : Int))).run Try.prog w = .ok (.slice (some ⟨w.heap.size, 0, none⟩) n n) w1 ∧
    w1.ownsRow w.heap.size 5 1 (.slice (some ⟨w.heap.size, 0, none⟩) n n) n (bytesV (List.replicate n 0)) ∧ Only [] w w1 := by
  obtain ⟨i, hi, hz, hsize, hby⟩ := info_parts bytesTy.info
  obtain ⟨w1, h1, h2, h3⟩ := run_make_full (P := Try.prog) w w.heap.size _ _ i _ 1 bytesTy.under hi hz hsize .i64 .i64 n (by rw [hby]; omega) (by simp only [maxLen]; omega) (Nat.le_refl _)
  refine ⟨w1, h1, ?_, (Only.refl [] w).grow h3 (by simp)⟩
  have e : (madeCells (Value.int .u8 0).cells (n * 1)).toList = bytesV (List.replicate n 0) := by
    rw [Nat.mul_one]
    simp [madeCells, bytesV, byteV, Value.cells]
    rw [List.eq_replicate_iff]
    simp [Nat.mod_one]
  rw [← e]
  exact h2

set_option maxHeartbeats 1000000 in
theorem block_any (seed : UInt8) (long : Bool) (w : World) :
    Calls Try.prog 10 #[.int .u8 seed.toNat, .bool long] w fun e w' => ∃ g n cap, e = .returned (.slice (some ⟨g, 0, none⟩) n cap) ∧ n ≤ cap ∧ n = (Store.block seed long).length ∧ w.heap.size ≤ g ∧ w'.ownsRow w.heap.size 5 1 (.slice (some ⟨g, 0, none⟩) n cap) n (bytesV (Store.block seed long)) ∧ Only [] w w' := by
  have hs := seed.toNat_lt
  obtain ⟨n, hn⟩ : ∃ n : Nat, n = if long = true then seed.toNat else 64 := ⟨_, rfl⟩
  have hn256 : n < 256 := by rw [hn]; split <;> omega
  have HB := Lib.hid (show Store.block seed long = Store.blockTo seed n n by rw [hn]; rfl)
  have HE := Lib.hid (show (Store.block seed long).length = n by rw [hn]; exact Store.length_block seed long)
  obtain ⟨w1, hmk, hown, ho⟩ := make_bytes w n (by omega)
  have hown0 : w1.ownsRow w.heap.size 5 1 (.slice (some ⟨w.heap.size, 0, none⟩) n n) n (bytesV (Store.blockTo seed n 0)) := by rw [Store.blockTo_zero]; exact hown
  clear hown
  cases long
  all_goals simp at hn
  · have hmk' : (Instr.makeSlice 22 (.int .i64 64) (.int .i64 64)).run Try.prog w = .ok (.slice (some ⟨w.heap.size, 0, none⟩) n n) w1 := by
      have := hmk; rw [show ((n : Nat) : Int) = 64 from by omega] at this; exact this
    clear hmk hn
    go_enter Try.func10, Try.ntmps10
    go_wp2_with fail
    go_loopw [7, 15] (fun _ i wr => ∃ k : Nat, k ≤ n ∧ i = .int .i64 k ∧ wr.ownsRow w.heap.size 5 1 (.slice (some ⟨w.heap.size, 0, none⟩) n n) n (bytesV (Store.blockTo seed n k)) ∧ Only [] w wr) (fun _ i _ => n - (intOf i).toNat)
    case atStart => exact ⟨0, by omega, rfl, hown0, ho⟩
    case round =>
      obtain ⟨k, hk, rfl, hown, hor⟩ := hrel
      by_cases hlt : k < n
      · have hcell : wr.cell? ⟨w.heap.size, k, none⟩ = some (.int .u8 (((Store.blockTo seed n k)[k]?.getD 0).toNat : Int)) := by
          rw [hown.cellAt _ (by omega)]
          simp [bytesV, byteV, Store.blockTo, hlt]
        have hfz : wr.frozen? ⟨w.heap.size, k, none⟩ = false := hown.frozenAt _
        go_wp2
        refine ⟨⟨k + 1, by omega, by simp, ?_, hor.setCell (.inr (Nat.le_refl _)) _⟩, by simp [intOf]; omega⟩
        have e : bytesV (Store.blockTo seed n (k + 1)) = (bytesV (Store.blockTo seed n k)).set k (.int .u8 (((seed.toNat : Int) + (k : Int) * 7) % 256)) := by
          rw [← Store.blockTo_succ seed n k hlt, bytesV, List.map_set, ← bytesV]
          congr 1
          simp only [byteV]
          congr 1
          have := u8_sum seed k
          omega
        rw [e]
        exact (hown.stored _ _).1
      · go_wp2
        go_ret
        obtain rfl : k = n := by omega
        exact ⟨_, _, _, rfl, Nat.le_refl _, HE.out.symm, Nat.le_refl _, by rw [HB.out]; exact hown, hor⟩
  · have hmk' : (Instr.makeSlice 22 (.int .i64 seed.toNat) (.int .i64 seed.toNat)).run Try.prog w = .ok (.slice (some ⟨w.heap.size, 0, none⟩) n n) w1 := by
      have := hmk; rw [show ((n : Nat) : Int) = (seed.toNat : Int) from by omega] at this; exact this
    clear hmk hn
    go_enter Try.func10, Try.ntmps10
    go_wp2_with fail
    go_loopw [7, 15] (fun _ i wr => ∃ k : Nat, k ≤ n ∧ i = .int .i64 k ∧ wr.ownsRow w.heap.size 5 1 (.slice (some ⟨w.heap.size, 0, none⟩) n n) n (bytesV (Store.blockTo seed n k)) ∧ Only [] w wr) (fun _ i _ => n - (intOf i).toNat)
    case atStart => exact ⟨0, by omega, rfl, hown0, ho⟩
    case round =>
      obtain ⟨k, hk, rfl, hown, hor⟩ := hrel
      by_cases hlt : k < n
      · have hcell : wr.cell? ⟨w.heap.size, k, none⟩ = some (.int .u8 (((Store.blockTo seed n k)[k]?.getD 0).toNat : Int)) := by
          rw [hown.cellAt _ (by omega)]
          simp [bytesV, byteV, Store.blockTo, hlt]
        have hfz : wr.frozen? ⟨w.heap.size, k, none⟩ = false := hown.frozenAt _
        go_wp2
        refine ⟨⟨k + 1, by omega, by simp, ?_, hor.setCell (.inr (Nat.le_refl _)) _⟩, by simp [intOf]; omega⟩
        have e : bytesV (Store.blockTo seed n (k + 1)) = (bytesV (Store.blockTo seed n k)).set k (.int .u8 (((seed.toNat : Int) + (k : Int) * 7) % 256)) := by
          rw [← Store.blockTo_succ seed n k hlt, bytesV, List.map_set, ← bytesV]
          congr 1
          simp only [byteV]
          congr 1
          have := u8_sum seed k
          omega
        rw [e]
        exact (hown.stored _ _).1
      · go_wp2
        go_ret
        obtain rfl : k = n := by omega
        exact ⟨_, _, _, rfl, Nat.le_refl _, HE.out.symm, Nat.le_refl _, by rw [HB.out]; exact hown, hor⟩
end Go.Proofs.Ytnpjlmeiaegdkaa
