/-
  THE CHECKSUM'S CODE COMPUTES THE CHECKSUM: crc.Sum, crc.Put, crc.Right over their Lean functions.
-/
import Derived.Test.YtnpjlmeiaegdkaaChecked
import Derived.Test.YtnpjlmeiaegdkaaWords
import Derived.Test.YtnpjlmeiaegdkaaCrcP
import Derived.Test.YtnpjlmeiaegdkaaAppend
import Derived.WalkKit
import Derived.Deep.LoopGhost
namespace Go.Proofs.Ytnpjlmeiaegdkaa
open Go.RowKit Go.Azu

theorem xor32 (a b : BitVec 32) : bits .xor .u32 (a.toNat : Int) (b.toNat : Int) = ((a ^^^ b).toNat : Int) := by
  rw [u32_xor_nat _ _ a.isLt b.isLt, BitVec.toNat_xor]
theorem shl32 (a : BitVec 32) : (a.toNat : Int) * (2 : Int) % (4294967296 : Int) = ((a <<< 1).toNat : Int) := by
  rw [BitVec.toNat_shiftLeft]; omega
theorem top32 (a : BitVec 32) : ((a.toNat : Int) / (2147483648 : Int) == (1 : Int)) = a.msb := by
  have h := a.isLt
  rw [BitVec.msb_eq_decide, Bool.eq_iff_iff]
  simp only [beq_iff_eq, decide_eq_true_eq]
  omega
theorem byte32 (c : UInt8) : (c.toNat : Int) % (4294967296 : Int) * (16777216 : Int) % (4294967296 : Int) = ((BitVec.ofNat 32 c.toNat <<< 24).toNat : Int) := by
  have h := c.toNat_lt
  rw [BitVec.toNat_shiftLeft, BitVec.toNat_ofNat]; omega
theorem not32 (a : BitVec 32) : bits .xor .u32 IntKind.u32.max (a.toNat : Int) = ((~~~ a).toNat : Int) := by
  have e : IntKind.u32.max = ((BitVec.allOnes 32).toNat : Int) := by decide
  have h : BitVec.allOnes 32 ^^^ a = ~~~ a := by rw [BitVec.not_def]
  rw [e, xor32, h]

theorem u32_congr {a b : Int} (h : a = b) : Value.int .u32 a = Value.int .u32 b := by rw [h]
theorem u8_congr {a b : Int} (h : a = b) : Value.int .u8 a = Value.int .u8 b := by rw [h]
theorem ret_congr {a b : Value} (h : a = b) : Ending.returned a = Ending.returned b := by rw [h]

theorem step_yes {R : BitVec 32} {j : Nat} (h : (((Crc.steps j R).toNat : Int) / (2147483648 : Int) == (1 : Int)) = true) : bits .xor .u32 (((Crc.steps j R).toNat : Int) * (2 : Int) % (4294967296 : Int)) (79764919 : Int) = ((Crc.steps (j + 1) R).toNat : Int) := by
  rw [top32] at h
  rw [Crc.steps_succ, shl32]
  have e : (79764919 : Int) = (Crc.poly.toNat : Int) := by decide
  rw [e, xor32]
  simp [Crc.step, h]
theorem step_no {R : BitVec 32} {j : Nat} (h : (((Crc.steps j R).toNat : Int) / (2147483648 : Int) == (1 : Int)) = false) : ((Crc.steps j R).toNat : Int) * (2 : Int) % (4294967296 : Int) = ((Crc.steps (j + 1) R).toNat : Int) := by
  rw [top32] at h
  rw [Crc.steps_succ, shl32]
  simp [Crc.step, h]

theorem run_take {l : List UInt8} {k : Nat} {c : UInt8} (h : l[k]? = some c) (n : BitVec 32) : Crc.run n (l.take (k + 1)) = Crc.byte (Crc.run n (l.take k)) c := by
  obtain ⟨hk, rfl⟩ := List.getElem?_eq_some_iff.1 h
  rw [List.take_succ_eq_append_getElem hk]
  rw [Crc.run, Crc.run, List.foldl_append]; rfl

set_option maxHeartbeats 400000 in
theorem sum_any (B : Nat) (A : Option Addr) (n c : Nat) (l : List UInt8) (w : World) (hn : n ≤ maxLen) (hr : Byts w B A n l) :
    Calls Try.prog 20 #[.slice A n c] w fun e w' => e = .returned (.int .u32 ((Crc.sum l).toNat : Int)) ∧ w = w' := by
  unfold maxLen at hn
  have HL := Lib.hid hr.len
  go_enter Try.func20, Try.ntmps20
  go_wp2
  go_loop [3, 8] (fun x i => ∃ k : Nat, k ≤ n ∧ i = .int .i64 k ∧ x = .int .u32 ((Crc.run Crc.ones (l.take k)).toNat : Int)) (fun _ i => n - (intOf i).toNat)
  case atStart => exact ⟨0, Nat.zero_le _, rfl, rfl⟩
  case round =>
    obtain ⟨k, hk, rfl, rfl⟩ := hrel
    by_cases hlt : k < n
    · obtain ⟨ad, ch, rfl, hB, hu, hc⟩ := hr.at_ hlt
      have HU := Lib.hid hu
      clear hu
      go_wp2
      rw [byte32, xor32]
      go_loop [3, 17] (fun x i => ∃ j : Nat, j ≤ 8 ∧ i = .int .i64 j ∧ x = .int .u32 ((Crc.steps j (Crc.run Crc.ones (List.take k l) ^^^ (BitVec.ofNat 32 ch.toNat <<< 24))).toNat : Int)) (fun _ i => 8 - (intOf i).toNat)
      case atStart => exact ⟨0, by omega, rfl, rfl⟩
      case round =>
        obtain ⟨j, hj, rfl, rfl⟩ := hrel
        by_cases hj8 : j < 8
        · generalize Crc.run Crc.ones (List.take k l) ^^^ (BitVec.ofNat 32 ch.toNat <<< 24) = R
          go_wp2
          all_goals
            go_round
            case rel => exact ⟨j + 1, by omega, by go_num, by first | exact u32_congr (step_yes ‹_›) | exact u32_congr (step_no ‹_›)⟩
            case measure => simp [intOf]; omega
        · have e8 : j = 8 := by omega
          have E8 := Lib.hid e8
          clear e8
          go_wp2
          go_round
          case rel => exact ⟨k + 1, by omega, by go_num, u32_congr (by rw [run_take HU.out, E8.out]; rfl)⟩
          case measure => simp [intOf]; omega
    · go_wp2
      go_ret
      refine ⟨ret_congr (u32_congr ?_), rfl⟩
      have e : l.take k = l := List.take_of_length_le (by rw [HL.out]; omega)
      rw [not32, e]; rfl
theorem be_reads (w : World) (S : BitVec 32) : Reads (w.alloc (.cells #[.int .u8 ((S.toNat : Int) / 16777216), .int .u8 ((S.toNat : Int) / 65536 % 256), .int .u8 ((S.toNat : Int) / 256 % 256), .int .u8 ((S.toNat : Int) % 256)] 5)) (w.heap.size + 1) 1 (some ⟨w.heap.size, 0, none⟩) 4 (bytesV (Crc.be S)) := by
  have hS := S.isLt
  refine ⟨rfl, fun _ => ⟨_, rfl, by simp, ?_⟩⟩
  have e0 : UInt8.toNat (UInt8.ofNat (S.toNat / 16777216)) = S.toNat / 16777216 := by rw [UInt8.toNat_ofNat']; omega
  have e1 : UInt8.toNat (UInt8.ofNat (S.toNat / 65536)) = S.toNat / 65536 % 256 := by rw [UInt8.toNat_ofNat']
  have e2 : UInt8.toNat (UInt8.ofNat (S.toNat / 256)) = S.toNat / 256 % 256 := by rw [UInt8.toNat_ofNat']
  have e3 : UInt8.toNat (UInt8.ofNat S.toNat) = S.toNat % 256 := by rw [UInt8.toNat_ofNat']
  have hb : ∀ j, (w.alloc (.cells #[.int .u8 ((S.toNat : Int) / 16777216), .int .u8 ((S.toNat : Int) / 65536 % 256), .int .u8 ((S.toNat : Int) / 256 % 256), .int .u8 ((S.toNat : Int) % 256)] 5)).cell? ⟨w.heap.size, j, none⟩ = #[Value.int .u8 ((S.toNat : Int) / 16777216), .int .u8 ((S.toNat : Int) / 65536 % 256), .int .u8 ((S.toNat : Int) / 256 % 256), .int .u8 ((S.toNat : Int) % 256)][j]? :=
    fun j => (Blk.new w 5 _).cell j
  intro j u hu
  have hadd : (⟨w.heap.size, 0, none⟩ : Addr).add j = ⟨w.heap.size, j, none⟩ := by unfold Addr.add; split <;> simp_all
  rw [hadd, hb]
  match j, hu with
  | 0, hu => simp [bytesV, Crc.be, byteV, e0] at hu; simp [← hu]
  | 1, hu => simp [bytesV, Crc.be, byteV, e1] at hu; simp [← hu]
  | 2, hu => simp [bytesV, Crc.be, byteV, e2] at hu; simp [← hu]
  | 3, hu => simp [bytesV, Crc.be, byteV, e3] at hu; simp [← hu]
  | j + 4, hu => simp [bytesV, Crc.be] at hu

theorem info5 : (Try.prog.info? 5).map (fun i => (i.zero, i.size, i.bytes)) = some (some (.int .u8 0), 1, 1) := by kernel_rfl

theorem bytesTy : STy Try.prog 22 5 (.int .u8 0) 1 1 := ⟨Try.underlying22, info5, rfl, by omega⟩

set_option maxHeartbeats 400000 in
theorem put_any (A : Option Addr) (n c : Nat) (l : List UInt8) (w : World) (hn : n ≤ 140737488351232) (hr : Byts w w.heap.size A n l) :
    Calls Try.prog 18 #[.slice A n c] w fun e w' => ∃ g cap, e = .returned (.slice (some ⟨g, 0, none⟩) (n + 4) cap) ∧ w.heap.size ≤ g ∧ n + 4 ≤ cap ∧
      w'.ownsRow w.heap.size 5 1 (.slice (some ⟨g, 0, none⟩) (n + 4) cap) (n + 4) (bytesV (Crc.put l)) ∧ Only [] w w' := by
  have hown0 := ownsRow_empty w 5 1
  generalize hS : Crc.sum l = S
  have HS := Lib.hid hS
  clear hS
  have hS4 := S.isLt
  go_enter Try.func18, Try.ntmps18
  go_wp2_with (first
    | (go_at_call 20; refine (sum_any _ _ _ _ l _ (by simp only [maxLen]; omega) hr).mono ?_; rw [HS.out]; rintro e w' ⟨rfl, rfl⟩)
    | (at_builtin
       refine wpList_append_ex bytesTy (.tmp 6) (.tmp 7) rfl rfl hown0 rfl (hr.alloc (Nat.le_refl _) _) rfl (bytesV_one l) (by simp only [maxLen]; omega) (by omega) ?_
       intro g1 cap1 w1 hg0 hglt hcap hown1 hgrow1 _
       simp only [Nat.zero_add, List.nil_append] at hown1 hcap
       simp only [Nat.zero_add]
       have ho1 : Only [] w w1 := ((Only.refl [] w).alloc _).grow hgrow1 (by simp)
       have hsz1 := ho1.size
       clear hgrow1)
    | (at_builtin
       refine wpList_append_ex bytesTy (.tmp 8) (.tmp 20) rfl rfl (hown1.alloc _) rfl (be_reads w1 S) rfl (bytesV_one _) (by simp only [maxLen]; omega) (by omega) ?_
       intro g2 cap2 w2 hg20 hg2lt hcap2 hown2 hgrow2 _))
  go_ret
  refine ⟨g2, cap2, rfl, hg20, hcap2, ?_, (ho1.alloc _).grow hgrow2 fun k hk => .inr (by injection hk with hk; omega)⟩
  have e : bytesV l ++ bytesV (Crc.be S) = bytesV (Crc.put l) := by rw [Crc.put, HS.out, bytesV_append]
  rw [← e]
  exact hown2

theorem be_at (S : BitVec 32) {k : Nat} (hk : k < 4) : ∃ b, (Crc.be S)[k]? = some b ∧ (b.toNat : Int) = (S.toNat : Int) / (2 : Int) ^ (24 - 8 * k) % (256 : Int) := by
  have hS := S.isLt
  match k, hk with
  | 0, _ => exact ⟨_, rfl, by rw [UInt8.toNat_ofNat']; omega⟩
  | 1, _ => exact ⟨_, rfl, by rw [UInt8.toNat_ofNat']; omega⟩
  | 2, _ => exact ⟨_, rfl, by rw [UInt8.toNat_ofNat']; omega⟩
  | 3, _ => exact ⟨_, rfl, by rw [UInt8.toNat_ofNat']; omega⟩
theorem be_other {S : BitVec 32} {k : Nat} {d : List UInt8} {ch : UInt8} (hk : k < 4) (hu : d[k]? = some ch) (h : ((S.toNat : Int) / (2 : Int) ^ (24 - 8 * k) % (256 : Int) != (ch.toNat : Int)) = true) : d ≠ Crc.be S := by
  rintro rfl
  obtain ⟨b, hb, he⟩ := be_at S hk
  rw [hb] at hu
  obtain rfl := Option.some.inj hu
  rw [he] at h
  simp at h
theorem be_more {S : BitVec 32} {k : Nat} {d : List UInt8} {ch : UInt8} (hk : k < 4) (hu : d[k]? = some ch) (h : ((S.toNat : Int) / (2 : Int) ^ (24 - 8 * k) % (256 : Int) != (ch.toNat : Int)) = false)
    (hs : d.take k = (Crc.be S).take k) : d.take (k + 1) = (Crc.be S).take (k + 1) := by
  obtain ⟨b, hb, he⟩ := be_at S hk
  rw [← he] at h
  have h' : b = ch := by
    have : (b.toNat : Int) = ch.toNat := by simpa using h
    exact UInt8.toNat_inj.1 (by omega)
  rw [List.take_add_one, List.take_add_one, hs, hu, hb, h']
theorem be_all {S : BitVec 32} {k m : Nat} {l : List UInt8} (hl : l.length = m + 4) (hk : k = 4) (hs : (l.drop m).take k = (Crc.be S).take k) : l.drop m = Crc.be S := by
  subst hk
  have h1 : (l.drop m).take 4 = l.drop m := List.take_of_length_le (by rw [List.length_drop]; omega)
  have h2 : (Crc.be S).take 4 = Crc.be S := rfl
  rwa [h1, h2] at hs

set_option maxHeartbeats 400000 in
theorem right_any (B : Nat) (A : Option Addr) (n c : Nat) (l : List UInt8) (w : World) (hn : n ≤ maxLen) (hnc : n ≤ c) (hr : Byts w B A n l) :
    Calls Try.prog 12 #[.slice A n c] w fun e w' => e = .returned (.bool (Crc.right l)) ∧ w = w' := by
  unfold maxLen at hn
  have HL := Lib.hid hr.len
  by_cases h4 : n < 4
  · go_enter Try.func12, Try.ntmps12
    go_wp2
    go_ret
    exact ⟨ret_congr (by simp [Crc.right, HL.out]; omega), rfl⟩
  · obtain ⟨m, rfl⟩ : ∃ m, n = m + 4 := ⟨n - 4, by omega⟩
    have hr1 := hr.head (k := m) (by omega)
    have hr2 := hr.cut (k := m) (by omega) hnc
    obtain ⟨ad, rfl, hB, -⟩ := hr.2 (by omega)
    rw [if_neg (by omega), show m + 4 - m = 4 from by omega] at hr2
    generalize hS : Crc.sum (l.take m) = S
    have HS := Lib.hid hS
    clear hS
    have hS4 := S.isLt
    have HR := Lib.hid (show Crc.right l = decide (l.drop m = Crc.be S) by
      have e : l.length = m + 4 := HL.out
      rw [Crc.right, e, show m + 4 - 4 = m from by omega, HS.out]
      simp)
    go_enter Try.func12, Try.ntmps12
    go_wp2_with (go_at_call 20; refine (sum_any _ _ _ _ (l.take m) _ (by simp only [maxLen]; omega) hr1).mono ?_; rw [HS.out]; rintro e w' ⟨rfl, rfl⟩)
    go_loop [21] (fun i => ∃ k : Nat, k ≤ 4 ∧ i = .int .i64 k ∧ (l.drop m).take k = (Crc.be S).take k) (fun i => 4 - (intOf i).toNat)
    case atStart => exact ⟨0, by omega, rfl, rfl⟩
    case round =>
      obtain ⟨k, hk, rfl, hsame⟩ := hrel
      have HM := Lib.hid hsame
      clear hsame
      by_cases hlt : k < 4
      · obtain ⟨ad', ch, he, hB', hu, hc⟩ := hr2.at_ hlt
        obtain rfl : ad.add m = ad' := by simpa using he
        have HU := Lib.hid hu
        clear hu he
        have hk4 : k = 0 ∨ k = 1 ∨ k = 2 ∨ k = 3 := by omega
        go_wp2
        · go_ret
          exact ⟨ret_congr (congrArg Value.bool (HR.out.trans (decide_eq_false (be_other hlt HU.out ‹_›))).symm), rfl⟩
        · go_round
          case rel => exact ⟨k + 1, by omega, by go_num, be_more hlt HU.out ‹_› HM.out⟩
          case measure => simp [intOf]; omega
      · have h3 : l.drop m = Crc.be S := be_all HL.out (show k = 4 by omega) HM.out
        have H3 := Lib.hid h3
        clear h3
        go_wp2
        go_ret
        exact ⟨ret_congr (congrArg Value.bool (HR.out.trans (decide_eq_true H3.out)).symm), rfl⟩
end Go.Proofs.Ytnpjlmeiaegdkaa
