/-
  A READER MADE; A WRITER's BYTES HANDED OUT.
-/
import Derived.Test.YtjeeeiekabjcfaaTakes
namespace Go.Proofs.Ytjeeeiekabjcfaa
open Go.RowKit Go.Azu

set_option maxHeartbeats 800000 in
theorem read_any {B : Nat} {A : Option Addr} {n c : Nat} {l : List UInt8} (w : World) (h : Byts w B A n l) (hB : B ≤ w.heap.size) (hn : n ≤ 1000000) :
    Calls Try.prog 11 #[.slice A n c] w fun x w' => ∃ g, x = .returned (.pointer (some ⟨g, 0, none⟩)) ∧ ReaderAt w' g ⟨l, 0, 0⟩ ∧ w.heap.size ≤ g ∧ Only [] w w' := by
  have hr : Reads (w.alloc (.cells #[] 5)) B 1 A n (bytesV l) := Reads.alloc h hB _
  have hl := h.len
  have HL := Lib.hid hl
  clear hl
  have hmx : n ≤ maxLen := by simp only [maxLen]; omega
  have hby : n * 1 ≤ 140737488355328 := by omega
  go_enter Try.func11, Try.ntmps11
  go_wp2_with (at_builtin
               refine wpList_clone bytesTy (.tmp 3) (.tmp 4) rfl rfl (Blk.new w _ #[]) rfl hr rfl (bytesV_one _) hmx hby ?_
               intro ga cap w2 hcap hat hown ho2)
  go_ret
  refine ⟨w2.heap.size, rfl, ⟨⟨some ⟨ga, 0, none⟩, cap, ?_, ?_, ?_⟩, by simp, ?_⟩, ?_, ?_⟩
  · rw [HL.out]; exact Blk.new ..
  · rw [HL.out]
    exact ownsRow_low (hown.alloc _) (Nat.zero_le _)
  · rw [HL.out]; exact hcap
  · rw [HL.out]; exact hn
  · have := ho2.size; simp at this; omega
  · exact (((Only.refl [] w).alloc _).trans ho2).alloc _

set_option maxHeartbeats 800000 in
theorem wBytes_any {g : Nat} {v : Value} {l : List UInt8} (w : World) (h : WriterAt w g v l) (hn : l.length ≤ 1000000) :
    Calls Try.prog 12 #[.pointer (some ⟨g, 0, none⟩)] w fun x w' => ∃ ga cap, x = .returned (.slice (some ⟨ga, 0, none⟩) l.length cap) ∧ Byts w' w'.heap.size (some ⟨ga, 0, none⟩) l.length l ∧ w.heap.size ≤ ga ∧ l.length ≤ cap ∧ Only [] w w' := by
  obtain ⟨A, cc, hv⟩ : ∃ A cc, v = .slice A l.length cc := by
    rcases h.own.2 with ⟨e, hx⟩ | ⟨g', cap, cur, e, _⟩
    · have : l = [] := List.eq_nil_of_length_eq_zero hx
      subst this
      exact ⟨none, 0, e⟩
    · exact ⟨_, _, e⟩
  subst hv
  have c0 : (w.alloc (.cells #[] 5)).cell? ⟨g, 0, none⟩ = some (.slice A l.length cc) := (h.blk.alloc _).cell 0
  have hr : Reads (w.alloc (.cells #[] 5)) w.heap.size 1 A l.length (bytesV l) := Reads.alloc (Reads.of_own h.own) (Nat.le_refl _) _
  have hmx : l.length ≤ maxLen := by simp only [maxLen]; omega
  have hby : l.length * 1 ≤ 140737488355328 := by omega
  generalize hk : l.length = n at *
  have HK := Lib.hid hk
  clear hk
  go_enter Try.func12, Try.ntmps12
  go_wp2_with (at_builtin
               refine wpList_clone bytesTy (.tmp 5) (.tmp 9) rfl rfl (Blk.new w _ #[]) rfl hr rfl (bytesV_one _) hmx hby ?_
               intro ga cap w2 hcap hat hown ho2)
  go_ret
  refine ⟨ga, cap, rfl, Reads.of_own hown, ?_, hcap, ((Only.refl [] w).alloc _).trans ho2⟩
  rcases hat with e | e
  · omega
  · simp at e; omega
end Go.Proofs.Ytjeeeiekabjcfaa
