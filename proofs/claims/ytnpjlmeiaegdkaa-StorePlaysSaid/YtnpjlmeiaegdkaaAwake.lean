/-
  THE LAW's FIXED FACT.
-/
import Derived.Test.YtnpjlmeiaegdkaaNew
import Derived.Test.YtnpjlmeiaegdkaaTake
namespace Go.Proofs.Ytnpjlmeiaegdkaa
open Go.RowKit Go.Azu

theorem DevAt.low {w : World} {base base' gd gm gb : Nat} {D : Store.Dev} (h : DevAt w base gd gm gb D) (hb : base' ≤ base) : DevAt w base' gd gm gb D := by
  obtain ⟨vF, vG, fm, fb, nb, h1, h2, h3, h4, h5, h6, h7, h8, h9, h10⟩ := h.at_
  have hbd := h.based
  exact ⟨⟨vF, vG, fm, fb, nb, h1, h2, h3, fun k v b hk hv => ⟨(h4 k v b hk hv).1, ownsRow_low (h4 k v b hk hv).2 hb⟩, h5, ownsRow_low h6 hb, h7, ownsRow_low h8 hb, h9, h10⟩, ⟨by omega, by omega, by omega⟩, h.apart, h.small⟩

theorem DevAt.lt {w : World} {base gd gm gb : Nat} {D : Store.Dev} (h : DevAt w base gd gm gb D) : gd < w.heap.size := by
  obtain ⟨vF, vG, fm, fb, nb, h1, -⟩ := h.at_; exact h1.lt

def zeros (n : Nat) : List UInt8 := List.replicate n 0
theorem run_make64 (w : World) : (Instr.makeSlice 22 (.int .i64 64) (.int .i64 64)).run Try.prog w = .ok (.slice (some ⟨w.heap.size, 0, none⟩) 64 64) (w.alloc (.cells (bytesV (zeros 64)).toArray 5)) := by kernel_rfl

theorem wp_enter {P : Program} {o : Oper} {a : Act} {Q : Exit → Act → World → Prop} {w w' : World} {K : Act → World → Prop} {f : FuncId} {args : Array Value} (h : (execOp a.eval o).run P w = .ok (.enter f args) w') (hc : Calls P f args w' fun e w2 => ∃ v, e = .returned v ∧ K (a.put o.dst v) w2) : o.wp P a w K Q := by
  unfold Oper.wp
  rw [h, Oper.upon_enter]
  refine hc.mono ?_
  rintro e w2 ⟨v, rfl, hk⟩
  exact hk

/-- what each operation of Awake's regions yields -/
def AwakeVal (room p1 p2 : Int) (h0 : Nat) : Nat → Value → World → Prop
  | 0, v, _ => v = .agg #[.slice none 0 0, .slice none 0 0, .map none]
  | 1, v, w => ∃ gd gm gb, v = .pointer (some ⟨gd, 0, none⟩) ∧ DevAt w h0 gd gm gb (Store.new room [] [] fun _ => none)
  | 2, v, w => ∃ g, v = .slice (some ⟨g, 0, none⟩) 64 64 ∧ Blk w g 5 (bytesV (zeros 64)).toArray
  | 3, v, _ => v = .tuple #[.int .i64 p1, .int .i64 p2]
  | 4, v, _ => v = .tuple #[.int .i64 p1, .int .i64 p2]
  | 5, v, _ => v = .int .i64 p1
  | 6, v, _ => v = .int .i64 p2
  | 7, v, _ => v = .int .i64 p1
  | _, _, _ => True
theorem nobody {ops : Array Oper} {n j : Nat} (h : ((List.range n).all fun k => !asks ops k j) = true) : ∀ k, k < n → asks ops k j = false := fun k hk => by
  have := List.all_eq_true.1 h k (List.mem_range.2 hk)
  simpa using this
def AwakeR : Nat → World → World → Prop
  | 3, _, _ => True
  | _, w, w' => Only [] w w'

theorem awakeVal_mono {ops : Array Oper} {room p1 p2 : Int} {h0 : Nat} (hw1 : ((List.range 8).all fun k => asks ops k 1 == (k == 3)) = true) (hw2 : ((List.range 8).all fun k => asks ops k 2 == (k == 3)) = true)
    (i j : Nat) (v : Value) (w w' : World) (_ : i < 8) (_ : j < 8) (hu : (∀ k, k < 8 → asks ops k j = false) ∨ ∃ k, k < 8 ∧ k ≠ i ∧ asks ops k j = true) (h : AwakeVal room p1 p2 h0 j v w) (ho : AwakeR i w w') : AwakeVal room p1 p2 h0 j v w' := by
  have ask : ∀ d, ((List.range 8).all fun k => asks ops k d == (k == 3)) = true → ∀ k, k < 8 → (asks ops k d = true ↔ k = 3) := fun d hd k hk => by
    have := List.all_eq_true.1 hd k (List.mem_range.2 hk)
    have h1 : asks ops k d = (k == 3) := by simpa using this
    rw [h1]; simp
  have only : (j = 1 ∨ j = 2) → Only [] w w' := fun hj => by
    have hd : ∀ k, k < 8 → (asks ops k j = true ↔ k = 3) := by
      rcases hj with rfl | rfl
      · exact ask 1 hw1
      · exact ask 2 hw2
    have hi : i ≠ 3 := by
      rintro rfl
      rcases hu with hu | ⟨k, hk, hki, hkw⟩
      · have := (hd 3 (by omega)).2 rfl
        rw [hu 3 (by omega)] at this; cases this
      · exact hki ((hd k hk).1 hkw)
    unfold AwakeR at ho
    split at ho
    · exact absurd rfl hi
    · exact ho
  match j, h with
  | 0, h => exact h
  | 1, ⟨gd, gm, gb, h1, h2⟩ => exact ⟨gd, gm, gb, h1, h2.only (only (.inl rfl)) (by simp)⟩
  | 2, ⟨g, h1, h2⟩ => exact ⟨g, h1, h2.only (only (.inr rfl)) (by simp)⟩
  | 3, h => exact h
  | 4, h => exact h
  | 5, h => exact h
  | 6, h => exact h
  | 7, h => exact h
  | _ + 8, _ => trivial

theorem cell_at_add (w : World) (g j : Nat) : w.cell? ((⟨g, 0, none⟩ : Addr).add j) = w.cell? ⟨g, j, none⟩ := by
  unfold Addr.add
  split
  · subst ‹_›; rfl
  · simp
theorem byts_blk {w : World} {g : Nat} {l : List UInt8} {n : Nat} (h : Blk w g 5 (bytesV l).toArray) (hl : l.length = n) : Byts w w.heap.size (some ⟨g, 0, none⟩) n l := by
  refine ⟨by simp [bytesV, hl], fun _ => ⟨_, rfl, h.lt, fun j u hu => ?_⟩⟩
  have := h.cell j
  rw [List.getElem?_toArray, hu] at this
  rw [cell_at_add]
  exact this

set_option maxHeartbeats 2000000 in
theorem awake_any (w : World) : Calls Try.prog 5 #[] w fun e w' => e = .returned (.bool true) ∧ Only [] w w' := by
  go_enter Try.func5, Try.ntmps5
  go_wp2_with fail
  refine wp_region_ext2 8 (by kernel_rfl) (fun wx => Only [] w wx) AwakeR (AwakeVal 0 0 8 w.heap.size) (Only.refl [] _).drew (awakeVal_mono (by kernel_rfl) (by kernel_rfl)) (by kernel_rfl) ?_ (by kernel_rfl) ?_ ?_
  · intro i hi t ht
    exact dst_small (n := 8) (m := 29) (by kernel_rfl) hi ht
  · intro i hi o ho vs a w4 hv h0 how
    have hsz4 := how.size
    match i, hi with
    | 0, _ =>
      simp at ho; subst ho
      exact wp_value (v := .agg #[.slice none 0 0, .slice none 0 0, .map none]) (w' := w4) (by simp only [execOp]; go_simp) ⟨_, rfl, rfl, Only.refl _ _, how⟩
    | 1, _ =>
      simp at ho; subst ho
      obtain ⟨v0, e0⟩ := hv 0 (by kernel_rfl)
      have e0' : a.tmps[6]?.getD undef = .agg #[.slice none 0 0, .slice none 0 0, .map none] := by have := (e0 6 rfl).trans v0; simpa [Act.eval] using this
      refine wp_enter (f := 6) (args := #[.int .i64 0, .agg #[.slice none 0 0, .slice none 0 0, .map none]]) (w' := w4) (by simp [execOp]; go_simp) ?_
      refine (devNew_any 0 none none 0 0 0 0 [] [] none (fun _ => none) w4 (by omega) Reads.none_ Reads.none_ rfl rfl (by omega) (by omega) (.inl ⟨rfl, rfl⟩) (by simp)).mono ?_
      rintro e wx ⟨gd, gm, gb, rfl, hD, ho⟩
      exact ⟨_, rfl, _, rfl, ⟨gd, gm, gb, rfl, hD.low how.size⟩, ho, how.trans ho⟩
    | 2, _ =>
      simp at ho; subst ho
      exact wp_value (v := .slice (some ⟨w4.heap.size, 0, none⟩) 64 64) (w' := w4.alloc (.cells (bytesV (zeros 64)).toArray 5)) (by simp [execOp, Act.eval, run_make64, Result.andThen]) ⟨_, rfl, ⟨_, rfl, Blk.new _ _ _⟩, (Only.refl _ _).alloc _, how.alloc _⟩
    | 3, _ =>
      simp at ho; subst ho
      obtain ⟨⟨gd, gm, gb, v1, hD⟩, e1⟩ := hv 1 (by kernel_rfl)
      obtain ⟨⟨g, v2, hg⟩, e2⟩ := hv 2 (by kernel_rfl)
      have e1' : a.tmps[7]?.getD undef = .pointer (some ⟨gd, 0, none⟩) := by have := (e1 7 rfl).trans v1; simpa [Act.eval] using this
      have e2' : a.tmps[8]?.getD undef = .slice (some ⟨g, 0, none⟩) 64 64 := by have := (e2 8 rfl).trans v2; simpa [Act.eval] using this
      have hne : gd ≠ g := by
        rintro rfl
        obtain ⟨vF, vG, fm, fb, nb, h1, -⟩ := hD.at_
        exact Blk.ne_ h1 hg (by decide) rfl
      refine wp_enter (f := 7) (args := #[.pointer (some ⟨gd, 0, none⟩), .slice (some ⟨g, 0, none⟩) 64 64]) (w' := w4) (by simp [execOp]; go_simp) ?_
      refine (devPut_any (some ⟨g, 0, none⟩) 64 (zeros 64) w4 hD (byts_blk hg rfl) (Nat.le_refl _) (by rintro ad ⟨⟩; exact Ne.symm hne) (by simp [Store.new]) (by simp [Store.new])).mono ?_
      rintro e wx ⟨rfl, hDx, hox⟩
      exact ⟨_, rfl, _, rfl, rfl, trivial, how.next hox (by have := hD.based; simp; omega)⟩
    | 4, _ =>
      simp at ho; subst ho
      obtain ⟨v3, e3⟩ := hv 3 (by kernel_rfl)
      have e3' := (e3 9 rfl).trans v3
      exact wp_value (v := .tuple #[.int .i64 0, .int .i64 8]) (w' := w4) (by simp only [execOp, e3']; go_simp) ⟨_, rfl, rfl, Only.refl _ _, how⟩
    | 5, _ =>
      simp at ho; subst ho
      obtain ⟨v4, e4⟩ := hv 4 (by kernel_rfl)
      have e4' := (e4 5 rfl).trans v4
      exact wp_value (v := .int .i64 0) (w' := w4) (by simp only [execOp, e4']; go_simp) ⟨_, rfl, rfl, Only.refl _ _, how⟩
    | 6, _ =>
      simp at ho; subst ho
      obtain ⟨v4, e4⟩ := hv 4 (by kernel_rfl)
      have e4' := (e4 5 rfl).trans v4
      exact wp_value (v := .int .i64 8) (w' := w4) (by simp only [execOp, e4']; go_simp) ⟨_, rfl, rfl, Only.refl _ _, how⟩
    | 7, _ =>
      simp at ho; subst ho
      obtain ⟨v5, e5⟩ := hv 5 (by kernel_rfl)
      have e5' := (e5 10 rfl).trans v5
      exact wp_value (v := .int .i64 0) (w' := w4) (by simp only [execOp, e5']; go_simp) ⟨_, rfl, rfl, Only.refl _ _, how⟩
  · intro vs w5 hv ho_w5
    have v6 : vs 6 = .int .i64 8 := hv 6 (by omega) (nobody (by kernel_rfl))
    have v7 : vs 7 = .int .i64 0 := hv 7 (by omega) (nobody (by kernel_rfl))
    simp only [putAll, List.range, List.range.loop, List.foldl_cons, List.foldl_nil, dstOf, Act.put, List.getElem?_toArray, List.getElem?_cons_succ, List.getElem?_cons_zero, Option.bind_some, List.setIfInBounds_toArray, List.set_cons_succ, List.set_cons_zero, List.drop_succ_cons, List.drop_zero, v6, v7]
    clear v6 v7 hv
    go_wp2_with fail
    refine wp_region_ext2 8 (by kernel_rfl) (fun wx => Only [] w5 wx) AwakeR (AwakeVal 1 1 0 w5.heap.size) (Only.refl [] _).drew (awakeVal_mono (by kernel_rfl) (by kernel_rfl)) (by kernel_rfl) ?_ (by kernel_rfl) ?_ ?_
    · intro i hi t ht
      exact dst_small (n := 8) (m := 29) (by kernel_rfl) hi ht
    · intro i hi o ho vs a w4 hv h0 how
      have hsz4 := how.size
      match i, hi with
      | 0, _ =>
        simp at ho; subst ho
        exact wp_value (v := .agg #[.slice none 0 0, .slice none 0 0, .map none]) (w' := w4) (by simp only [execOp]; go_simp) ⟨_, rfl, rfl, Only.refl _ _, how⟩
      | 1, _ =>
        simp at ho; subst ho
        obtain ⟨v0, e0⟩ := hv 0 (by kernel_rfl)
        have e0' : a.tmps[13]?.getD undef = .agg #[.slice none 0 0, .slice none 0 0, .map none] := by have := (e0 13 rfl).trans v0; simpa [Act.eval] using this
        refine wp_enter (f := 6) (args := #[.int .i64 1, .agg #[.slice none 0 0, .slice none 0 0, .map none]]) (w' := w4) (by simp [execOp]; go_simp) ?_
        refine (devNew_any 1 none none 0 0 0 0 [] [] none (fun _ => none) w4 (by omega) Reads.none_ Reads.none_ rfl rfl (by omega) (by omega) (.inl ⟨rfl, rfl⟩) (by simp)).mono ?_
        rintro e wx ⟨gd, gm, gb, rfl, hD, ho⟩
        exact ⟨_, rfl, _, rfl, ⟨gd, gm, gb, rfl, hD.low how.size⟩, ho, how.trans ho⟩
      | 2, _ =>
        simp at ho; subst ho
        exact wp_value (v := .slice (some ⟨w4.heap.size, 0, none⟩) 64 64) (w' := w4.alloc (.cells (bytesV (zeros 64)).toArray 5)) (by simp [execOp, Act.eval, run_make64, Result.andThen]) ⟨_, rfl, ⟨_, rfl, Blk.new _ _ _⟩, (Only.refl _ _).alloc _, how.alloc _⟩
      | 3, _ =>
        simp at ho; subst ho
        obtain ⟨⟨gd, gm, gb, v1, hD⟩, e1⟩ := hv 1 (by kernel_rfl)
        obtain ⟨⟨g, v2, hg⟩, e2⟩ := hv 2 (by kernel_rfl)
        have e1' : a.tmps[14]?.getD undef = .pointer (some ⟨gd, 0, none⟩) := by have := (e1 14 rfl).trans v1; simpa [Act.eval] using this
        have e2' : a.tmps[15]?.getD undef = .slice (some ⟨g, 0, none⟩) 64 64 := by have := (e2 15 rfl).trans v2; simpa [Act.eval] using this
        have hne : gd ≠ g := by
          rintro rfl
          obtain ⟨vF, vG, fm, fb, nb, h1, -⟩ := hD.at_
          exact Blk.ne_ h1 hg (by decide) rfl
        refine wp_enter (f := 7) (args := #[.pointer (some ⟨gd, 0, none⟩), .slice (some ⟨g, 0, none⟩) 64 64]) (w' := w4) (by simp [execOp]; go_simp) ?_
        refine (devPut_any (some ⟨g, 0, none⟩) 64 (zeros 64) w4 hD (byts_blk hg rfl) (Nat.le_refl _) (by rintro ad ⟨⟩; exact Ne.symm hne) (by simp [Store.new]) (by simp [Store.new])).mono ?_
        rintro e wx ⟨rfl, hDx, hox⟩
        exact ⟨_, rfl, _, rfl, rfl, trivial, how.next hox (by have := hD.based; simp; omega)⟩
      | 4, _ =>
        simp at ho; subst ho
        obtain ⟨v3, e3⟩ := hv 3 (by kernel_rfl)
        have e3' := (e3 16 rfl).trans v3
        exact wp_value (v := .tuple #[.int .i64 1, .int .i64 0]) (w' := w4) (by simp only [execOp, e3']; go_simp) ⟨_, rfl, rfl, Only.refl _ _, how⟩
      | 5, _ =>
        simp at ho; subst ho
        obtain ⟨v4, e4⟩ := hv 4 (by kernel_rfl)
        have e4' := (e4 12 rfl).trans v4
        exact wp_value (v := .int .i64 1) (w' := w4) (by simp only [execOp, e4']; go_simp) ⟨_, rfl, rfl, Only.refl _ _, how⟩
      | 6, _ =>
        simp at ho; subst ho
        obtain ⟨v4, e4⟩ := hv 4 (by kernel_rfl)
        have e4' := (e4 12 rfl).trans v4
        exact wp_value (v := .int .i64 0) (w' := w4) (by simp only [execOp, e4']; go_simp) ⟨_, rfl, rfl, Only.refl _ _, how⟩
      | 7, _ =>
        simp at ho; subst ho
        obtain ⟨v5, e5⟩ := hv 5 (by kernel_rfl)
        have e5' := (e5 17 rfl).trans v5
        exact wp_value (v := .int .i64 1) (w' := w4) (by simp only [execOp, e5']; go_simp) ⟨_, rfl, rfl, Only.refl _ _, how⟩
    · intro vs w6 hv ho_w6
      have v6 : vs 6 = .int .i64 0 := hv 6 (by omega) (nobody (by kernel_rfl))
      have v7 : vs 7 = .int .i64 1 := hv 7 (by omega) (nobody (by kernel_rfl))
      simp only [putAll, List.range, List.range.loop, List.foldl_cons, List.foldl_nil, dstOf, Act.put, List.getElem?_toArray, List.getElem?_cons_succ, List.getElem?_cons_zero, Option.bind_some, List.setIfInBounds_toArray, List.set_cons_succ, List.set_cons_zero, List.drop_succ_cons, List.drop_zero, v6, v7]
      clear v6 v7 hv
      go_wp2
      go_ret
      exact ⟨rfl, ho_w5.trans ho_w6⟩
end Go.Proofs.Ytnpjlmeiaegdkaa
