/-
  A RECORD's BYTES, AS THEY ARE MEANT: the walk.
-/
import Derived.Test.YtjeeeiekabjcfaaPutW
import Derived.Test.YtjeeeiekabjcfaaRef
namespace Go.Proofs.Ytjeeeiekabjcfaa
open Go.RowKit Go.Azu

theorem zig_small (n : Int) (h : -1000000 ≤ n ∧ n ≤ 1000000) : Wire.zig n < 2 ^ (7 * (4 + 1)) := by unfold Wire.zig; split <;> omega
theorem rowOf_row (R : Nat → Int) (k : Nat) (hk : k < 3) : ints (rowOf R k) = rowV R k := by
  match k, hk with
  | 0, _ => rfl
  | 1, _ => rfl
  | 2, _ => rfl

/-- what each operation yields where a row is laid -/
def RowVal (R : Nat → Int) (gb g7 k B : Nat) : Nat → Value → World → Prop
  | 0, v, _ => v = .int .i64 k
  | 1, v, _ => v = .pointer (some ⟨gb, 2, none⟩)
  | 2, v, _ => v = .pointer (some ⟨gb, 2, none⟩)
  | 3, v, _ => v = .pointer (some ⟨gb, 2 + k * 2, none⟩)
  | 4, v, _ => v = .pointer (some ⟨gb, 2 + k * 2, none⟩)
  | 5, v, _ => v = .int .i64 (R (k * 2))
  | 6, v, _ => v = .int .i64 k
  | 7, v, _ => v = .pointer (some ⟨gb, 2, none⟩)
  | 8, v, _ => v = .pointer (some ⟨gb, 2, none⟩)
  | 9, v, _ => v = .pointer (some ⟨gb, 2 + k * 2, none⟩)
  | 10, v, _ => v = .pointer (some ⟨gb, 2 + k * 2 + 1, none⟩)
  | 11, v, _ => v = .int .i64 (R (k * 2 + 1))
  | 12, v, _ => v = .int .i64 k
  | 13, v, _ => v = .pointer (some ⟨gb, 2, none⟩)
  | 14, v, _ => v = .pointer (some ⟨gb, 8, none⟩)
  | 15, v, _ => v = .pointer (some ⟨gb, 8 + k, none⟩)
  | 16, v, _ => v = .int .i64 (R (6 + k))
  | 17, v, _ => v = .int .i64 k
  | 18, v, _ => v = .pointer (some ⟨gb, 2, none⟩)
  | 19, v, _ => v = .pointer (some ⟨gb, 11, none⟩)
  | 20, v, _ => v = .pointer (some ⟨gb, 11 + k, none⟩)
  | 21, v, _ => v = .int .i64 (R (9 + k))
  | 22, v, _ => v = .pointer (some ⟨g7, 0, none⟩)
  | 23, v, _ => v = .int .i64 (R (12 + k * 4))
  | 24, v, _ => v = .pointer (some ⟨g7, 1, none⟩)
  | 25, v, _ => v = .int .i64 (R (12 + k * 4 + 1))
  | 26, v, _ => v = .pointer (some ⟨g7, 2, none⟩)
  | 27, v, _ => v = .int .i64 (R (12 + k * 4 + 2))
  | 28, v, _ => v = .pointer (some ⟨g7, 3, none⟩)
  | 29, v, _ => v = .int .i64 (R (12 + k * 4 + 3))
  | 30, v, _ => v = .agg (ints (rowOf R k)).toArray
  | 31, v, w => ∃ ga, v = .pointer (some ⟨ga, 0, none⟩) ∧ Blk w ga 70 #[.int .i64 0, .int .i64 0, .int .i64 0, .int .i64 0, .int .i64 0, .int .i64 0, .int .i64 0, .int .i64 0] ∧ B ≤ ga
  | _, _, _ => True
theorem rowVal_mono (R : Nat → Int) (gb g7 k B : Nat) (i : Nat) (v : Value) (w w' : World) (h : RowVal R gb g7 k B i v w) (ho : Only [] w w') : RowVal R gb g7 k B i v w' := by
  unfold RowVal at h ⊢
  split at h <;> first | exact h | (obtain ⟨ga, h1, h2, h3⟩ := h; exact ⟨ga, h1, h2.only ho (by simp), h3⟩)

/-- what each operation yields where a number's bytes are appended -/
def AppVal (v0 : Value) (B g5 g8 j : Nat) (lo od : Int) : Nat → Value → World → Prop
  | 0, v, _ => v = v0
  | 1, v, _ => v = .int .i64 j
  | 2, v, _ => v = .pointer (some ⟨g8, j, none⟩)
  | 3, v, _ => v = .int .i64 od
  | 4, v, _ => v = .int .i64 j
  | 5, v, _ => v = .pointer (some ⟨g5, j, none⟩)
  | 6, v, _ => v = .int .i64 lo
  | 7, v, _ => v = .int .i64 (od - lo)
  | 8, v, w => Mine w B v (Wire.enc (Wire.zig (od - lo)))
  | _, _, _ => True
theorem appVal_mono (v0 : Value) (B g5 g8 j : Nat) (lo od : Int) (i : Nat) (v : Value) (w w' : World) (h : AppVal v0 B g5 g8 j lo od i v w) (ho : Only [] w w') : AppVal v0 B g5 g8 j lo od i v w' := by
  unfold AppVal at h ⊢
  split at h <;> first | exact h | exact Mine.same h ho

theorem wp_enter' {P : Program} {o : Oper} {a : Act} {Q : Exit → Act → World → Prop} {w w' : World} {K : Act → World → Prop} {f : FuncId} {args : Array Value} (h : (execOp a.eval o).run P w = .ok (.enter f args) w') (hc : Calls P f args w' fun e w2 => ∃ v, e = .returned v ∧ K (a.put o.dst v) w2) : o.wp P a w K Q := by
  unfold Oper.wp
  rw [h, Oper.upon_enter]
  refine hc.mono ?_
  rintro e w2 ⟨v, rfl, hk⟩
  exact hk

set_option maxRecDepth 100000 in
set_option maxHeartbeats 8000000 in
theorem bytes_any (d : Nat) (s : Bool) (R : Nat → Int) (w : World) (hd : d < 32) (hs : s = true → ∀ q, q < 24 → -100000 ≤ Tri.ord R q ∧ Tri.ord R q ≤ 100000) :
    Calls Try.prog 8 #[.agg (recC d s R).toArray] w fun x w' => ∃ v, x = .returned v ∧ Mine w' w.heap.size v (Tri.bytes d s R) ∧ Only [] w w' := by
  have hB : Blk (w.alloc (.cells (recC d s R).toArray 51)) w.heap.size 51 (recC d s R).toArray := Blk.new ..
  have c0 : (w.alloc (.cells (recC d s R).toArray 51)).cell? ⟨w.heap.size, 0, none⟩ = some (.int .i64 d) := hB.cell 0
  have c1 : (w.alloc (.cells (recC d s R).toArray 51)).cell? ⟨w.heap.size, 1, none⟩ = some (.bool s) := hB.cell 1
  have hO : Only [] w (w.alloc (.cells (recC d s R).toArray 51)) := (Only.refl [] w).alloc _
  cases s with
  | false =>
    have hc := fun w => refCount_any (2 * d) w (by omega)
    rw [show ((2 * d : Nat) : Int) = 2 * (d : Int) from by omega] at hc
    clear hs
    go_enter Try.func8, Try.ntmps8
    go_wp2_with fail
    refine (hc _).mono ?_
    rintro e w2 ⟨v, rfl, hM, hO2⟩
    go_wp2
    go_ret
    exact ⟨v, rfl, by simpa [Tri.bytes, Tri.head] using hM.low (by simp), hO.trans hO2⟩
  | true =>
    have HS := Lib.hid (hs rfl)
    have hc := fun w => refCount_any (2 * d + 1) w (by omega)
    rw [show ((2 * d + 1 : Nat) : Int) = 2 * (d : Int) + 1 from by omega] at hc
    clear hs
    go_enter Try.func8, Try.ntmps8
    go_wp2_with fail
    refine (hc _).mono ?_
    rintro e w2 ⟨v, rfl, hM, hO2⟩
    have hM' : Mine w2 w.heap.size v (Wire.enc (2 * d + 1)) := hM.low (by simp)
    have hB2 := hB.only hO2 (by simp)
    have hOO := hO.trans hO2
    clear hM hB hO hO2 c0 c1 hc
    go_wp2_with fail
    have hb5 : Blk (w2.alloc (.cells (lastV R 0).toArray 70)) w2.heap.size 70 (lastV R 0).toArray := Blk.new ..
    have hMb := hM'.same ((Only.refl [] w2).alloc (.cells (lastV R 0).toArray 70))
    have hBb := hB2.alloc (.cells (lastV R 0).toArray 70)
    have hOb := hOO.alloc (.cells (lastV R 0).toArray 70)
    have hz : (lastV R 0).toArray = #[.int .i64 0, .int .i64 0, .int .i64 0, .int .i64 0, .int .i64 0, .int .i64 0, .int .i64 0, .int .i64 0] := rfl
    rw [hz] at hb5 hMb hBb hOb
    rw [← hz] at hb5
    have hlt5 : w.heap.size < w2.heap.size := hB2.lt
    clear hM' hB2 hOO hz
    generalize w2.heap.size = g5 at *
    go_loopw [23, 4] (fun x y wr => ∃ k : Nat, k ≤ 3 ∧ x = .int .i64 k ∧ Mine wr w.heap.size y (Wire.enc (2 * d + 1) ++ Tri.encs R (8 * k)) ∧ Blk wr w.heap.size 51 (recC d true R).toArray ∧ Blk wr g5 70 (lastV R k).toArray ∧ Only [] w wr) (fun x _ _ => 3 - (intOf x).toNat)
    case atStart => exact ⟨0, by omega, rfl, by simpa [Tri.encs] using hMb, hBb, hb5, hOb⟩
    case round =>
      obtain ⟨k, hk, rfl, hM, hB, h5, hO⟩ := hrel
      by_cases h3 : k = 3
      · subst h3
        go_wp2
        go_ret
        exact ⟨_, rfl, by simpa [Tri.bytes, Tri.head] using hM, hO⟩
      · have hk3 : k < 3 := by omega
        have hcol : ((recC d true R).drop (14 + k * 4)).take 4 = [.int .i64 (R (12 + k * 4)), .int .i64 (R (12 + k * 4 + 1)), .int .i64 (R (12 + k * 4 + 2)), .int .i64 (R (12 + k * 4 + 3))] := by
          match k, hk3 with
          | 0, _ => rfl
          | 1, _ => rfl
          | 2, _ => rfl
        have HCol := Lib.hid hcol
        clear hcol
        go_wp2_with (refine wl_load vecTy hB rfl HCol.out rfl ?_)
        obtain ⟨w3, hw3⟩ : ∃ w3, w3 = wr.alloc (.cells #[.int .i64 (R (12 + k * 4)), .int .i64 (R (12 + k * 4 + 1)), .int .i64 (R (12 + k * 4 + 2)), .int .i64 (R (12 + k * 4 + 3))] 46) := ⟨_, rfl⟩
        have hM3 := hM.same ((Only.refl [] wr).alloc (.cells #[.int .i64 (R (12 + k * 4)), .int .i64 (R (12 + k * 4 + 1)), .int .i64 (R (12 + k * 4 + 2)), .int .i64 (R (12 + k * 4 + 3))] 46))
        have hB3 := hB.alloc (.cells #[.int .i64 (R (12 + k * 4)), .int .i64 (R (12 + k * 4 + 1)), .int .i64 (R (12 + k * 4 + 2)), .int .i64 (R (12 + k * 4 + 3))] 46)
        have h53 := h5.alloc (.cells #[.int .i64 (R (12 + k * 4)), .int .i64 (R (12 + k * 4 + 1)), .int .i64 (R (12 + k * 4 + 2)), .int .i64 (R (12 + k * 4 + 3))] 46)
        have hO3 := hO.alloc (.cells #[.int .i64 (R (12 + k * 4)), .int .i64 (R (12 + k * 4 + 1)), .int .i64 (R (12 + k * 4 + 2)), .int .i64 (R (12 + k * 4 + 3))] 46)
        rw [← hw3] at hM3 hB3 h53 hO3
        have h73 : Blk w3 wr.heap.size 46 #[.int .i64 (R (12 + k * 4)), .int .i64 (R (12 + k * 4 + 1)), .int .i64 (R (12 + k * 4 + 2)), .int .i64 (R (12 + k * 4 + 3))] := by rw [hw3]; exact Blk.new ..
        rw [← hw3]
        clear hw3 hM hB h5 hO HCol
        generalize wr.heap.size = g7 at *
        have at26 : ∀ p, p < 24 → ∀ w4, Only [] w3 w4 → w4.cell? ⟨w.heap.size, 2 + p, none⟩ = some (.int .i64 (R p)) := fun p hp w4 ho => by
          rw [(hB3.only ho (by simp)).cell, List.getElem?_toArray, recC_tab, tab_get _ (by omega), if_neg (by omega), if_neg (by omega), show 2 + p - 2 = p from by omega]
        have f36 : ∀ w4, Only [] w3 w4 → w4.cell? ⟨w.heap.size, 2 + k * 2, none⟩ = some (.int .i64 (R (k * 2))) := at26 (k * 2) (by omega)
        have f42 : ∀ w4, Only [] w3 w4 → w4.cell? ⟨w.heap.size, 2 + k * 2 + 1, none⟩ = some (.int .i64 (R (k * 2 + 1))) := at26 (k * 2 + 1) (by omega)
        have f47 : ∀ w4, Only [] w3 w4 → w4.cell? ⟨w.heap.size, 8 + k, none⟩ = some (.int .i64 (R (6 + k))) := fun w4 ho => by
          have := at26 (6 + k) (by omega) w4 ho
          rwa [show 2 + (6 + k) = 8 + k from by omega] at this
        have f52 : ∀ w4, Only [] w3 w4 → w4.cell? ⟨w.heap.size, 11 + k, none⟩ = some (.int .i64 (R (9 + k))) := fun w4 ho => by
          have := at26 (9 + k) (by omega) w4 ho
          rwa [show 2 + (9 + k) = 11 + k from by omega] at this
        have f54 : ∀ w4, Only [] w3 w4 → w4.cell? ⟨g7, 0, none⟩ = some (.int .i64 (R (12 + k * 4))) := fun w4 ho => (h73.only ho (by simp)).cell 0
        have f56 : ∀ w4, Only [] w3 w4 → w4.cell? ⟨g7, 1, none⟩ = some (.int .i64 (R (12 + k * 4 + 1))) := fun w4 ho => (h73.only ho (by simp)).cell 1
        have f58 : ∀ w4, Only [] w3 w4 → w4.cell? ⟨g7, 2, none⟩ = some (.int .i64 (R (12 + k * 4 + 2))) := fun w4 ho => (h73.only ho (by simp)).cell 2
        have f60 : ∀ w4, Only [] w3 w4 → w4.cell? ⟨g7, 3, none⟩ = some (.int .i64 (R (12 + k * 4 + 3))) := fun w4 ho => (h73.only ho (by simp)).cell 3
        clear at26
        refine wp_region_ext 32 (by kernel_rfl) (RowVal R w.heap.size g7 k w3.heap.size) (rowVal_mono R w.heap.size g7 k w3.heap.size) (by kernel_rfl) ?_ (by kernel_rfl) ?_ ?_
        · intro i hi t ht
          exact dst_small (n := 32) (m := 79) (by kernel_rfl) hi ht
        · intro i hi o ho vs a w4 hv h0 how
          match i, hi with
          | 0, _ =>
            simp at ho; subst ho
            have e6 : a.tmps[6]?.getD undef = .int .i64 k := by have := h0 6 (by kernel_rfl); simpa [Act.eval] using this
            exact wp_value (v := .int .i64 k) (w' := w4) (by simp [execOp, Act.eval, e6] <;> (try go_simp)) ⟨_, rfl, rfl, Only.refl _ _⟩
          | 1, _ =>
            simp at ho; subst ho
            have e1 : a.tmps[1]?.getD undef = .pointer (some ⟨w.heap.size, 0, none⟩) := by have := h0 1 (by kernel_rfl); simpa [Act.eval] using this
            exact wp_value (v := .pointer (some ⟨w.heap.size, 2, none⟩)) (w' := w4) (by simp [execOp, Act.eval, e1] <;> (try go_simp)) ⟨_, rfl, rfl, Only.refl _ _⟩
          | 2, _ =>
            simp at ho; subst ho
            obtain ⟨v32, q32⟩ := hv 1 (by kernel_rfl)
            have e32 : a.tmps[32]?.getD undef = .pointer (some ⟨w.heap.size, 2, none⟩) := by have := (q32 32 rfl).trans v32; simpa [Act.eval] using this
            exact wp_value (v := .pointer (some ⟨w.heap.size, 2, none⟩)) (w' := w4) (by simp [execOp, Act.eval, e32] <;> (try go_simp)) ⟨_, rfl, rfl, Only.refl _ _⟩
          | 3, _ =>
            simp at ho; subst ho
            obtain ⟨v33, q33⟩ := hv 2 (by kernel_rfl)
            have e33 : a.tmps[33]?.getD undef = .pointer (some ⟨w.heap.size, 2, none⟩) := by have := (q33 33 rfl).trans v33; simpa [Act.eval] using this
            obtain ⟨v31, q31⟩ := hv 0 (by kernel_rfl)
            have e31 : a.tmps[31]?.getD undef = .int .i64 k := by have := (q31 31 rfl).trans v31; simpa [Act.eval] using this
            exact wp_value (v := .pointer (some ⟨w.heap.size, 2 + k * 2, none⟩)) (w' := w4) (by simp [execOp, Act.eval, e33, e31] <;> (try go_simp)) ⟨_, rfl, rfl, Only.refl _ _⟩
          | 4, _ =>
            simp at ho; subst ho
            obtain ⟨v34, q34⟩ := hv 3 (by kernel_rfl)
            have e34 : a.tmps[34]?.getD undef = .pointer (some ⟨w.heap.size, 2 + k * 2, none⟩) := by have := (q34 34 rfl).trans v34; simpa [Act.eval] using this
            exact wp_value (v := .pointer (some ⟨w.heap.size, 2 + k * 2, none⟩)) (w' := w4) (by simp [execOp, Act.eval, e34] <;> (try go_simp)) ⟨_, rfl, rfl, Only.refl _ _⟩
          | 5, _ =>
            simp at ho; subst ho
            obtain ⟨v35, q35⟩ := hv 4 (by kernel_rfl)
            have e35 : a.tmps[35]?.getD undef = .pointer (some ⟨w.heap.size, 2 + k * 2, none⟩) := by have := (q35 35 rfl).trans v35; simpa [Act.eval] using this
            have hc := f36 w4 how
            exact wp_value (v := .int .i64 (R (k * 2))) (w' := w4) (by simp [execOp, Act.eval, e35] <;> (try go_simp)) ⟨_, rfl, rfl, Only.refl _ _⟩
          | 6, _ =>
            simp at ho; subst ho
            have e6 : a.tmps[6]?.getD undef = .int .i64 k := by have := h0 6 (by kernel_rfl); simpa [Act.eval] using this
            exact wp_value (v := .int .i64 k) (w' := w4) (by simp [execOp, Act.eval, e6] <;> (try go_simp)) ⟨_, rfl, rfl, Only.refl _ _⟩
          | 7, _ =>
            simp at ho; subst ho
            have e1 : a.tmps[1]?.getD undef = .pointer (some ⟨w.heap.size, 0, none⟩) := by have := h0 1 (by kernel_rfl); simpa [Act.eval] using this
            exact wp_value (v := .pointer (some ⟨w.heap.size, 2, none⟩)) (w' := w4) (by simp [execOp, Act.eval, e1] <;> (try go_simp)) ⟨_, rfl, rfl, Only.refl _ _⟩
          | 8, _ =>
            simp at ho; subst ho
            obtain ⟨v38, q38⟩ := hv 7 (by kernel_rfl)
            have e38 : a.tmps[38]?.getD undef = .pointer (some ⟨w.heap.size, 2, none⟩) := by have := (q38 38 rfl).trans v38; simpa [Act.eval] using this
            exact wp_value (v := .pointer (some ⟨w.heap.size, 2, none⟩)) (w' := w4) (by simp [execOp, Act.eval, e38] <;> (try go_simp)) ⟨_, rfl, rfl, Only.refl _ _⟩
          | 9, _ =>
            simp at ho; subst ho
            obtain ⟨v39, q39⟩ := hv 8 (by kernel_rfl)
            have e39 : a.tmps[39]?.getD undef = .pointer (some ⟨w.heap.size, 2, none⟩) := by have := (q39 39 rfl).trans v39; simpa [Act.eval] using this
            obtain ⟨v37, q37⟩ := hv 6 (by kernel_rfl)
            have e37 : a.tmps[37]?.getD undef = .int .i64 k := by have := (q37 37 rfl).trans v37; simpa [Act.eval] using this
            exact wp_value (v := .pointer (some ⟨w.heap.size, 2 + k * 2, none⟩)) (w' := w4) (by simp [execOp, Act.eval, e39, e37] <;> (try go_simp)) ⟨_, rfl, rfl, Only.refl _ _⟩
          | 10, _ =>
            simp at ho; subst ho
            obtain ⟨v40, q40⟩ := hv 9 (by kernel_rfl)
            have e40 : a.tmps[40]?.getD undef = .pointer (some ⟨w.heap.size, 2 + k * 2, none⟩) := by have := (q40 40 rfl).trans v40; simpa [Act.eval] using this
            exact wp_value (v := .pointer (some ⟨w.heap.size, 2 + k * 2 + 1, none⟩)) (w' := w4) (by simp [execOp, Act.eval, e40] <;> (try go_simp)) ⟨_, rfl, rfl, Only.refl _ _⟩
          | 11, _ =>
            simp at ho; subst ho
            obtain ⟨v41, q41⟩ := hv 10 (by kernel_rfl)
            have e41 : a.tmps[41]?.getD undef = .pointer (some ⟨w.heap.size, 2 + k * 2 + 1, none⟩) := by have := (q41 41 rfl).trans v41; simpa [Act.eval] using this
            have hc := f42 w4 how
            exact wp_value (v := .int .i64 (R (k * 2 + 1))) (w' := w4) (by simp [execOp, Act.eval, e41] <;> (try go_simp)) ⟨_, rfl, rfl, Only.refl _ _⟩
          | 12, _ =>
            simp at ho; subst ho
            have e6 : a.tmps[6]?.getD undef = .int .i64 k := by have := h0 6 (by kernel_rfl); simpa [Act.eval] using this
            exact wp_value (v := .int .i64 k) (w' := w4) (by simp [execOp, Act.eval, e6] <;> (try go_simp)) ⟨_, rfl, rfl, Only.refl _ _⟩
          | 13, _ =>
            simp at ho; subst ho
            have e1 : a.tmps[1]?.getD undef = .pointer (some ⟨w.heap.size, 0, none⟩) := by have := h0 1 (by kernel_rfl); simpa [Act.eval] using this
            exact wp_value (v := .pointer (some ⟨w.heap.size, 2, none⟩)) (w' := w4) (by simp [execOp, Act.eval, e1] <;> (try go_simp)) ⟨_, rfl, rfl, Only.refl _ _⟩
          | 14, _ =>
            simp at ho; subst ho
            obtain ⟨v44, q44⟩ := hv 13 (by kernel_rfl)
            have e44 : a.tmps[44]?.getD undef = .pointer (some ⟨w.heap.size, 2, none⟩) := by have := (q44 44 rfl).trans v44; simpa [Act.eval] using this
            exact wp_value (v := .pointer (some ⟨w.heap.size, 8, none⟩)) (w' := w4) (by simp [execOp, Act.eval, e44] <;> (try go_simp)) ⟨_, rfl, rfl, Only.refl _ _⟩
          | 15, _ =>
            simp at ho; subst ho
            obtain ⟨v45, q45⟩ := hv 14 (by kernel_rfl)
            have e45 : a.tmps[45]?.getD undef = .pointer (some ⟨w.heap.size, 8, none⟩) := by have := (q45 45 rfl).trans v45; simpa [Act.eval] using this
            obtain ⟨v43, q43⟩ := hv 12 (by kernel_rfl)
            have e43 : a.tmps[43]?.getD undef = .int .i64 k := by have := (q43 43 rfl).trans v43; simpa [Act.eval] using this
            exact wp_value (v := .pointer (some ⟨w.heap.size, 8 + k, none⟩)) (w' := w4) (by simp [execOp, Act.eval, e45, e43] <;> (try go_simp)) ⟨_, rfl, rfl, Only.refl _ _⟩
          | 16, _ =>
            simp at ho; subst ho
            obtain ⟨v46, q46⟩ := hv 15 (by kernel_rfl)
            have e46 : a.tmps[46]?.getD undef = .pointer (some ⟨w.heap.size, 8 + k, none⟩) := by have := (q46 46 rfl).trans v46; simpa [Act.eval] using this
            have hc := f47 w4 how
            exact wp_value (v := .int .i64 (R (6 + k))) (w' := w4) (by simp [execOp, Act.eval, e46] <;> (try go_simp)) ⟨_, rfl, rfl, Only.refl _ _⟩
          | 17, _ =>
            simp at ho; subst ho
            have e6 : a.tmps[6]?.getD undef = .int .i64 k := by have := h0 6 (by kernel_rfl); simpa [Act.eval] using this
            exact wp_value (v := .int .i64 k) (w' := w4) (by simp [execOp, Act.eval, e6] <;> (try go_simp)) ⟨_, rfl, rfl, Only.refl _ _⟩
          | 18, _ =>
            simp at ho; subst ho
            have e1 : a.tmps[1]?.getD undef = .pointer (some ⟨w.heap.size, 0, none⟩) := by have := h0 1 (by kernel_rfl); simpa [Act.eval] using this
            exact wp_value (v := .pointer (some ⟨w.heap.size, 2, none⟩)) (w' := w4) (by simp [execOp, Act.eval, e1] <;> (try go_simp)) ⟨_, rfl, rfl, Only.refl _ _⟩
          | 19, _ =>
            simp at ho; subst ho
            obtain ⟨v49, q49⟩ := hv 18 (by kernel_rfl)
            have e49 : a.tmps[49]?.getD undef = .pointer (some ⟨w.heap.size, 2, none⟩) := by have := (q49 49 rfl).trans v49; simpa [Act.eval] using this
            exact wp_value (v := .pointer (some ⟨w.heap.size, 11, none⟩)) (w' := w4) (by simp [execOp, Act.eval, e49] <;> (try go_simp)) ⟨_, rfl, rfl, Only.refl _ _⟩
          | 20, _ =>
            simp at ho; subst ho
            obtain ⟨v50, q50⟩ := hv 19 (by kernel_rfl)
            have e50 : a.tmps[50]?.getD undef = .pointer (some ⟨w.heap.size, 11, none⟩) := by have := (q50 50 rfl).trans v50; simpa [Act.eval] using this
            obtain ⟨v48, q48⟩ := hv 17 (by kernel_rfl)
            have e48 : a.tmps[48]?.getD undef = .int .i64 k := by have := (q48 48 rfl).trans v48; simpa [Act.eval] using this
            exact wp_value (v := .pointer (some ⟨w.heap.size, 11 + k, none⟩)) (w' := w4) (by simp [execOp, Act.eval, e50, e48] <;> (try go_simp)) ⟨_, rfl, rfl, Only.refl _ _⟩
          | 21, _ =>
            simp at ho; subst ho
            obtain ⟨v51, q51⟩ := hv 20 (by kernel_rfl)
            have e51 : a.tmps[51]?.getD undef = .pointer (some ⟨w.heap.size, 11 + k, none⟩) := by have := (q51 51 rfl).trans v51; simpa [Act.eval] using this
            have hc := f52 w4 how
            exact wp_value (v := .int .i64 (R (9 + k))) (w' := w4) (by simp [execOp, Act.eval, e51] <;> (try go_simp)) ⟨_, rfl, rfl, Only.refl _ _⟩
          | 22, _ =>
            simp at ho; subst ho
            have e7 : a.tmps[7]?.getD undef = .pointer (some ⟨g7, 0, none⟩) := by have := h0 7 (by kernel_rfl); simpa [Act.eval] using this
            exact wp_value (v := .pointer (some ⟨g7, 0, none⟩)) (w' := w4) (by simp [execOp, Act.eval, e7] <;> (try go_simp)) ⟨_, rfl, rfl, Only.refl _ _⟩
          | 23, _ =>
            simp at ho; subst ho
            obtain ⟨v53, q53⟩ := hv 22 (by kernel_rfl)
            have e53 : a.tmps[53]?.getD undef = .pointer (some ⟨g7, 0, none⟩) := by have := (q53 53 rfl).trans v53; simpa [Act.eval] using this
            have hc := f54 w4 how
            exact wp_value (v := .int .i64 (R (12 + k * 4))) (w' := w4) (by simp [execOp, Act.eval, e53] <;> (try go_simp)) ⟨_, rfl, rfl, Only.refl _ _⟩
          | 24, _ =>
            simp at ho; subst ho
            have e7 : a.tmps[7]?.getD undef = .pointer (some ⟨g7, 0, none⟩) := by have := h0 7 (by kernel_rfl); simpa [Act.eval] using this
            exact wp_value (v := .pointer (some ⟨g7, 1, none⟩)) (w' := w4) (by simp [execOp, Act.eval, e7] <;> (try go_simp)) ⟨_, rfl, rfl, Only.refl _ _⟩
          | 25, _ =>
            simp at ho; subst ho
            obtain ⟨v55, q55⟩ := hv 24 (by kernel_rfl)
            have e55 : a.tmps[55]?.getD undef = .pointer (some ⟨g7, 1, none⟩) := by have := (q55 55 rfl).trans v55; simpa [Act.eval] using this
            have hc := f56 w4 how
            exact wp_value (v := .int .i64 (R (12 + k * 4 + 1))) (w' := w4) (by simp [execOp, Act.eval, e55] <;> (try go_simp)) ⟨_, rfl, rfl, Only.refl _ _⟩
          | 26, _ =>
            simp at ho; subst ho
            have e7 : a.tmps[7]?.getD undef = .pointer (some ⟨g7, 0, none⟩) := by have := h0 7 (by kernel_rfl); simpa [Act.eval] using this
            exact wp_value (v := .pointer (some ⟨g7, 2, none⟩)) (w' := w4) (by simp [execOp, Act.eval, e7] <;> (try go_simp)) ⟨_, rfl, rfl, Only.refl _ _⟩
          | 27, _ =>
            simp at ho; subst ho
            obtain ⟨v57, q57⟩ := hv 26 (by kernel_rfl)
            have e57 : a.tmps[57]?.getD undef = .pointer (some ⟨g7, 2, none⟩) := by have := (q57 57 rfl).trans v57; simpa [Act.eval] using this
            have hc := f58 w4 how
            exact wp_value (v := .int .i64 (R (12 + k * 4 + 2))) (w' := w4) (by simp [execOp, Act.eval, e57] <;> (try go_simp)) ⟨_, rfl, rfl, Only.refl _ _⟩
          | 28, _ =>
            simp at ho; subst ho
            have e7 : a.tmps[7]?.getD undef = .pointer (some ⟨g7, 0, none⟩) := by have := h0 7 (by kernel_rfl); simpa [Act.eval] using this
            exact wp_value (v := .pointer (some ⟨g7, 3, none⟩)) (w' := w4) (by simp [execOp, Act.eval, e7] <;> (try go_simp)) ⟨_, rfl, rfl, Only.refl _ _⟩
          | 29, _ =>
            simp at ho; subst ho
            obtain ⟨v59, q59⟩ := hv 28 (by kernel_rfl)
            have e59 : a.tmps[59]?.getD undef = .pointer (some ⟨g7, 3, none⟩) := by have := (q59 59 rfl).trans v59; simpa [Act.eval] using this
            have hc := f60 w4 how
            exact wp_value (v := .int .i64 (R (12 + k * 4 + 3))) (w' := w4) (by simp [execOp, Act.eval, e59] <;> (try go_simp)) ⟨_, rfl, rfl, Only.refl _ _⟩
          | 30, _ =>
            simp at ho; subst ho
            obtain ⟨v36, q36⟩ := hv 5 (by kernel_rfl)
            have e36 : a.tmps[36]?.getD undef = .int .i64 (R (k * 2)) := by have := (q36 36 rfl).trans v36; simpa [Act.eval] using this
            obtain ⟨v42, q42⟩ := hv 11 (by kernel_rfl)
            have e42 : a.tmps[42]?.getD undef = .int .i64 (R (k * 2 + 1)) := by have := (q42 42 rfl).trans v42; simpa [Act.eval] using this
            obtain ⟨v47, q47⟩ := hv 16 (by kernel_rfl)
            have e47 : a.tmps[47]?.getD undef = .int .i64 (R (6 + k)) := by have := (q47 47 rfl).trans v47; simpa [Act.eval] using this
            obtain ⟨v52, q52⟩ := hv 21 (by kernel_rfl)
            have e52 : a.tmps[52]?.getD undef = .int .i64 (R (9 + k)) := by have := (q52 52 rfl).trans v52; simpa [Act.eval] using this
            obtain ⟨v54, q54⟩ := hv 23 (by kernel_rfl)
            have e54 : a.tmps[54]?.getD undef = .int .i64 (R (12 + k * 4)) := by have := (q54 54 rfl).trans v54; simpa [Act.eval] using this
            obtain ⟨v56, q56⟩ := hv 25 (by kernel_rfl)
            have e56 : a.tmps[56]?.getD undef = .int .i64 (R (12 + k * 4 + 1)) := by have := (q56 56 rfl).trans v56; simpa [Act.eval] using this
            obtain ⟨v58, q58⟩ := hv 27 (by kernel_rfl)
            have e58 : a.tmps[58]?.getD undef = .int .i64 (R (12 + k * 4 + 2)) := by have := (q58 58 rfl).trans v58; simpa [Act.eval] using this
            obtain ⟨v60, q60⟩ := hv 29 (by kernel_rfl)
            have e60 : a.tmps[60]?.getD undef = .int .i64 (R (12 + k * 4 + 3)) := by have := (q60 60 rfl).trans v60; simpa [Act.eval] using this
            exact wp_value (v := .agg (ints (rowOf R k)).toArray) (w' := w4) (by simp [execOp, Act.eval, e36, e42, e47, e52, e54, e56, e58, e60] <;> (try go_simp); rfl) ⟨_, rfl, rfl, Only.refl _ _⟩
          | 31, _ =>
            simp at ho; subst ho
            exact wp_value (v := .pointer (some ⟨w4.heap.size, 0, none⟩)) (w' := w4.alloc (.cells #[.int .i64 0, .int .i64 0, .int .i64 0, .int .i64 0, .int .i64 0, .int .i64 0, .int .i64 0, .int .i64 0] 70)) (by simp only [execOp]; go_simp) ⟨_, rfl, ⟨_, rfl, Blk.new _ _ _, how.size⟩, (Only.refl _ _).alloc _⟩
          | _ + 32, hi => exact absurd hi (by omega)
        · intro vs w5 hv hO5
          have v61 : vs 30 = .agg (rowV R k).toArray := by rw [← rowOf_row R k hk3]; exact hv 30 (by omega)
          obtain ⟨g8, v8, h8, hg8⟩ : ∃ ga, vs 31 = .pointer (some ⟨ga, 0, none⟩) ∧ Blk w5 ga 70 #[.int .i64 0, .int .i64 0, .int .i64 0, .int .i64 0, .int .i64 0, .int .i64 0, .int .i64 0, .int .i64 0] ∧ w3.heap.size ≤ ga := hv 31 (by omega)
          simp only [putAll, List.range, List.range.loop, List.foldl_cons, List.foldl_nil, dstOf, Act.put, List.getElem?_toArray, List.getElem?_cons_succ, List.getElem?_cons_zero, Option.bind_some, List.setIfInBounds_toArray, List.set_cons_succ, List.set_cons_zero, List.drop_succ_cons, List.drop_zero, v61, v8]
          clear v61 v8 hv f36 f42 f47 f52 f54 f56 f58 f60
          have h55 := h53.only hO5 (by simp)
          have hB5 := hB3.only hO5 (by simp)
          have hM5 := hM3.same hO5
          have hO35 := hO3.trans hO5
          have hne58 : g5 ≠ g8 := by have := h53.lt; omega
          have hnew8 : w.heap.size < g8 := by have := hB3.lt; omega
          clear h53 hB3 hM3 hO3 hO5 h73
          refine wl_storew (vs := rowV R k) rowTy h8 rfl rfl (tab_length ..) rfl (tab_one fun _ _ => rfl) ?_
          intro w6 h86 ho6
          have h56 := h55.only ho6 (by simpa using hne58)
          have hB6 := hB5.only ho6 (by simp; omega)
          have hM6 := hM5.only ho6 (fun q hq hm => by
            simp at hm
            subst hm
            exact ownsRow_ne_blk hM5 h8 (by decide) hq)
          have hO6 := hO35.next ho6 (by simp; omega)
          clear h55 hB5 hM5 hO35 ho6 h8 hg8
          go_wp2_with fail
          go_loopw [62, 4] (fun x y wi => ∃ j : Nat, j ≤ 8 ∧ x = .int .i64 j ∧ Mine wi w.heap.size y (Wire.enc (2 * d + 1) ++ Tri.encs R (8 * k + j)) ∧ Blk wi w.heap.size 51 (recC d true R).toArray ∧ Blk wi g5 70 (lastV R k).toArray ∧ Blk wi g8 70 (rowV R k).toArray ∧ Only [] w wi) (fun x _ _ => 8 - (intOf x).toNat)
          case atStart => exact ⟨0, by omega, rfl, hM6, hB6, h56, h86, hO6⟩
          case round =>
            clear hM6 hB6 h56 h86 hO6
            obtain ⟨j, hj, rfl, hM, hB, h5, h8, hO⟩ := hrel
            by_cases h8j : j = 8
            · subst h8j
              go_wp2_with (first
                | refine wl_loadw rowTy h8 rfl (tab_length ..) ?_
                | (refine wl_storew rowTy h5 rfl rfl (tab_length ..) (tab_length ..) (tab_one fun _ _ => rfl) ?_; intro w7 h57 ho7))
              have hM7 := hM.only ho7 (fun q hq hm => by
                simp at hm
                subst hm
                exact ownsRow_ne_blk hM h5 (by decide) hq)
              have hB7 := hB.only ho7 (by simp; omega)
              have hO7 := hO.next ho7 (by simp; omega)
              rw [← lastV_next] at h57
              go_wp2
              go_roundw
              case rel => exact ⟨k + 1, by omega, by go_num, hM7, hB7, h57, hO7⟩
              case measure => simp [intOf]; omega
            · have hj8 : j < 8 := by omega
              have hdl := delta_at R k j hj8
              have hob := HS.out (8 * k + j) (by omega)
              have hlb : -100000 ≤ (if k = 0 then 0 else Tri.ord R (8 * (k - 1) + j)) ∧ (if k = 0 then 0 else Tri.ord R (8 * (k - 1) + j)) ≤ 100000 := by
                split
                · omega
                · exact HS.out _ (by omega)
              have f71 : ∀ w4, Only [] wr w4 → w4.cell? ⟨g5, j, none⟩ = some (.int .i64 (if k = 0 then 0 else Tri.ord R (8 * (k - 1) + j))) := fun w4 ho => by
                rw [(h5.only ho (by simp)).cell, List.getElem?_toArray]; exact tab_get _ hj8
              have f68 : ∀ w4, Only [] wr w4 → w4.cell? ⟨g8, j, none⟩ = some (.int .i64 (Tri.ord R (8 * k + j))) := fun w4 ho => by
                rw [(h8.only ho (by simp)).cell, List.getElem?_toArray]; exact tab_get _ hj8
              have HD := Lib.hid hdl
              have hel : (Tri.encs R (8 * k + j)).length ≤ 5 * (8 * k + j) := Tri.encs_len R (fun q hq => by
                have h1 := HS.out q hq
                have h2 := HS.out (q - 8) (by omega)
                unfold Tri.delta
                split <;> omega) (8 * k + j) (by omega)
              have hl1 := Tri.enc_len 0 (2 * d + 1) (by omega)
              have hl2 := Tri.enc_len 4 (Wire.zig (Tri.delta R (8 * k + j))) (zig_small _ (by rw [hdl]; omega))
              rw [hdl] at hl2
              clear hdl
              generalize (if k = 0 then 0 else Tri.ord R (8 * (k - 1) + j)) = lo at *
              generalize hodq : Tri.ord R (8 * k + j) = od at *
              clear hodq
              go_wp2_with fail
              refine wp_region_ext 9 (by kernel_rfl) (AppVal u4 w.heap.size g5 g8 j lo od) (appVal_mono u4 w.heap.size g5 g8 j lo od) (by kernel_rfl) ?_ (by kernel_rfl) ?_ ?_
              · intro i hi t ht
                exact dst_small (n := 9) (m := 79) (by kernel_rfl) hi ht
              · intro i hi o ho vs a w4 hv h0 how
                match i, hi with
                | 0, _ =>
                  simp at ho; subst ho
                  have e4 : a.tmps[4]?.getD undef = u4 := by have := h0 4 (by kernel_rfl); simpa [Act.eval] using this
                  exact wp_value (v := u4) (w' := w4) (by simp [execOp, Act.eval, e4] <;> (try go_simp)) ⟨_, rfl, rfl, Only.refl _ _⟩
                | 1, _ =>
                  simp at ho; subst ho
                  have e9 : a.tmps[9]?.getD undef = .int .i64 j := by have := h0 9 (by kernel_rfl); simpa [Act.eval] using this
                  exact wp_value (v := .int .i64 j) (w' := w4) (by simp [execOp, Act.eval, e9] <;> (try go_simp)) ⟨_, rfl, rfl, Only.refl _ _⟩
                | 2, _ =>
                  simp at ho; subst ho
                  have e8 : a.tmps[8]?.getD undef = .pointer (some ⟨g8, 0, none⟩) := by have := h0 8 (by kernel_rfl); simpa [Act.eval] using this
                  obtain ⟨v66, q66⟩ := hv 1 (by kernel_rfl)
                  have e66 : a.tmps[66]?.getD undef = .int .i64 j := by have := (q66 66 rfl).trans v66; simpa [Act.eval] using this
                  exact wp_value (v := .pointer (some ⟨g8, j, none⟩)) (w' := w4) (by simp [execOp, Act.eval, e8, e66] <;> (try go_simp)) ⟨_, rfl, rfl, Only.refl _ _⟩
                | 3, _ =>
                  simp at ho; subst ho
                  obtain ⟨v67, q67⟩ := hv 2 (by kernel_rfl)
                  have e67 : a.tmps[67]?.getD undef = .pointer (some ⟨g8, j, none⟩) := by have := (q67 67 rfl).trans v67; simpa [Act.eval] using this
                  have hc := f68 w4 how
                  exact wp_value (v := .int .i64 od) (w' := w4) (by simp [execOp, Act.eval, e67] <;> (try go_simp)) ⟨_, rfl, rfl, Only.refl _ _⟩
                | 4, _ =>
                  simp at ho; subst ho
                  have e9 : a.tmps[9]?.getD undef = .int .i64 j := by have := h0 9 (by kernel_rfl); simpa [Act.eval] using this
                  exact wp_value (v := .int .i64 j) (w' := w4) (by simp [execOp, Act.eval, e9] <;> (try go_simp)) ⟨_, rfl, rfl, Only.refl _ _⟩
                | 5, _ =>
                  simp at ho; subst ho
                  have e5 : a.tmps[5]?.getD undef = .pointer (some ⟨g5, 0, none⟩) := by have := h0 5 (by kernel_rfl); simpa [Act.eval] using this
                  obtain ⟨v69, q69⟩ := hv 4 (by kernel_rfl)
                  have e69 : a.tmps[69]?.getD undef = .int .i64 j := by have := (q69 69 rfl).trans v69; simpa [Act.eval] using this
                  exact wp_value (v := .pointer (some ⟨g5, j, none⟩)) (w' := w4) (by simp [execOp, Act.eval, e5, e69] <;> (try go_simp)) ⟨_, rfl, rfl, Only.refl _ _⟩
                | 6, _ =>
                  simp at ho; subst ho
                  obtain ⟨v70, q70⟩ := hv 5 (by kernel_rfl)
                  have e70 : a.tmps[70]?.getD undef = .pointer (some ⟨g5, j, none⟩) := by have := (q70 70 rfl).trans v70; simpa [Act.eval] using this
                  have hc := f71 w4 how
                  exact wp_value (v := .int .i64 lo) (w' := w4) (by simp [execOp, Act.eval, e70] <;> (try go_simp)) ⟨_, rfl, rfl, Only.refl _ _⟩
                | 7, _ =>
                  simp at ho; subst ho
                  obtain ⟨v68, q68⟩ := hv 3 (by kernel_rfl)
                  have e68 : a.tmps[68]?.getD undef = .int .i64 od := by have := (q68 68 rfl).trans v68; simpa [Act.eval] using this
                  obtain ⟨v71, q71⟩ := hv 6 (by kernel_rfl)
                  have e71 : a.tmps[71]?.getD undef = .int .i64 lo := by have := (q71 71 rfl).trans v71; simpa [Act.eval] using this
                  exact wp_value (v := .int .i64 (od - lo)) (w' := w4) (by simp [execOp, Act.eval, e68, e71] <;> (try go_simp); exact IntWalk.i64_in _ (by omega)) ⟨_, rfl, rfl, Only.refl _ _⟩
                | 8, _ =>
                  simp at ho; subst ho
                  obtain ⟨v72, q72⟩ := hv 7 (by kernel_rfl)
                  have e72 : a.tmps[72]?.getD undef = .int .i64 (od - lo) := by have := (q72 72 rfl).trans v72; simpa [Act.eval] using this
                  refine wp_enter' (f := 19) (args := #[.int .i64 (od - lo)]) (w' := w4) (by simp [execOp]; go_simp) ?_
                  refine (refInt_any (od - lo) w4 (by omega)).mono ?_
                  rintro e w7 ⟨v, rfl, hMv, hOv⟩
                  exact ⟨_, rfl, _, rfl, hMv.low (Nat.le_trans hO.size how.size), hOv⟩
              · intro vs w7 hv hO7
                have v65 : vs 0 = u4 := hv 0 (by omega)
                have hMv : Mine w7 w.heap.size (vs 8) (Wire.enc (Wire.zig (od - lo))) := hv 8 (by omega)
                simp only [putAll, List.range, List.range.loop, List.foldl_cons, List.foldl_nil, dstOf, Act.put, List.getElem?_toArray, List.getElem?_cons_succ, List.getElem?_cons_zero, Option.bind_some, List.setIfInBounds_toArray, List.set_cons_succ, List.set_cons_zero, List.drop_succ_cons, List.drop_zero, v65]
                clear v65 hv f68 f71
                generalize vs 8 = vb at *
                have hM7 := hM.same hO7
                have hB7 := hB.only hO7 (by simp)
                have h57 := h5.only hO7 (by simp)
                have h87 := h8.only hO7 (by simp)
                have hO77 := hO.trans hO7
                obtain ⟨Ab, cb, rfl, -, -⟩ := hMv.slice
                have hrd : Reads w7 w7.heap.size 1 Ab (Wire.enc (Wire.zig (od - lo))).length (bytesV (Wire.enc (Wire.zig (od - lo)))) := hMv.reads
                have hmx : (Wire.enc (2 * d + 1) ++ Tri.encs R (8 * k + j)).length + (Wire.enc (Wire.zig (od - lo))).length ≤ maxLen := by simp only [maxLen, List.length_append]; omega
                have hby : ((Wire.enc (2 * d + 1) ++ Tri.encs R (8 * k + j)).length + (Wire.enc (Wire.zig (od - lo))).length) * 1 ≤ 140737488355328 := by simp only [List.length_append]; omega
                refine wpList_append_st bytesTy (.tmp 65) (.tmp 73) rfl rfl hM7 rfl hrd rfl (bytesV_one _) hmx hby hO77.size ?_
                intro v' w8 hown hgrow hat
                have hM8 := Mine.app hown rfl rfl
                have hO8 := hM7.grow hO77 hgrow hM8
                have hB8 := hB7.grown hgrow (Ne.symm (ownsRow_ne_blk hM7 hB7 (by decide)))
                have h58 := h57.grown hgrow (Ne.symm (ownsRow_ne_blk hM7 h57 (by decide)))
                have h88 := h87.grown hgrow (Ne.symm (ownsRow_ne_blk hM7 h87 (by decide)))
                have hMf : Mine w8 w.heap.size v' (Wire.enc (2 * d + 1) ++ Tri.encs R (8 * k + (j + 1))) := by
                  rw [show 8 * k + (j + 1) = 8 * k + j + 1 from by omega, Tri.encs, HD.out, ← List.append_assoc]
                  exact hM8
                clear hM8 hM7 hB7 h57 h87 hO77 hown hgrow hat hrd hmx hby hMv hM hB h5 h8 hO
                go_wp2
                go_roundw
                case rel => exact ⟨j + 1, by omega, by go_num, hMf, hB8, h58, h88, hO8⟩
                case measure => simp [intOf]; omega
end Go.Proofs.Ytjeeeiekabjcfaa
