/-
  MAY IT BE A RECORD: the walk.
-/
import Derived.Test.YtjeeeiekabjcfaaCheck
namespace Go.Proofs.Ytjeeeiekabjcfaa
open Go.RowKit Go.Azu

/-- a record's cells -/
def recC (d : Int) (s : Bool) (R : Nat → Int) : List Value := .int .i64 d :: .bool s :: triV R
def num24 (R : Nat → Int) : List Int := (List.range 24).map R
theorem triV_ints (R : Nat → Int) : triV R = ints (num24 R) := by simp [triV, tab, ints, num24]
theorem num24_len (R : Nat → Int) : (num24 R).length = 24 := by simp [num24]
theorem num24_eq {R R' : Nat → Int} : (num24 R == num24 R') = true ↔ ∀ k, k < 24 → R k = R' k := by
  simp [num24]
theorem recC_len (d : Int) (s : Bool) (R : Nat → Int) : (recC d s R).length = 26 := by simp [recC, triV, tab]
theorem recC_tri (d : Int) (s : Bool) (R : Nat → Int) : ((recC d s R).drop 2).take 24 = triV R := by
  show (triV R).take 24 = triV R
  rw [List.take_of_length_le (by simp [triV, tab])]
/-- a record's cells, told by their places -/
theorem recC_tab (d : Int) (s : Bool) (R : Nat → Int) : recC d s R = tab 26 (fun k => if k = 0 then .int .i64 d else if k = 1 then .bool s else .int .i64 (R (k - 2))) := by
  unfold recC triV tab
  rw [show List.range 26 = 0 :: 1 :: (List.range 24).map (· + 2) from by decide]
  simp only [List.map_cons, List.map_map, if_pos, Nat.one_ne_zero, if_false]
  congr 2
theorem recC_congr {d : Int} {s : Bool} {R R' : Nat → Int} (h : ∀ p, p < 24 → R p = R' p) : recC d s R = recC d s R' := by
  unfold recC triV
  rw [tab_congr fun p hp => by rw [h p hp]]

theorem recC_one (d : Int) (s : Bool) (R : Nat → Int) : ∀ u ∈ recC d s R, u.oneCell' = true := by
  rw [recC_tab]
  exact tab_one fun k _ => by split <;> (try split) <;> rfl

theorem recTy : ATy Try.prog 51 26 := ⟨fun _ => by kernel_rfl, fun _ => by kernel_rfl⟩
theorem triZero : triV (fun _ => 0) = [.int .i64 0, .int .i64 0, .int .i64 0, .int .i64 0, .int .i64 0, .int .i64 0, .int .i64 0, .int .i64 0, .int .i64 0, .int .i64 0, .int .i64 0, .int .i64 0, .int .i64 0, .int .i64 0, .int .i64 0, .int .i64 0, .int .i64 0, .int .i64 0, .int .i64 0, .int .i64 0, .int .i64 0, .int .i64 0, .int .i64 0, .int .i64 0] := rfl

theorem eqTri_run (R R' : Nat → Int) (w : World) : (Op.equalIn 10000 49 (.agg (triV R).toArray) (.agg (triV R').toArray)).run Try.prog w = .ok (num24 R == num24 R') w := by
  rw [triV_ints, triV_ints]
  exact eqTri 9996 _ _ w (num24_len _) (num24_len _)

def chkRec (d : Int) (s : Bool) (R : Nat → Int) : Int := if d < 0 || 32 ≤ d then 2 else if s then chk R else if num24 R == num24 (fun _ => 0) then 0 else 4

set_option maxRecDepth 100000 in
set_option maxHeartbeats 4000000 in
theorem recCheck_any (d : Int) (s : Bool) (R : Nat → Int) (w : World) :
    Calls Try.prog 9 #[.agg (recC d s R).toArray] w fun x w' => x = .returned (.int .i64 (chkRec d s R)) ∧ Only [] w w' := by
  have hB : Blk (w.alloc (.cells (recC d s R).toArray 51)) w.heap.size 51 (recC d s R).toArray := Blk.new ..
  have hO : Only [] w (w.alloc (.cells (recC d s R).toArray 51)) := (Only.refl [] w).alloc _
  have c0 : (w.alloc (.cells (recC d s R).toArray 51)).cell? ⟨w.heap.size, 0, none⟩ = some (.int .i64 d) := hB.cell 0
  have c1 : (w.alloc (.cells (recC d s R).toArray 51)).cell? ⟨w.heap.size, 1, none⟩ = some (.bool s) := hB.cell 1
  have heq := eqTri_run R (fun _ => 0)
  rw [triZero] at heq
  rcases Bool.eq_false_or_eq_true (decide (d < 0)) with t1 | t1
  · have HC := Lib.hid (show chkRec d s R = 2 by simp [chkRec, t1])
    go_enter Try.func9, Try.ntmps9
    go_wp2
    go_ret
    exact ⟨ret_i64 HC.out.symm, hO⟩
  rcases Bool.eq_false_or_eq_true (decide (32 ≤ d)) with t2 | t2
  · have HC := Lib.hid (show chkRec d s R = 2 by simp [chkRec, t1, t2])
    go_enter Try.func9, Try.ntmps9
    go_wp2
    go_ret
    exact ⟨ret_i64 HC.out.symm, hO⟩
  cases s with
  | true =>
    have HC := Lib.hid (show chkRec d true R = chk R by simp [chkRec, t1, t2])
    go_enter Try.func9, Try.ntmps9
    go_wp2_with (first
      | (refine wl_load triTy hB rfl (recC_tri ..) ?_ ?_; exact tab_length ..)
      | (go_at_call 20; refine (triCheck_any _ _).mono ?_; rintro e w5 ⟨rfl, ho5⟩))
    go_ret
    exact ⟨ret_i64 HC.out.symm, hO.trans ho5⟩
  | false =>
    rcases Bool.eq_false_or_eq_true (num24 R == num24 (fun _ => 0)) with t3 | t3
    · have HC := Lib.hid (show chkRec d false R = 0 by simp only [chkRec, t1, t2, t3]; rfl)
      go_enter Try.func9, Try.ntmps9
      go_wp2_with (refine wl_load triTy hB rfl (recC_tri ..) ?_ ?_; exact tab_length ..)
      go_ret
      exact ⟨ret_i64 HC.out.symm, hO⟩
    · have HC := Lib.hid (show chkRec d false R = 4 by simp only [chkRec, t1, t2, t3]; rfl)
      go_enter Try.func9, Try.ntmps9
      go_wp2_with (refine wl_load triTy hB rfl (recC_tri ..) ?_ ?_; exact tab_length ..)
      go_ret
      exact ⟨ret_i64 HC.out.symm, hO⟩
end Go.Proofs.Ytjeeeiekabjcfaa
