/-
  SIDES OF A LINE: the walks.
-/
import Derived.Test.YtjeeeiekabjcfaaChecked
import Derived.Test.YtjeeeiekabjcfaaAppend
import Derived.Test.YtjeeeiekabjcfaaTail
import Derived.WalkKit
import Derived.StillTailTactics
import Derived.Deep.QuietTactic
import Derived.BigQuiet
import Derived.LoopN
import Derived.Lib.MinMax
import Derived.Test.YtjeeeiekabjcfaaAgg
import Derived.Test.YtjeeeiekabjcfaaEq
namespace Go.Proofs.Ytjeeeiekabjcfaa
open Go.RowKit Go.Azu

def near1 (n b : Int) : Int := max (min n b) (-b)
theorem near1_in (n b : Int) (hb : 0 ≤ b) : -b ≤ near1 n b ∧ near1 n b ≤ b := by unfold near1; omega
theorem near1_of (n b : Int) (h : -b ≤ n ∧ n ≤ b) : near1 n b = n := by unfold near1; omega

theorem pointTy : ATy Try.prog 41 2 := ⟨fun _ => by kernel_rfl, fun _ => by kernel_rfl⟩
theorem ret_i64 {a b : Int} (h : a = b) : Ending.returned (.int .i64 a) = .returned (.int .i64 b) := by rw [h]

set_option maxHeartbeats 400000 in
theorem within_any (n b : Int) (w : World) (hb : 0 ≤ b ∧ b ≤ 4611686018427387904) :
    Calls Try.prog 30 #[.int .i64 n, .int .i64 b] w fun e w' => e = .returned (.int .i64 (near1 n b)) ∧ w = w' := by
  go_enter Try.func30, Try.ntmps30
  go_wp2
  go_ret
  exact ⟨rfl, rfl⟩

set_option maxHeartbeats 400000 in
theorem near_any (x y : Int) (w : World) :
    Calls Try.prog 37 #[.agg #[.int .i64 x, .int .i64 y]] w fun e w' => e = .returned (.agg #[.int .i64 (near1 x 16384), .int .i64 (near1 y 16384)]) ∧ Only [] w w' := by
  go_enter Try.func37, Try.ntmps37
  go_wp2_with fail
  obtain ⟨w1, hw1⟩ : ∃ w1, w1 = (w.alloc (.cells #[.int .i64 x, .int .i64 y] 41)).alloc (.cells #[.int .i64 0, .int .i64 0] 41) := ⟨_, rfl⟩
  have b1 : Blk w1 w.heap.size 41 #[.int .i64 x, .int .i64 y] := by rw [hw1]; exact (Blk.new w _ _).alloc _
  have b2 : Blk w1 (w.heap.size + 1) 41 #[.int .i64 0, .int .i64 0] := by rw [hw1]; exact Blk.new1 ..
  have o1 : Only [] w w1 := by rw [hw1]; exact ((Only.refl [] w).alloc _).alloc _
  rw [← hw1]
  clear hw1
  have k1 := b1.regrown
  refine wp_region_below 7 (by kernel_rfl) (by kernel_rfl) ?_
  simp only [List.take_succ_cons, List.take_zero, List.drop_succ_cons, List.drop_zero]
  repeat (quiet_step (exact Calls.regrown_same (within_any _ _ _ (by omega))))
  refine wpQuiet_nil ?_
  rintro _ ⟨⟨d, os⟩, rfl⟩
  have c2 := b2.only (only_of_regrown d os) (by simp)
  have o2 := o1.trans (only_of_regrown d os)
  generalize Sort.grow (redrawn w1 d) os = w2 at *
  go_wp2_with (refine wl_store pointTy c2 rfl rfl rfl ?_ (ints_one [near1 x 16384, near1 y 16384]) ?_; simp; intro w3 c3 o3)
  exact bodyPost_ret (results_agg pointTy rfl _ rfl c3 rfl) rfl ⟨rfl, o2.next o3 (by simp)⟩

theorem mul_in {x y : Int} (hx : -32768 ≤ x ∧ x ≤ 32768) (hy : -32768 ≤ y ∧ y ≤ 32768) : -1073741824 ≤ x * y ∧ x * y ≤ 1073741824 := by
  have h1 : x.natAbs * y.natAbs ≤ 32768 * 32768 := Nat.mul_le_mul (by omega) (by omega)
  have h2 : (x * y).natAbs = x.natAbs * y.natAbs := Int.natAbs_mul x y
  omega

/-- above 0: the third point is to the right -/
def side6 (a b c d e f : Int) : Int :=
  (near1 c 16384 - near1 a 16384) * (near1 f 16384 - near1 b 16384) - (near1 d 16384 - near1 b 16384) * (near1 e 16384 - near1 a 16384)

set_option maxHeartbeats 1000000 in
theorem side_any (a b c d e f : Int) (w : World) :
    Calls Try.prog 35 #[.agg #[.int .i64 a, .int .i64 b], .agg #[.int .i64 c, .int .i64 d], .agg #[.int .i64 e, .int .i64 f]] w fun x w' => x = .returned (.int .i64 (side6 a b c d e f)) ∧ Only [] w w' := by
  go_enter Try.func35, Try.ntmps35
  go_wp2_with fail
  obtain ⟨w1, hw1⟩ : ∃ w1, w1 = ((w.alloc (.cells #[.int .i64 a, .int .i64 b] 41)).alloc (.cells #[.int .i64 c, .int .i64 d] 41)).alloc (.cells #[.int .i64 e, .int .i64 f] 41) := ⟨_, rfl⟩
  have b1 : Blk w1 w.heap.size 41 (ints [a, b]).toArray := by rw [hw1]; exact ((Blk.new w _ _).alloc _).alloc _
  have b2 : Blk w1 (w.heap.size + 1) 41 (ints [c, d]).toArray := by rw [hw1]; exact (Blk.new1 ..).alloc _
  have b3 : Blk w1 (w.heap.size + 1 + 1) 41 (ints [e, f]).toArray := by rw [hw1]; exact Blk.new2 ..
  have o1 : Only [] w w1 := by rw [hw1]; exact (((Only.refl [] w).alloc _).alloc _).alloc _
  rw [← hw1]
  clear hw1
  have k1 := b1.regrown
  have k2 := b2.regrown
  have k3 := b3.regrown
  simp only [ints, List.map_cons, List.map_nil] at k1 k2 k3
  refine wp_region_below 6 (by kernel_rfl) (by kernel_rfl) ?_
  simp only [List.take_succ_cons, List.take_zero, List.drop_succ_cons, List.drop_zero]
  repeat (quiet_step (exact Calls.regrown (near_any _ _ _)))
  refine wpQuiet_nil ?_
  rintro _ ⟨⟨dr, os⟩, rfl⟩
  have c1 := b1.only (only_of_regrown dr os) (by simp)
  have c2 := b2.only (only_of_regrown dr os) (by simp)
  have c3 := b3.only (only_of_regrown dr os) (by simp)
  have o2 := o1.trans (only_of_regrown dr os)
  generalize Sort.grow (redrawn w1 dr) os = w2 at *
  clear k1 k2 k3 b1 b2 b3 o1
  refine wl_store (vs := ints [near1 a 16384, near1 b 16384]) pointTy c1 rfl rfl rfl (by simp [ints]) (ints_one _) ?_
  intro w3 d1 o3
  have d2 := c2.only o3 (by simp)
  have d3 := c3.only o3 (by simp; omega)
  refine wl_store (vs := ints [near1 c 16384, near1 d 16384]) pointTy d2 rfl rfl rfl (by simp [ints]) (ints_one _) ?_
  intro w4 e2 o4
  have e1 := d1.only o4 (by simp)
  have e3 := d3.only o4 (by simp)
  refine wl_store (vs := ints [near1 e 16384, near1 f 16384]) pointTy e3 rfl rfl rfl (by simp [ints]) (ints_one _) ?_
  intro w5 f3 o5
  have f1 := e1.only o5 (by simp; omega)
  have f2 := e2.only o5 (by simp)
  have oF : Only [] w w5 := ((o2.next o3 (by simp)).next o4 (by simp)).next o5 (by simp; omega)
  clear c1 c2 c3 d1 d2 d3 e1 e2 e3 o2 o3 o4 o5 w2 w3 w4 w1
  have k1 := f1.cell
  have k2 := f2.cell
  have k3 := f3.cell
  clear f1 f2 f3
  simp only [splice, ints, List.map_cons, List.map_nil, List.take_zero, List.nil_append, List.length_cons, List.length_nil, Nat.zero_add, List.drop_succ_cons, List.drop_nil, List.append_nil, Nat.reduceAdd] at k1 k2 k3
  have ba := near1_in a 16384 (by omega)
  have bb := near1_in b 16384 (by omega)
  have bc := near1_in c 16384 (by omega)
  have bd := near1_in d 16384 (by omega)
  have be := near1_in e 16384 (by omega)
  have bf := near1_in f 16384 (by omega)
  have m1 : -1073741824 ≤ (near1 c 16384 - near1 a 16384) * (near1 f 16384 - near1 b 16384) ∧ (near1 c 16384 - near1 a 16384) * (near1 f 16384 - near1 b 16384) ≤ 1073741824 := mul_in (by omega) (by omega)
  have m2 : -1073741824 ≤ (near1 d 16384 - near1 b 16384) * (near1 e 16384 - near1 a 16384) ∧ (near1 d 16384 - near1 b 16384) * (near1 e 16384 - near1 a 16384) ≤ 1073741824 := mul_in (by omega) (by omega)
  go_wp2
  go_ret
  exact ⟨rfl, oF⟩

theorem triTy6 : ATy Try.prog 43 6 := ⟨fun _ => by kernel_rfl, fun _ => by kernel_rfl⟩
theorem intCell : (∀ w, (isAgg 3).run Try.prog w = .ok false w) ∧ (∀ w, (sizeOf 3).run Try.prog w = .ok 1 w) := ⟨fun _ => by kernel_rfl, fun _ => by kernel_rfl⟩
theorem vecTy : ATy Try.prog 46 4 := ⟨fun _ => by kernel_rfl, fun _ => by kernel_rfl⟩

set_option maxHeartbeats 1000000 in
theorem area6_any (a b c d e f : Int) (w : World) :
    Calls Try.prog 28 #[.agg #[.int .i64 a, .int .i64 b, .int .i64 c, .int .i64 d, .int .i64 e, .int .i64 f]] w fun x w' => x = .returned (.int .i64 (side6 a b c d e f)) ∧ Only [] w w' := by
  go_enter Try.func28, Try.ntmps28
  go_wp2_with fail
  refine (side_any a b c d e f _).mono ?_
  rintro x w1 ⟨rfl, ho⟩
  go_wp2
  go_ret
  exact ⟨rfl, ((Only.refl [] w).alloc _).trans ho⟩

def area6 (l : List Int) : Int := side6 (l.getD 0 0) (l.getD 1 0) (l.getD 2 0) (l.getD 3 0) (l.getD 4 0) (l.getD 5 0)
theorem list6 (l : List Int) (h : l.length = 6) : l = [l.getD 0 0, l.getD 1 0, l.getD 2 0, l.getD 3 0, l.getD 4 0, l.getD 5 0] := by
  match l, h with
  | [a, b, c, d, e, f], _ => rfl
theorem list4 (l : List Int) (h : l.length = 4) : l = [l.getD 0 0, l.getD 1 0, l.getD 2 0, l.getD 3 0] := by
  match l, h with
  | [a, b, c, d], _ => rfl
theorem area_any (l : List Int) (hl : l.length = 6) (w : World) :
    Calls Try.prog 28 #[.agg (ints l).toArray] w fun x w' => x = .returned (.int .i64 (area6 l)) ∧ Only [] w w' := by
  match l, hl with
  | [a, b, c, d, e, f], _ => exact area6_any a b c d e f w

/-- the other way round -/
def turn6 (l : List Int) : List Int := [l.getD 0 0, l.getD 1 0, l.getD 4 0, l.getD 5 0, l.getD 2 0, l.getD 3 0]
theorem turned_any (l : List Int) (hl : l.length = 6) (w : World) :
    Calls Try.prog 29 #[.agg (ints l).toArray] w fun x w' => x = .returned (.agg (ints (turn6 l)).toArray) ∧ Only [] w w' := by
  match l, hl with
  | [a, b, c, d, e, f], _ =>
    go_enter Try.func29, Try.ntmps29
    simp only [ints, List.map_cons, List.map_nil]
    go_wp2
    exact bodyPost_ret (results_agg triTy6 rfl _ rfl (Blk.new1 ..) rfl) rfl ⟨rfl, ((Only.refl [] w).alloc _).alloc _⟩

def clampC (n : Int) : Int := min (max n 0) 65536

set_option maxRecDepth 10000 in
set_option maxHeartbeats 2000000 in
theorem colour_any (l : List Int) (hl : l.length = 4) (w : World) :
    Calls Try.prog 31 #[.agg (ints l).toArray] w fun x w' => x = .returned (.agg (ints (l.map clampC)).toArray) ∧ Only [] w w' := by
  match l, hl with
  | [a, b, c, d], _ =>
    go_enter Try.func31, Try.ntmps31
    simp only [ints, List.map_cons, List.map_nil]
    go_wp2_with fail
    refine wp_loop_rounds 5 ?_
    rw [rounds_succ]; go_wp2_with (refine wl_index Try.underlying46 intCell rfl rfl (by omega) (by omega) rfl ?_)
    rw [rounds_succ]; go_wp2_with (refine wl_index Try.underlying46 intCell rfl rfl (by omega) (by omega) rfl ?_)
    rw [rounds_succ]; go_wp2_with (refine wl_index Try.underlying46 intCell rfl rfl (by omega) (by omega) rfl ?_)
    rw [rounds_succ]; go_wp2_with (refine wl_index Try.underlying46 intCell rfl rfl (by omega) (by omega) rfl ?_)
    rw [rounds_succ]; go_wp2_with (refine wl_index Try.underlying46 intCell rfl rfl (by omega) (by omega) rfl ?_)
    exact bodyPost_ret (results_agg vecTy rfl _ rfl (Blk.new1 ..) rfl) rfl ⟨rfl, ((Only.refl [] w).alloc _).alloc _⟩
end Go.Proofs.Ytjeeeiekabjcfaa
