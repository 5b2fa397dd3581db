/-
  MAY IT BE A TRIANGLE, A RECORD: the walks.
-/
import Derived.Test.YtjeeeiekabjcfaaEdge
import Derived.Test.YtjeeeiekabjcfaaTriP
namespace Go.Proofs.Ytjeeeiekabjcfaa
open Go.RowKit Go.Azu

/-- a triangle's cells -/
def triV (R : Nat → Int) : List Value := tab 24 fun k => .int .i64 (R k)
theorem triTy : ATy Try.prog 49 24 := ⟨fun _ => by kernel_rfl, fun _ => by kernel_rfl⟩

theorem at24 (R : Nat → Int) (k : Nat) (h : k < 24) : (triV R).toArray[k]? = some (.int .i64 (R k)) := by
  rw [List.getElem?_toArray]; exact tab_get _ h
theorem intI : ITy Try.prog 3 := ⟨⟨_, Try.underlying3⟩, intCell.1, intCell.2⟩
theorem tri3Ty : ATy Try.prog 44 3 := ⟨fun _ => by kernel_rfl, fun _ => by kernel_rfl⟩
theorem vec3Ty : ATy Try.prog 47 12 := ⟨fun _ => by kernel_rfl, fun _ => by kernel_rfl⟩
theorem eqPoint : EqI Try.prog 41 2 2 := .struct (fs := [(true, 3, 0), (true, 3, 1)]) (by kernel_rfl) (by kernel_rfl) (by kernel_rfl) (.int intI (.int intI (.nil _)))
theorem eqEdge : EqI Try.prog 43 6 3 := .array (len := 3) (n := 2) (k := 2) Try.underlying43 pointTy eqPoint
theorem eqThree : EqI Try.prog 44 3 2 := .ints Try.underlying44 Try.underlying3 intCell
theorem eqVec : EqI Try.prog 46 4 2 := .ints Try.underlying46 Try.underlying3 intCell
theorem eqVec3 : EqI Try.prog 47 12 3 := .array (len := 3) (n := 4) (k := 2) Try.underlying47 vecTy eqVec
theorem eqTri : EqI Try.prog 49 24 4 :=
  .struct (k := 2) (fs := [(true, 43, 0), (true, 44, 6), (true, 44, 9), (true, 47, 12)]) (by kernel_rfl) (by kernel_rfl) (by kernel_rfl)
    (.agg triTy6 eqEdge (.agg tri3Ty (eqThree.more 1) (.agg tri3Ty (eqThree.more 1) (.agg vec3Ty eqVec3 (.nil _)))))

theorem eqVec4 (a b c d a' b' c' d' : Int) (w : World) : (Op.equalIn 10000 46 (.agg #[.int .i64 a, .int .i64 b, .int .i64 c, .int .i64 d]) (.agg #[.int .i64 a', .int .i64 b', .int .i64 c', .int .i64 d'])).run Try.prog w = .ok ([a, b, c, d] == [a', b', c', d']) w :=
  eqVec 9998 [a, b, c, d] [a', b', c', d'] w rfl rfl
theorem colour4_any (a b c d : Int) (w : World) :
    Calls Try.prog 31 #[.agg #[.int .i64 a, .int .i64 b, .int .i64 c, .int .i64 d]] w fun x w' => x = .returned (.agg #[.int .i64 (clampC a), .int .i64 (clampC b), .int .i64 (clampC c), .int .i64 (clampC d)]) ∧ Only [] w w' :=
  colour_any [a, b, c, d] rfl w

/-- a corner may be one -/
def badC (R : Nat → Int) (k : Nat) : Bool :=
  (R (k * 2) != near1 (R (k * 2)) 16384) || (R (k * 2 + 1) != near1 (R (k * 2 + 1)) 16384) || decide (R (6 + k) < 0) || decide (65535 < R (6 + k)) || decide (R (9 + k) < 1) || decide (1024 < R (9 + k)) || (!([R (12 + k * 4), R (12 + k * 4 + 1), R (12 + k * 4 + 2), R (12 + k * 4 + 3)] == [clampC (R (12 + k * 4)), clampC (R (12 + k * 4 + 1)), clampC (R (12 + k * 4 + 2)), clampC (R (12 + k * 4 + 3))]))
def chk (R : Nat → Int) : Int := if badC R 0 || badC R 1 || badC R 2 then 2 else if area6 [R 0, R 1, R 2, R 3, R 4, R 5] ≤ 0 then 4 else 0
theorem chk_bad (R : Nat → Int) (k : Nat) (hk : k < 3) (h : badC R k = true) : 2 = chk R := by
  unfold chk
  rw [if_pos]
  match k, hk with
  | 0, _ => simp [h]
  | 1, _ => simp [h]
  | 2, _ => simp [h]
theorem chk_good (R : Nat → Int) (h : ∀ k, k < 3 → badC R k = false) : chk R = if area6 [R 0, R 1, R 2, R 3, R 4, R 5] ≤ 0 then 4 else 0 := by
  unfold chk
  rw [if_neg]
  simp [h 0 (by omega), h 1 (by omega), h 2 (by omega)]

set_option maxRecDepth 100000 in
set_option maxHeartbeats 40000000 in
theorem triCheck_any (R : Nat → Int) (w : World) :
    Calls Try.prog 20 #[.agg (triV R).toArray] w fun x w' => x = .returned (.int .i64 (chk R)) ∧ Only [] w w' := by
  go_enter Try.func20, Try.ntmps20
  go_wp2_with fail
  obtain ⟨w1, hw1⟩ : ∃ w1, w1 = w.alloc (.cells (triV R).toArray 49) := ⟨_, rfl⟩
  have b1 : Blk w1 w.heap.size 49 (triV R).toArray := by rw [hw1]; exact Blk.new ..
  have o1 : Only [] w w1 := by rw [hw1]; exact (Only.refl [] w).alloc _
  rw [← hw1]
  clear hw1
  go_loopw [5] (fun x wr => ∃ k : Nat, k ≤ 3 ∧ x = .int .i64 k ∧ Hid (∀ j, j < k → badC R j = false) ∧ Blk wr w.heap.size 49 (triV R).toArray ∧ Only [] w wr) (fun x _ => 3 - (intOf x).toNat)
  case atStart => exact ⟨0, by omega, rfl, Lib.hid (fun j hj => absurd hj (by omega)), b1, o1⟩
  case round =>
    obtain ⟨k, hk, rfl, hgood, hb, ho⟩ := hrel
    by_cases h3 : k = 3
    · subst h3
      have HC := Lib.hid (chk_good R hgood.out)
      have hsm : area6 [R 0, R 1, R 2, R 3, R 4, R 5] ≤ 0 ∨ ¬ area6 [R 0, R 1, R 2, R 3, R 4, R 5] ≤ 0 := by omega
      have har := fun w => area_any [R 0, R 1, R 2, R 3, R 4, R 5] rfl w
      generalize area6 [R 0, R 1, R 2, R 3, R 4, R 5] = ar at *
      rcases hsm with hs | hs
      all_goals
        go_wp2_with (first
          | (refine wl_load (vs := ints [R 0, R 1, R 2, R 3, R 4, R 5]) triTy6 hb rfl ?_ rfl ?_; exact tab_part (m := 6) _ (by omega))
          | (go_at_call 28; refine (har _).mono ?_; rintro e w5 ⟨rfl, ho5⟩))
        go_ret
        exact ⟨by rw [HC.out]; simp [hs], ho.trans ho5⟩
    · have hk3 : k < 3 := by omega
      go_wp2_with (refine wl_load (vs := [.int .i64 (R (k * 2)), .int .i64 (R (k * 2 + 1))]) pointTy hb rfl (tab_part _ ?_) rfl ?_; omega)
      obtain ⟨w2, hw2⟩ : ∃ w2, w2 = wr.alloc (.cells #[.int .i64 (R (k * 2)), .int .i64 (R (k * 2 + 1))] 41) := ⟨_, rfl⟩
      have b2 : Blk w2 w.heap.size 49 (triV R).toArray := by rw [hw2]; exact hb.alloc _
      have p2 : Blk w2 wr.heap.size 41 #[.int .i64 (R (k * 2)), .int .i64 (R (k * 2 + 1))] := by rw [hw2]; exact Blk.new ..
      have o2 : Only [] w w2 := by rw [hw2]; exact ho.alloc _
      rw [← hw2]
      clear hw2 ho hb
      have kp := p2.regrown
      have kd : ∀ d os, (Sort.grow (redrawn w2 d) os).cell? ⟨w.heap.size, 6 + k, none⟩ = some (.int .i64 (R (6 + k))) := fun d os => by rw [b2.regrown]; exact at24 _ _ (by omega)
      have kn : ∀ d os, (Sort.grow (redrawn w2 d) os).cell? ⟨w.heap.size, 9 + k, none⟩ = some (.int .i64 (R (9 + k))) := fun d os => by rw [b2.regrown]; exact at24 _ _ (by omega)
      have kc0 : ∀ d os, (Sort.grow (redrawn w2 d) os).cell? ⟨w.heap.size, 12 + k * 4, none⟩ = some (.int .i64 (R (12 + k * 4))) := fun d os => by rw [b2.regrown]; exact at24 _ _ (by omega)
      have kc1 : ∀ d os, (Sort.grow (redrawn w2 d) os).cell? ⟨w.heap.size, 12 + k * 4 + 1, none⟩ = some (.int .i64 (R (12 + k * 4 + 1))) := fun d os => by rw [b2.regrown]; exact at24 _ _ (by omega)
      have kc2 : ∀ d os, (Sort.grow (redrawn w2 d) os).cell? ⟨w.heap.size, 12 + k * 4 + 2, none⟩ = some (.int .i64 (R (12 + k * 4 + 2))) := fun d os => by rw [b2.regrown]; exact at24 _ _ (by omega)
      have kc3 : ∀ d os, (Sort.grow (redrawn w2 d) os).cell? ⟨w.heap.size, 12 + k * 4 + 3, none⟩ = some (.int .i64 (R (12 + k * 4 + 3))) := fun d os => by rw [b2.regrown]; exact at24 _ _ (by omega)
      have heq := eqVec4
      rcases Bool.eq_false_or_eq_true ((R (k * 2) != near1 (R (k * 2)) 16384)) with t1 | t1
      · have HB := Lib.hid (show badC R k = true by unfold badC; rw [t1]; simp)
        refine wp_region_quiet_below (by kernel_rfl) (by kernel_rfl) ?_
        repeat (first | go_big_quiet_step (first | exact Calls.regrown_same (within_any _ _ _ (by omega)) | exact Calls.regrown (colour4_any _ _ _ _ _)) | quiet_step (first | exact Calls.regrown_same (within_any _ _ _ (by omega)) | exact Calls.regrown (colour4_any _ _ _ _ _)))
        refine wpQuiet_nil ?_
        rintro _ ⟨⟨d, os⟩, rfl⟩
        have oF := o2.trans (only_of_regrown d os)
        have bF := b2.only (only_of_regrown d os) (by simp)
        clear kp kd kn kc0 kc1 kc2 kc3 heq
        generalize Sort.grow (redrawn w2 d) os = w3 at *
        go_wp2
        go_ret
        exact ⟨ret_i64 (chk_bad R k hk3 HB.out), oF⟩
      rcases Bool.eq_false_or_eq_true ((R (k * 2 + 1) != near1 (R (k * 2 + 1)) 16384)) with t2 | t2
      · have HB := Lib.hid (show badC R k = true by unfold badC; rw [t1, t2]; simp)
        refine wp_region_quiet_below (by kernel_rfl) (by kernel_rfl) ?_
        repeat (first | go_big_quiet_step (first | exact Calls.regrown_same (within_any _ _ _ (by omega)) | exact Calls.regrown (colour4_any _ _ _ _ _)) | quiet_step (first | exact Calls.regrown_same (within_any _ _ _ (by omega)) | exact Calls.regrown (colour4_any _ _ _ _ _)))
        refine wpQuiet_nil ?_
        rintro _ ⟨⟨d, os⟩, rfl⟩
        have oF := o2.trans (only_of_regrown d os)
        have bF := b2.only (only_of_regrown d os) (by simp)
        clear kp kd kn kc0 kc1 kc2 kc3 heq
        generalize Sort.grow (redrawn w2 d) os = w3 at *
        go_wp2
        go_ret
        exact ⟨ret_i64 (chk_bad R k hk3 HB.out), oF⟩
      rcases Bool.eq_false_or_eq_true (decide (R (6 + k) < 0)) with t3 | t3
      · have HB := Lib.hid (show badC R k = true by unfold badC; rw [t1, t2, t3]; simp)
        refine wp_region_quiet_below (by kernel_rfl) (by kernel_rfl) ?_
        repeat (first | go_big_quiet_step (first | exact Calls.regrown_same (within_any _ _ _ (by omega)) | exact Calls.regrown (colour4_any _ _ _ _ _)) | quiet_step (first | exact Calls.regrown_same (within_any _ _ _ (by omega)) | exact Calls.regrown (colour4_any _ _ _ _ _)))
        refine wpQuiet_nil ?_
        rintro _ ⟨⟨d, os⟩, rfl⟩
        have oF := o2.trans (only_of_regrown d os)
        have bF := b2.only (only_of_regrown d os) (by simp)
        clear kp kd kn kc0 kc1 kc2 kc3 heq
        generalize Sort.grow (redrawn w2 d) os = w3 at *
        go_wp2
        go_ret
        exact ⟨ret_i64 (chk_bad R k hk3 HB.out), oF⟩
      rcases Bool.eq_false_or_eq_true (decide (65535 < R (6 + k))) with t4 | t4
      · have HB := Lib.hid (show badC R k = true by unfold badC; rw [t1, t2, t3, t4]; simp)
        refine wp_region_quiet_below (by kernel_rfl) (by kernel_rfl) ?_
        repeat (first | go_big_quiet_step (first | exact Calls.regrown_same (within_any _ _ _ (by omega)) | exact Calls.regrown (colour4_any _ _ _ _ _)) | quiet_step (first | exact Calls.regrown_same (within_any _ _ _ (by omega)) | exact Calls.regrown (colour4_any _ _ _ _ _)))
        refine wpQuiet_nil ?_
        rintro _ ⟨⟨d, os⟩, rfl⟩
        have oF := o2.trans (only_of_regrown d os)
        have bF := b2.only (only_of_regrown d os) (by simp)
        clear kp kd kn kc0 kc1 kc2 kc3 heq
        generalize Sort.grow (redrawn w2 d) os = w3 at *
        go_wp2
        go_ret
        exact ⟨ret_i64 (chk_bad R k hk3 HB.out), oF⟩
      rcases Bool.eq_false_or_eq_true (decide (R (9 + k) < 1)) with t5 | t5
      · have HB := Lib.hid (show badC R k = true by unfold badC; rw [t1, t2, t3, t4, t5]; simp)
        refine wp_region_quiet_below (by kernel_rfl) (by kernel_rfl) ?_
        repeat (first | go_big_quiet_step (first | exact Calls.regrown_same (within_any _ _ _ (by omega)) | exact Calls.regrown (colour4_any _ _ _ _ _)) | quiet_step (first | exact Calls.regrown_same (within_any _ _ _ (by omega)) | exact Calls.regrown (colour4_any _ _ _ _ _)))
        refine wpQuiet_nil ?_
        rintro _ ⟨⟨d, os⟩, rfl⟩
        have oF := o2.trans (only_of_regrown d os)
        have bF := b2.only (only_of_regrown d os) (by simp)
        clear kp kd kn kc0 kc1 kc2 kc3 heq
        generalize Sort.grow (redrawn w2 d) os = w3 at *
        go_wp2
        go_ret
        exact ⟨ret_i64 (chk_bad R k hk3 HB.out), oF⟩
      rcases Bool.eq_false_or_eq_true (decide (1024 < R (9 + k))) with t6 | t6
      · have HB := Lib.hid (show badC R k = true by unfold badC; rw [t1, t2, t3, t4, t5, t6]; simp)
        refine wp_region_quiet_below (by kernel_rfl) (by kernel_rfl) ?_
        repeat (first | go_big_quiet_step (first | exact Calls.regrown_same (within_any _ _ _ (by omega)) | exact Calls.regrown (colour4_any _ _ _ _ _)) | quiet_step (first | exact Calls.regrown_same (within_any _ _ _ (by omega)) | exact Calls.regrown (colour4_any _ _ _ _ _)))
        refine wpQuiet_nil ?_
        rintro _ ⟨⟨d, os⟩, rfl⟩
        have oF := o2.trans (only_of_regrown d os)
        have bF := b2.only (only_of_regrown d os) (by simp)
        clear kp kd kn kc0 kc1 kc2 kc3 heq
        generalize Sort.grow (redrawn w2 d) os = w3 at *
        go_wp2
        go_ret
        exact ⟨ret_i64 (chk_bad R k hk3 HB.out), oF⟩
      rcases Bool.eq_false_or_eq_true (([R (12 + k * 4), R (12 + k * 4 + 1), R (12 + k * 4 + 2), R (12 + k * 4 + 3)] == [clampC (R (12 + k * 4)), clampC (R (12 + k * 4 + 1)), clampC (R (12 + k * 4 + 2)), clampC (R (12 + k * 4 + 3))])) with t7 | t7
      · have HB := Lib.hid (show badC R k = false by unfold badC; rw [t1, t2, t3, t4, t5, t6, t7]; rfl)
        refine wp_region_quiet_below (by kernel_rfl) (by kernel_rfl) ?_
        repeat (first | go_big_quiet_step (first | exact Calls.regrown_same (within_any _ _ _ (by omega)) | exact Calls.regrown (colour4_any _ _ _ _ _)) | quiet_step (first | exact Calls.regrown_same (within_any _ _ _ (by omega)) | exact Calls.regrown (colour4_any _ _ _ _ _)))
        refine wpQuiet_nil ?_
        rintro _ ⟨⟨d, os⟩, rfl⟩
        have oF := o2.trans (only_of_regrown d os)
        have bF := b2.only (only_of_regrown d os) (by simp)
        clear kp kd kn kc0 kc1 kc2 kc3 heq
        generalize Sort.grow (redrawn w2 d) os = w3 at *
        go_wp2
        go_roundw
        case rel => exact ⟨k + 1, by omega, by go_num, Lib.hid (fun j hj => by
            rcases (by omega : j < k ∨ j = k) with h | h
            · exact hgood.out j h
            · rw [h]; exact HB.out), bF, oF⟩
        case measure => simp [intOf]; omega
      · have HB := Lib.hid (show badC R k = true by unfold badC; rw [t1, t2, t3, t4, t5, t6, t7]; rfl)
        refine wp_region_quiet_below (by kernel_rfl) (by kernel_rfl) ?_
        repeat (first | go_big_quiet_step (first | exact Calls.regrown_same (within_any _ _ _ (by omega)) | exact Calls.regrown (colour4_any _ _ _ _ _)) | quiet_step (first | exact Calls.regrown_same (within_any _ _ _ (by omega)) | exact Calls.regrown (colour4_any _ _ _ _ _)))
        refine wpQuiet_nil ?_
        rintro _ ⟨⟨d, os⟩, rfl⟩
        have oF := o2.trans (only_of_regrown d os)
        have bF := b2.only (only_of_regrown d os) (by simp)
        clear kp kd kn kc0 kc1 kc2 kc3 heq
        generalize Sort.grow (redrawn w2 d) os = w3 at *
        go_wp2
        go_ret
        exact ⟨ret_i64 (chk_bad R k hk3 HB.out), oF⟩
end Go.Proofs.Ytjeeeiekabjcfaa
