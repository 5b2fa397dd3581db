/-
  A TRIANGLE's NUMBERS, IN ORDER: the walk.
-/
import Derived.Test.YtjeeeiekabjcfaaRec
namespace Go.Proofs.Ytjeeeiekabjcfaa
open Go.RowKit Go.Azu

/-- the numbers in the order of the bytes: of each corner eight -/
def ordV (R : Nat → Int) : List Value := tab 24 fun q => .int .i64 (R (Tri.pos (q / 8) (q % 8)))
theorem rowsTy : ATy Try.prog 73 24 := ⟨fun _ => by kernel_rfl, fun _ => by kernel_rfl⟩
theorem rowTy : ATy Try.prog 70 8 := ⟨fun _ => by kernel_rfl, fun _ => by kernel_rfl⟩

/-- so many rows laid -/
def outV (R : Nat → Int) (k : Nat) : List Value := tab 24 fun q => .int .i64 (if q < k * 8 then R (Tri.pos (q / 8) (q % 8)) else 0)
def rowOf (R : Nat → Int) (k : Nat) : List Int := [R (k * 2), R (k * 2 + 1), R (6 + k), R (9 + k), R (12 + k * 4), R (12 + k * 4 + 1), R (12 + k * 4 + 2), R (12 + k * 4 + 3)]
theorem outV_next (R : Nat → Int) (k : Nat) (hk : k < 3) : splice (outV R k) (k * 8) (ints (rowOf R k)) = outV R (k + 1) := by
  match k, hk with
  | 0, _ => simp [splice, outV, tab, rowOf, ints, Tri.pos, List.range, List.range.loop]
  | 1, _ => simp [splice, outV, tab, rowOf, ints, Tri.pos, List.range, List.range.loop]
  | 2, _ => simp [splice, outV, tab, rowOf, ints, Tri.pos, List.range, List.range.loop]

set_option maxRecDepth 100000 in
set_option maxHeartbeats 4000000 in
theorem numbers_any (R : Nat → Int) (w : World) :
    Calls Try.prog 22 #[.agg (triV R).toArray] w fun x w' => x = .returned (.agg (ordV R).toArray) ∧ Only [] w w' := by
  go_enter Try.func22, Try.ntmps22
  go_wp2_with fail
  obtain ⟨w1, hw1⟩ : ∃ w1, w1 = ((w.alloc (.cells (triV R).toArray 49)).alloc (.cells (outV R 0).toArray 73)).alloc (.cells (outV R 0).toArray 73) := ⟨_, rfl⟩
  have b1 : Blk w1 w.heap.size 49 (triV R).toArray := by rw [hw1]; exact ((Blk.new ..).alloc _).alloc _
  have b2 : Blk w1 (w.heap.size + 1) 73 (outV R 0).toArray := by rw [hw1]; exact (Blk.new1 ..).alloc _
  have b3 : Blk w1 (w.heap.size + 1 + 1) 73 (outV R 0).toArray := by rw [hw1]; exact Blk.new2 ..
  have o1 : Only [] w w1 := by rw [hw1]; exact (((Only.refl [] w).alloc _).alloc _).alloc _
  have hz : (outV R 0).toArray = #[.int .i64 0, .int .i64 0, .int .i64 0, .int .i64 0, .int .i64 0, .int .i64 0, .int .i64 0, .int .i64 0, .int .i64 0, .int .i64 0, .int .i64 0, .int .i64 0, .int .i64 0, .int .i64 0, .int .i64 0, .int .i64 0, .int .i64 0, .int .i64 0, .int .i64 0, .int .i64 0, .int .i64 0, .int .i64 0, .int .i64 0, .int .i64 0] := rfl
  rw [hz] at hw1
  rw [← hw1]
  clear hw1 hz
  go_loopw [6] (fun x wr => ∃ k : Nat, k ≤ 3 ∧ x = .int .i64 k ∧ Blk wr w.heap.size 49 (triV R).toArray ∧ Blk wr (w.heap.size + 1) 73 (outV R 0).toArray ∧ Blk wr (w.heap.size + 1 + 1) 73 (outV R k).toArray ∧ Only [] w wr) (fun x _ => 3 - (intOf x).toNat)
  case atStart => exact ⟨0, by omega, rfl, b1, b2, b3, o1⟩
  case round =>
    obtain ⟨k, hk, rfl, hb, hb2, hb3, ho⟩ := hrel
    by_cases h3 : k = 3
    · subst h3
      go_wp2_with (first
        | refine wl_loadw rowsTy hb3 rfl (tab_length ..) ?_
        | (refine wl_storew rowsTy hb2 rfl rfl (tab_length ..) (tab_length ..) (tab_one fun _ _ => rfl) ?_; intro w5 hb5 ho5))
      have he : outV R 3 = ordV R := tab_congr fun q hq => by rw [if_pos (by omega)]
      rw [he] at hb5
      exact bodyPost_ret (results_agg rowsTy rfl _ rfl hb5 (tab_length ..)) rfl ⟨rfl, ho.next ho5 (by simp)⟩
    · have hk3 : k < 3 := by omega
      go_wp2_with (refine wl_load (vs := [.int .i64 (R (12 + k * 4)), .int .i64 (R (12 + k * 4 + 1)), .int .i64 (R (12 + k * 4 + 2)), .int .i64 (R (12 + k * 4 + 3))]) vecTy hb rfl (tab_part _ ?_) rfl ?_; omega)
      obtain ⟨w2, hw2⟩ : ∃ w2, w2 = wr.alloc (.cells #[.int .i64 (R (12 + k * 4)), .int .i64 (R (12 + k * 4 + 1)), .int .i64 (R (12 + k * 4 + 2)), .int .i64 (R (12 + k * 4 + 3))] 46) := ⟨_, rfl⟩
      have b2 : Blk w2 w.heap.size 49 (triV R).toArray := by rw [hw2]; exact hb.alloc _
      have b3 := hb2.alloc (.cells #[.int .i64 (R (12 + k * 4)), .int .i64 (R (12 + k * 4 + 1)), .int .i64 (R (12 + k * 4 + 2)), .int .i64 (R (12 + k * 4 + 3))] 46)
      have b4 := hb3.alloc (.cells #[.int .i64 (R (12 + k * 4)), .int .i64 (R (12 + k * 4 + 1)), .int .i64 (R (12 + k * 4 + 2)), .int .i64 (R (12 + k * 4 + 3))] 46)
      rw [← hw2] at b3 b4
      have p2 : Blk w2 wr.heap.size 46 #[.int .i64 (R (12 + k * 4)), .int .i64 (R (12 + k * 4 + 1)), .int .i64 (R (12 + k * 4 + 2)), .int .i64 (R (12 + k * 4 + 3))] := by rw [hw2]; exact Blk.new ..
      have o2 : Only [] w w2 := by rw [hw2]; exact ho.alloc _
      rw [← hw2]
      clear hw2 ho hb hb2 hb3
      have kp := p2.regrown
      have k0 : ∀ d os, (Sort.grow (redrawn w2 d) os).cell? ⟨w.heap.size, k * 2, none⟩ = some (.int .i64 (R (k * 2))) := fun d os => by rw [b2.regrown]; exact at24 _ _ (by omega)
      have k1 : ∀ d os, (Sort.grow (redrawn w2 d) os).cell? ⟨w.heap.size, k * 2 + 1, none⟩ = some (.int .i64 (R (k * 2 + 1))) := fun d os => by rw [b2.regrown]; exact at24 _ _ (by omega)
      have kd : ∀ d os, (Sort.grow (redrawn w2 d) os).cell? ⟨w.heap.size, 6 + k, none⟩ = some (.int .i64 (R (6 + k))) := fun d os => by rw [b2.regrown]; exact at24 _ _ (by omega)
      have kn : ∀ d os, (Sort.grow (redrawn w2 d) os).cell? ⟨w.heap.size, 9 + k, none⟩ = some (.int .i64 (R (9 + k))) := fun d os => by rw [b2.regrown]; exact at24 _ _ (by omega)
      refine wp_region_below 29 (by kernel_rfl) (by kernel_rfl) ?_
      simp only [List.take_succ_cons, List.take_zero, List.drop_succ_cons, List.drop_zero]
      repeat (first | go_big_quiet_step (fail) | quiet_step (fail))
      refine wpQuiet_nil ?_
      rintro _ ⟨⟨d, os⟩, rfl⟩
      have oF := o2.trans (only_of_regrown d os)
      have c2 := b2.only (only_of_regrown d os) (by simp)
      have c3 := b3.only (only_of_regrown d os) (by simp)
      have c4 := b4.only (only_of_regrown d os) (by simp)
      clear kp kd kn k0 k1
      generalize Sort.grow (redrawn w2 d) os = w3 at *
      refine wl_store (vs := ints (rowOf R k)) rowTy c4 rfl rfl rfl ?_ (ints_one _) ?_
      · simp [outV, tab]; omega
      intro w5 hb5 ho5
      rw [outV_next R k hk3] at hb5
      have d2 := c2.only ho5 (by simp; omega)
      have d3 := c3.only ho5 (by simp)
      have oG := oF.next ho5 (by simp; omega)
      go_wp2
      go_roundw
      case rel => exact ⟨k + 1, by omega, by go_num, d2, d3, hb5, oG⟩
      case measure => simp [intOf]; omega
end Go.Proofs.Ytjeeeiekabjcfaa
