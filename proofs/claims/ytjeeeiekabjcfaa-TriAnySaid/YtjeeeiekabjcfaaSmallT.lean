/-
  A SMALL TRIANGLE MADE: the walk.
-/
import Derived.Test.YtjeeeiekabjcfaaSmall
import Derived.Test.YtjeeeiekabjcfaaMulti
namespace Go.Proofs.Ytjeeeiekabjcfaa
open Go.RowKit Go.Azu

theorem smallTy : ATy Try.prog 33 6 := ⟨fun _ => by kernel_rfl, fun _ => by kernel_rfl⟩
theorem smallTy25 : ATy Try.prog 39 25 := ⟨fun _ => by kernel_rfl, fun _ => by kernel_rfl⟩
theorem pts6_any (a b c d e f : Int) (w : World) (ha : -128 ≤ a ∧ a ≤ 127) (hb : -128 ≤ b ∧ b ≤ 127) (hc : -128 ≤ c ∧ c ≤ 127) (hd : -128 ≤ d ∧ d ≤ 127) (he : -128 ≤ e ∧ e ≤ 127) (hf : -128 ≤ f ∧ f ≤ 127) :
    Calls Try.prog 27 #[.agg #[.int .i8 a, .int .i8 b, .int .i8 c, .int .i8 d, .int .i8 e, .int .i8 f]] w fun x w' => x = .returned (.agg #[.int .i64 a, .int .i64 b, .int .i64 c, .int .i64 d, .int .i64 e, .int .i64 f]) ∧ Only [] w w' :=
  pts_any a b c d e f w ha hb hc hd he hf

set_option maxRecDepth 100000 in
set_option maxHeartbeats 8000000 in
theorem smallTri_any (S : Nat → Int) (hS : SmallIn S) (w : World) :
    Calls Try.prog 17 #[.agg (smallV S).toArray] w fun x w' => ∃ T, x = .returned (.tuple #[.agg (triV T).toArray, .bool (decide (0 < area6 [T 0, T 1, T 2, T 3, T 4, T 5]))]) ∧ Nice T ∧ Only [] w w' := by
  have h01 := hS.pts
  have hz := hS.size
  go_enter Try.func17, Try.ntmps17
  have hp0 := h01 0 (by omega)
  have hp1 := h01 1 (by omega)
  have hp2 := h01 2 (by omega)
  have hp3 := h01 3 (by omega)
  have hp4 := h01 4 (by omega)
  have hp5 := h01 5 (by omega)
  clear h01
  go_wp2_with (first
    | refine wl_load (vs := [.int .i8 (S 0), .int .i8 (S 1), .int .i8 (S 2), .int .i8 (S 3), .int .i8 (S 4), .int .i8 (S 5)]) smallTy ((Blk.new w 39 (smallV S).toArray).alloc _) rfl rfl rfl ?_)
  refine (pts6_any _ _ _ _ _ _ _ hp0 hp1 hp2 hp3 hp4 hp5).mono ?_
  rintro e w1 ⟨rfl, ho1⟩
  have b1 : Blk w1 w.heap.size 39 (smallV S).toArray := ((Blk.new w _ _).alloc _).only ho1 (by simp)
  have b2 : Blk w1 (w.heap.size + 1) 49 (triV fun _ => 0).toArray := (Blk.new1 w _ _ _).only ho1 (by simp)
  have o1 : Only [] w w1 := (((Only.refl [] w).alloc _).alloc _).trans ho1
  clear ho1
  go_wp2_with (refine wl_storew (vs := triV (Small.init S)) triTy (Blk.new ..) rfl rfl (tab_length ..) rfl (tab_one fun _ _ => rfl) ?_; intro w2 b4 o2; have c24 : w2.cell? ⟨w.heap.size, 24, none⟩ = some (.int .u8 (S 24)) := by (rw [((b1.alloc _).only o2 (by have := b1.lt; simp; omega)).cell]; rfl))
  have b1' : Blk w2 w.heap.size 39 (smallV S).toArray := (b1.alloc _).only o2 (by have := b1.lt; simp; omega)
  have b2' : Blk w2 (w.heap.size + 1) 49 (triV fun _ => 0).toArray := (b2.alloc _).only o2 (by have := b2.lt; simp; omega)
  have o2' : Only [] w w2 := (o1.alloc _).next o2 (by have := o1.size; simp; omega)
  have hlt4 : w.heap.size + 1 < w1.heap.size := b2.lt
  rw [← upto_zero] at b4
  clear b1 b2 o1 o2 c24
  generalize w1.heap.size = g4 at *
  go_loopw [17] (fun x wr => ∃ k : Nat, k ≤ 3 ∧ x = .int .i64 k ∧ Blk wr w.heap.size 39 (smallV S).toArray ∧ Blk wr (w.heap.size + 1) 49 (triV fun _ => 0).toArray ∧ Blk wr g4 49 (triV (Small.upto S (8 * k))).toArray ∧ Only [] w wr) (fun x _ => 3 - (intOf x).toNat)
  case atStart => exact ⟨0, by omega, rfl, b1', b2', b4, o2'⟩
  case round =>
    clear b1' b2' b4 o2'
    obtain ⟨k, hk, rfl, hb1, hb2, hb4, ho⟩ := hrel
    by_cases h3 : k = 3
    · subst h3
      rw [show 8 * 3 = 24 from rfl, upto_all] at hb4
      have hN := nice_told hS
      have har := fun w => area_any [Small.told S 0, Small.told S 1, Small.told S 2, Small.told S 3, Small.told S 4, Small.told S 5] rfl w
      have hl6 : ((triV (Small.told S)).drop 0).take 6 = ints [Small.told S 0, Small.told S 1, Small.told S 2, Small.told S 3, Small.told S 4, Small.told S 5] := rfl
      have hn1 : w.heap.size + 1 ∉ [g4] := by simp; omega
      have HL6 := Lib.hid hl6
      clear hl6
      obtain ⟨ar, hare⟩ : ∃ ar, ar = area6 [Small.told S 0, Small.told S 1, Small.told S 2, Small.told S 3, Small.told S 4, Small.told S 5] := ⟨_, rfl⟩
      rw [← hare] at har
      have HA := Lib.hid hare
      clear hare
      by_cases hneg : ar < 0
      · have htn := fun w => turned_any [Small.told S 0, Small.told S 1, Small.told S 2, Small.told S 3, Small.told S 4, Small.told S 5] rfl w
        go_wp2_with (first
          | refine wl_load triTy6 hb4 rfl HL6.out rfl ?_
          | (go_at_call 28; refine (har _).mono ?_; rintro e w5 ⟨rfl, ho5⟩; have hb45 := hb4.only ho5 (by simp); have hb25 := hb2.only ho5 (by simp))
          | refine wl_load triTy6 hb45 rfl HL6.out rfl ?_
          | (go_at_call 29; refine (htn _).mono ?_; rintro e w6 ⟨rfl, ho6⟩; have hb46 := hb45.only ho6 (by simp); have hb26 := hb25.only ho6 (by simp))
          | (refine wl_store (vs := ints (turn6 [Small.told S 0, Small.told S 1, Small.told S 2, Small.told S 3, Small.told S 4, Small.told S 5])) triTy6 hb46 rfl rfl rfl ?_ (ints_one _) ?_; simp [triV, tab]; intro w7 hb47 ho7))
        have hoz := ((ho.trans ho5).trans ho6).next ho7 (by simp; omega)
        have hb2z := hb26.only ho7 hn1
        obtain ⟨T, hbz, hNz⟩ : ∃ T, Blk w7 g4 49 (triV T).toArray ∧ Nice T := by
          refine ⟨fun p => if p < 6 then (turn6 [Small.told S 0, Small.told S 1, Small.told S 2, Small.told S 3, Small.told S 4, Small.told S 5]).getD p 0 else Small.told S p, ?_, ?_⟩
          · exact hb47
          · have g0 := hN.pts 0 (by omega)
            have g1 := hN.pts 1 (by omega)
            have g2 := hN.pts 2 (by omega)
            have g3 := hN.pts 3 (by omega)
            have g4 := hN.pts 4 (by omega)
            have g5 := hN.pts 5 (by omega)
            refine ⟨fun p hp => ?_, fun p h1 h2 => ?_, fun p h1 h2 => ?_, fun p h1 h2 => ?_⟩
            · simp only [hp, if_true]
              rcases (by omega : p = 0 ∨ p = 1 ∨ p = 2 ∨ p = 3 ∨ p = 4 ∨ p = 5) with rfl | rfl | rfl | rfl | rfl | rfl <;> simp only [turn6, List.getD_cons_zero, List.getD_cons_succ] <;> assumption
            · simp only [show ¬ p < 6 by omega, if_false]; exact hN.depth p h1 h2
            · simp only [show ¬ p < 6 by omega, if_false]; exact hN.near p h1 h2
            · simp only [show ¬ p < 6 by omega, if_false]; exact hN.colour p h1 h2
        clear hb47 hb46 hb45 hb4 hb2 hb25 hb26 ho5 ho6 ho7 ho hb1 hN har htn HL6 HA
        have har2 := fun w => area_any [T 0, T 1, T 2, T 3, T 4, T 5] rfl w
        have HL2 := Lib.hid (show ((triV (T)).drop 0).take 6 = ints [T 0, T 1, T 2, T 3, T 4, T 5] from rfl)
        have HW2 := Lib.hid (show ((triV (T)).drop 0).take 24 = triV (T) from rfl)
        have hg41 : g4 ∉ [w.heap.size + 1] := by simp; omega
        have hcz : ∀ w', (∃ p : Later [] w7, w' = p.world) → Blk w' g4 49 (triV (T)).toArray := fun w' h => hbz.only (Then.only h) (by simp)
        have hdz : ∀ w', (∃ p : Later [w.heap.size + 1] w7, w' = p.world) → Blk w' g4 49 (triV (T)).toArray := fun w' h => hbz.only (Then.only h) hg41
        go_wp2_with fail
        refine wp_region_multi (C := fun w' => ∃ p : Later [] w7, w' = p.world) (D := fun w' => ∃ p : Later [w.heap.size + 1] w7, w' = p.world) 6 5 [1, 0, 0, 1, 0, 2] _ rfl (by kernel_rfl) (by kernel_rfl) (Then.mk (Only.refl [] w7).drew) (fun w' h => Then.mk ((Then.only h).mono (by simp))) ?_
        simp only [List.take_succ_cons, List.take_zero, List.drop_succ_cons, List.drop_zero]
        refine wpFlag_C (wq_load triTy hcz rfl HW2.out (tab_length ..) (wpQuiet_nil ?_))
        refine wpFlag_T ?_
        quiet_step (fail)
        refine wpQuiet_nil ?_
        refine wpFlag_T (wq_load triTy6 hdz rfl HL2.out rfl (wpQuiet_nil ?_))
        refine wpFlag_C ?_
        quiet_step (exact Calls.then (har2 _))
        refine wpQuiet_nil ?_
        refine wpFlag_T ?_
        quiet_step (fail)
        refine wpQuiet_nil ?_
        refine wpFlag_skip (wpFlag_nil ?_)
        rintro _ ⟨p, rfl⟩
        have hb2y := hb2z.only p.only (by simp)
        have hoy := hoz.trans_new p.only
        have hlat := p.only
        clear hcz hdz
        generalize p.world = w8 at *
        obtain ⟨w9, hr9, hb9, ho9⟩ := run_store_part (off := 0) (vs := triV (T)) triTy hb2y (tab_length ..) (by simp [triV, tab]) (tab_one fun _ _ => rfl)
        rw [splice_all (by simp [triV, tab])] at hb9
        refine ⟨w9, exec_store rfl rfl hr9, Then.mk ((hlat.mono (by simp)).trans ho9), ?_⟩
        go_wp2
        refine bodyPost_ret (results_agg2 triTy rfl _ rfl hb9 (tab_length ..)) rfl ?_
        exact ⟨T, rfl, hNz, hoy.next ho9 (by simp)⟩
      · go_wp2_with (first
          | refine wl_load triTy6 hb4 rfl HL6.out rfl ?_
          | (go_at_call 28; refine (har _).mono ?_; rintro e w7 ⟨rfl, ho7⟩; have hbz := hb4.only ho7 (by simp); have hb2z := hb2.only ho7 (by simp)))
        have hoz := ho.trans ho7
        clear hb4 hb2 ho7 ho hb1 har HL6 HA
        have har2 := fun w => area_any [Small.told S 0, Small.told S 1, Small.told S 2, Small.told S 3, Small.told S 4, Small.told S 5] rfl w
        have HL2 := Lib.hid (show ((triV (Small.told S)).drop 0).take 6 = ints [Small.told S 0, Small.told S 1, Small.told S 2, Small.told S 3, Small.told S 4, Small.told S 5] from rfl)
        have HW2 := Lib.hid (show ((triV (Small.told S)).drop 0).take 24 = triV (Small.told S) from rfl)
        have hg41 : g4 ∉ [w.heap.size + 1] := by simp; omega
        have hcz : ∀ w', (∃ p : Later [] w7, w' = p.world) → Blk w' g4 49 (triV (Small.told S)).toArray := fun w' h => hbz.only (Then.only h) (by simp)
        have hdz : ∀ w', (∃ p : Later [w.heap.size + 1] w7, w' = p.world) → Blk w' g4 49 (triV (Small.told S)).toArray := fun w' h => hbz.only (Then.only h) hg41
        go_wp2_with fail
        refine wp_region_multi (C := fun w' => ∃ p : Later [] w7, w' = p.world) (D := fun w' => ∃ p : Later [w.heap.size + 1] w7, w' = p.world) 6 5 [1, 0, 0, 1, 0, 2] _ rfl (by kernel_rfl) (by kernel_rfl) (Then.mk (Only.refl [] w7).drew) (fun w' h => Then.mk ((Then.only h).mono (by simp))) ?_
        simp only [List.take_succ_cons, List.take_zero, List.drop_succ_cons, List.drop_zero]
        refine wpFlag_C (wq_load triTy hcz rfl HW2.out (tab_length ..) (wpQuiet_nil ?_))
        refine wpFlag_T ?_
        quiet_step (fail)
        refine wpQuiet_nil ?_
        refine wpFlag_T (wq_load triTy6 hdz rfl HL2.out rfl (wpQuiet_nil ?_))
        refine wpFlag_C ?_
        quiet_step (exact Calls.then (har2 _))
        refine wpQuiet_nil ?_
        refine wpFlag_T ?_
        quiet_step (fail)
        refine wpQuiet_nil ?_
        refine wpFlag_skip (wpFlag_nil ?_)
        rintro _ ⟨p, rfl⟩
        have hb2y := hb2z.only p.only (by simp)
        have hoy := hoz.trans_new p.only
        have hlat := p.only
        clear hcz hdz
        generalize p.world = w8 at *
        obtain ⟨w9, hr9, hb9, ho9⟩ := run_store_part (off := 0) (vs := triV (Small.told S)) triTy hb2y (tab_length ..) (by simp [triV, tab]) (tab_one fun _ _ => rfl)
        rw [splice_all (by simp [triV, tab])] at hb9
        refine ⟨w9, exec_store rfl rfl hr9, Then.mk ((hlat.mono (by simp)).trans ho9), ?_⟩
        go_wp2
        refine bodyPost_ret (results_agg2 triTy rfl _ rfl hb9 (tab_length ..)) rfl ?_
        exact ⟨Small.told S, rfl, hN, hoy.next ho9 (by simp)⟩
    · have hk3 : k < 3 := by omega
      have hsz := hb1.lt
      have in4 : ∀ p, p < 24 → ∀ q, q ≤ Tri.pinv p → (triV (Small.upto S q)).toArray[p]? = some (.int .i64 (Small.init S p)) := fun p hp q hq => by
        rw [at24 _ _ hp]
        unfold Small.upto
        rw [if_neg (by omega)]
      have q0 : Tri.pinv (k * 2) = 8 * k := by rw [show k * 2 = Tri.pos k 0 from by unfold Tri.pos; rw [if_pos (by omega)]; omega]; exact Tri.pinv_pos k 0 hk3 (by omega)
      have q1 : Tri.pinv (k * 2 + 1) = 8 * k + 1 := by rw [show k * 2 + 1 = Tri.pos k 1 from by unfold Tri.pos; rw [if_pos (by omega)]; omega]; exact Tri.pinv_pos k 1 hk3 (by omega)
      have kx : ∀ d os, (Sort.grow (redrawn wr d) os).cell? ⟨g4, k * 2, none⟩ = some (.int .i64 (S (k * 2))) := fun d os => by
        rw [hb4.regrown, in4 _ (by omega) _ (by omega)]; unfold Small.init; rw [if_pos (by omega)]
      have ky : ∀ d os, (Sort.grow (redrawn wr d) os).cell? ⟨g4, k * 2 + 1, none⟩ = some (.int .i64 (S (k * 2 + 1))) := fun d os => by
        rw [hb4.regrown, in4 _ (by omega) _ (by omega)]; unfold Small.init; rw [if_pos (by omega)]
      have px := hS.pts (k * 2) (by omega)
      have py := hS.pts (k * 2 + 1) (by omega)
      have hzz : 0 ≤ S 24 % 4 ∧ S 24 % 4 ≤ 3 := by omega
      have mulb : ∀ a z : Int, -128 ≤ a ∧ a ≤ 127 → 0 ≤ z ∧ z ≤ 3 → -512 ≤ a * (1 + z) ∧ a * (1 + z) ≤ 512 := fun a z ha hz => by
        rcases (by omega : z = 0 ∨ z = 1 ∨ z = 2 ∨ z = 3) with rfl | rfl | rfl | rfl <;> omega
      have mx := mulb _ _ px hzz
      have my := mulb _ _ py hzz
      have tx : Small.told S (k * 2) = S (k * 2) * (1 + S 24 % 4) + 100 := by unfold Small.told; rw [if_pos (by omega)]
      have ty : Small.told S (k * 2 + 1) = S (k * 2 + 1) * (1 + S 24 % 4) + 100 := by unfold Small.told; rw [if_pos (by omega)]
      have TX := Lib.hid tx
      have TY := Lib.hid ty
      have Q0 := Lib.hid q0
      have Q1 := Lib.hid q1
      clear mulb in4 q0 q1 tx ty
      go_wp2_with fail
      refine wp_region_multi (C := fun w' => ∃ p : Regrown, w' = Sort.grow (redrawn wr p.d) p.os) (D := fun _ => True) 25 21 [1, 0, 1, 1, 1, 1, 1, 1, 1, 1, 0, 1, 1, 1, 1, 0, 0, 0, 0, 0, 1, 2, 0, 0, 0] _ rfl (by kernel_rfl) (by kernel_rfl) ⟨⟨wr.drawn + 1, #[]⟩, by rw [Sort.grow_empty]; rfl⟩ (fun _ _ => trivial) ?_
      simp only [List.take_succ_cons, List.take_zero, List.drop_succ_cons, List.drop_zero]
      repeat (first | (refine wpFlag_C ?_; first | go_big_quiet_step (fail) | quiet_step (fail)) | (refine wpFlag_T ?_; first | go_big_quiet_step (fail) | quiet_step (fail)) | refine wpFlag_skip ?_ | refine wpQuiet_nil ?_)
      try refine wpFlag_nil ?_
      rintro _ ⟨⟨d, os⟩, rfl⟩
      have c1 := hb1.only (only_of_regrown d os) (by simp)
      have c2 := hb2.only (only_of_regrown d os) (by simp)
      have c4 := hb4.only (only_of_regrown d os) (by simp)
      have oo := ho.trans_new (only_of_regrown d os)
      have vx := kx d os
      have vy := ky d os
      clear hb1 hb2 hb4 ho kx ky
      generalize Sort.grow (redrawn wr d) os = w3 at *
      have fx := c4.frozen (k * 2)
      have fy := c4.frozen (k * 2 + 1)
      refine ⟨w3.setCell ⟨g4, k * 2, none⟩ (.int .i64 (S (k * 2) * (1 + S 24 % 4) + 100)), by simp [execOp]; go_simp, trivial, ?_⟩
      go_wp2_with fail
      obtain ⟨w4, hw4⟩ : ∃ w4, w4 = (w3.setCell ⟨g4, k * 2, none⟩ (.int .i64 (S (k * 2) * (1 + S 24 % 4) + 100))).setCell ⟨g4, k * 2 + 1, none⟩ (.int .i64 (S (k * 2 + 1) * (1 + S 24 % 4) + 100)) := ⟨_, rfl⟩
      have d4 : Blk w4 g4 49 (triV (Small.upto S (8 * k + 1 + 1))).toArray := by
        have := (c4.set_ (k * 2) (.int .i64 (S (k * 2) * (1 + S 24 % 4) + 100))).set_ (k * 2 + 1) (.int .i64 (S (k * 2 + 1) * (1 + S 24 % 4) + 100))
        simp only [List.setIfInBounds_toArray] at this
        rw [← TX.out, ← TY.out, upto_next S (8 * k) (k * 2) (by omega) (by unfold Tri.pos; rw [if_pos (by omega)]; omega), upto_next S (8 * k + 1) (k * 2 + 1) (by omega) (by unfold Tri.pos; rw [if_pos (by omega)]; omega), TX.out, TY.out] at this
        rw [hw4]; exact this
      have oS : Only [g4] w3 w4 := by rw [hw4]; exact ((Only.refl [g4] w3).setCell (.inl (by simp)) _).setCell (.inl (by simp)) _
      rw [← hw4]
      have hn1 : w.heap.size ∉ [g4] := by simp; omega
      have hn2 : w.heap.size + 1 ∉ [g4] := by simp; omega
      have d1 := c1.only oS hn1
      have d2 := c2.only oS hn2
      have do_ := oo.next oS (by simp; omega)
      clear hw4 c1 c2 c4 oo oS vx vy fx fy TX TY mx my px py
      have kd : ∀ p : Later [] w4, p.world.cell? ⟨w.heap.size, 6 + k, none⟩ = some (.int .u16 (S (6 + k))) := fun p => by
        rw [(d1.only p.only (by simp)).cell, List.getElem?_toArray]; unfold smallV; rw [tab_get _ (by omega), if_neg (by omega), if_pos (by omega)]
      have kn : ∀ p : Later [g4] w4, p.world.cell? ⟨w.heap.size, 9 + k, none⟩ = some (.int .u16 (S (9 + k))) := fun p => by
        rw [(d1.only p.only hn1).cell, List.getElem?_toArray]; unfold smallV; rw [tab_get _ (by omega), if_neg (by omega), if_pos (by omega)]
      have pd := hS.mid (6 + k) (by omega) (by omega)
      have pn := hS.mid (9 + k) (by omega) (by omega)
      go_wp2_with fail
      refine wp_region_multi (C := fun w' => ∃ p : Later [] w4, w' = p.world) (D := fun w' => ∃ p : Later [g4] w4, w' = p.world) 19 16 [1, 0, 1, 1, 1, 1, 1, 0, 0, 0, 0, 0, 0, 0, 0, 1, 2, 0, 0] _ rfl (by kernel_rfl) (by kernel_rfl) (Then.mk (Only.refl [] w4).drew) (fun w' h => by obtain ⟨p, rfl⟩ := h; exact Then.mk (p.only.mono (by simp))) ?_
      simp only [List.take_succ_cons, List.take_zero, List.drop_succ_cons, List.drop_zero]
      repeat (first | (refine wpFlag_C ?_; first | go_big_quiet_step (fail) | quiet_step (fail)) | (refine wpFlag_T ?_; first | go_big_quiet_step (fail) | quiet_step (fail)) | refine wpFlag_skip ?_ | refine wpQuiet_nil ?_)
      try refine wpFlag_nil ?_
      rintro _ ⟨p, rfl⟩
      have c1 := d1.only p.only (by simp)
      have c2 := d2.only p.only (by simp)
      have c4 := d4.only p.only (by simp)
      have oo := do_.trans_new p.only
      have hlat := p.only
      generalize p.world = w5 at *
      have rc : ∀ q, q < 24 → ∃ v, w5.cell? ⟨g4, q, none⟩ = some v := fun q hq => by rw [c4.cell, at24 _ _ hq]; exact ⟨_, rfl⟩
      obtain ⟨v6, e6⟩ := rc (6 + k) (by omega)
      obtain ⟨v9, e9⟩ := rc (9 + k) (by omega)
      have f6 := c4.frozen (6 + k)
      have f9 := c4.frozen (9 + k)
      clear rc kd kn
      refine ⟨w5.setCell ⟨g4, 6 + k, none⟩ (.int .i64 (S (6 + k))), by simp [execOp]; go_simp, Then.mk ((hlat.mono (by simp)).setCell (.inl (by simp)) _), ?_⟩
      go_wp2_with fail
      obtain ⟨w6, hw6⟩ : ∃ w6, w6 = (w5.setCell ⟨g4, 6 + k, none⟩ (.int .i64 (S (6 + k)))).setCell ⟨g4, 9 + k, none⟩ (.int .i64 (1 + S (9 + k) % 1024)) := ⟨_, rfl⟩
      have q4 : Blk w6 g4 49 (triV (Small.upto S (8 * k + 4 + 0))).toArray := by
        have := (c4.set_ (6 + k) (.int .i64 (S (6 + k)))).set_ (9 + k) (.int .i64 (1 + S (9 + k) % 1024))
        simp only [List.setIfInBounds_toArray] at this
        have t6 : Small.told S (6 + k) = S (6 + k) := by unfold Small.told; rw [if_neg (by omega), if_pos (by omega)]
        have t9 : Small.told S (9 + k) = 1 + S (9 + k) % 1024 := by unfold Small.told; rw [if_neg (by omega), if_neg (by omega), if_pos (by omega)]
        rw [← t9] at this
        have hs1 := upto_next S (8 * k + 1 + 1) (6 + k) (by omega) (by unfold Tri.pos; rw [show (8 * k + 1 + 1) / 8 = k from by omega, show (8 * k + 1 + 1) % 8 = 2 from by omega]; rfl)
        have hs2 := upto_next S (8 * k + 1 + 1 + 1) (9 + k) (by omega) (by unfold Tri.pos; rw [show (8 * k + 1 + 1 + 1) / 8 = k from by omega, show (8 * k + 1 + 1 + 1) % 8 = 3 from by omega]; rfl)
        rw [t6] at hs1
        rw [hs1, hs2, t9] at this
        rw [hw6]; exact this
      have oS : Only [g4] w5 w6 := by rw [hw6]; exact ((Only.refl [g4] w5).setCell (.inl (by simp)) _).setCell (.inl (by simp)) _
      rw [← hw6]
      have q1 := c1.only oS hn1
      have q2 := c2.only oS hn2
      have qo := oo.next oS (by simp; omega)
      clear hw6 c1 c2 c4 oo oS e6 e9 f6 f9 d1 d2 d4 do_ pd pn hlat
      go_loopw [62] (fun x wi => ∃ c : Nat, c ≤ 4 ∧ x = .int .i64 c ∧ Blk wi w.heap.size 39 (smallV S).toArray ∧ Blk wi (w.heap.size + 1) 49 (triV fun _ => 0).toArray ∧ Blk wi g4 49 (triV (Small.upto S (8 * k + 4 + c))).toArray ∧ Only [] w wi) (fun x _ => 4 - (intOf x).toNat)
      case atStart => exact ⟨0, by omega, rfl, q1, q2, q4, qo⟩
      case round =>
        clear q1 q2 q4 qo
        obtain ⟨c, hc, rfl, hb1, hb2, hb4, ho⟩ := hrel
        by_cases hc4 : c = 4
        · subst hc4
          go_wp2
          go_roundw
          case rel => exact ⟨k + 1, by omega, by go_num, hb1, hb2, hb4, ho⟩
          case measure => simp [intOf]; omega
        · have hc4' : c < 4 := by omega
          have kc : ∀ d os, (Sort.grow (redrawn wr d) os).cell? ⟨w.heap.size, 12 + k * 4 + c, none⟩ = some (.int .u16 (S (12 + k * 4 + c))) := fun d os => by
            rw [hb1.regrown, List.getElem?_toArray]; unfold smallV; rw [tab_get _ (by omega), if_neg (by omega), if_pos (by omega)]
          have pc := hS.mid (12 + k * 4 + c) (by omega) (by omega)
          go_wp2_with fail
          refine wp_region_below 12 (by kernel_rfl) (by kernel_rfl) ?_
          simp only [List.take_succ_cons, List.take_zero, List.drop_succ_cons, List.drop_zero]
          repeat (first | go_big_quiet_step (fail) | quiet_step (fail))
          refine wpQuiet_nil ?_
          rintro _ ⟨⟨d, os⟩, rfl⟩
          have c1 := hb1.only (only_of_regrown d os) (by simp)
          have c2 := hb2.only (only_of_regrown d os) (by simp)
          have c4 := hb4.only (only_of_regrown d os) (by simp)
          have oo := ho.trans_new (only_of_regrown d os)
          clear hb1 hb2 hb4 ho kc
          generalize Sort.grow (redrawn wr d) os = w7 at *
          obtain ⟨vc, ec⟩ : ∃ v, w7.cell? ⟨g4, 12 + k * 4 + c, none⟩ = some v := by rw [c4.cell, at24 _ _ (by omega)]; exact ⟨_, rfl⟩
          have fc := c4.frozen (12 + k * 4 + c)
          have q4 : Blk (w7.setCell ⟨g4, 12 + k * 4 + c, none⟩ (.int .i64 (S (12 + k * 4 + c)))) g4 49 (triV (Small.upto S (8 * k + 4 + (c + 1)))).toArray := by
            have := c4.set_ (12 + k * 4 + c) (.int .i64 (S (12 + k * 4 + c)))
            simp only [List.setIfInBounds_toArray] at this
            have tc : Small.told S (12 + k * 4 + c) = S (12 + k * 4 + c) := by unfold Small.told; rw [if_neg (by omega), if_neg (by omega), if_neg (by omega)]
            have hs := upto_next S (8 * k + 4 + c) (12 + k * 4 + c) (by omega) (by
              unfold Tri.pos
              rw [show (8 * k + 4 + c) / 8 = k from by omega, show (8 * k + 4 + c) % 8 = 4 + c from by omega, if_neg (by omega), if_neg (by omega), if_neg (by omega)]
              omega)
            rw [tc] at hs
            rwa [hs] at this
          have oS : Only [g4] w7 (w7.setCell ⟨g4, 12 + k * 4 + c, none⟩ (.int .i64 (S (12 + k * 4 + c)))) := (Only.refl [g4] w7).setCell (.inl (by simp)) _
          have q1 := c1.only oS hn1
          have q2 := c2.only oS hn2
          have qo := oo.next oS (by simp; omega)
          clear c1 c2 c4 oo oS
          go_wp2
          go_roundw
          case rel => exact ⟨c + 1, by omega, by go_num, q1, q2, q4, qo⟩
          case measure => simp [intOf]; omega
end Go.Proofs.Ytjeeeiekabjcfaa
