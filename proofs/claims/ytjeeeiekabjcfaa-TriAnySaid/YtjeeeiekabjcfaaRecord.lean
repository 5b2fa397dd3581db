/-
  A RECORD OF A SMALL TRIANGLE: the walk.
-/
import Derived.Test.YtjeeeiekabjcfaaSmallT
namespace Go.Proofs.Ytjeeeiekabjcfaa
open Go.RowKit Go.Azu

theorem nice_chk {R : Nat → Int} (h : Nice R) (ha : 0 < area6 [R 0, R 1, R 2, R 3, R 4, R 5]) : chk R = 0 := by
  have hb : ∀ k, k < 3 → badC R k = false := fun k hk => by
    have g0 := h.pts (k * 2) (by omega)
    have g1 := h.pts (k * 2 + 1) (by omega)
    have g2 := h.depth (6 + k) (by omega) (by omega)
    have g3 := h.near (9 + k) (by omega) (by omega)
    have g4 := h.colour (12 + k * 4) (by omega) (by omega)
    have g5 := h.colour (12 + k * 4 + 1) (by omega) (by omega)
    have g6 := h.colour (12 + k * 4 + 2) (by omega) (by omega)
    have g7 := h.colour (12 + k * 4 + 3) (by omega) (by omega)
    have n0 := near1_of (R (k * 2)) 16384 (by omega)
    have n1 := near1_of (R (k * 2 + 1)) 16384 (by omega)
    simp only [badC, Bool.or_eq_false_iff, bne_eq_false_iff_eq, decide_eq_false_iff_not, Bool.not_eq_false', beq_iff_eq, List.cons.injEq, and_true]
    unfold clampC
    exact ⟨⟨⟨⟨⟨⟨n0.symm, n1.symm⟩, by omega⟩, by omega⟩, by omega⟩, by omega⟩, by omega, by omega, by omega, by omega⟩
  rw [chk_good R hb, if_neg (by omega)]

/-- what a record of a small triangle is -/
structure Made (d : Int) (s : Bool) (R : Nat → Int) : Prop where
  ok : chkRec d s R = 0
  nice : s = true → Nice R
  none : s = false → R = fun _ => 0

set_option maxRecDepth 100000 in
set_option maxHeartbeats 8000000 in
theorem record_any (S : Nat → Int) (hS : SmallIn S) (dr : Int) (hd : 0 ≤ dr ∧ dr ≤ 255) (sm : Bool) (w : World) :
    Calls Try.prog 7 #[.agg (smallV S).toArray, .int .u8 dr, .bool sm] w fun x w' => ∃ s R, x = .returned (.agg (recC (dr % 32) s R).toArray) ∧ Made (dr % 32) s R ∧ Only [] w w' := by
  go_enter Try.func7, Try.ntmps7
  go_wp2_with (first
    | (refine wl_storew (vs := recC (dr % 32) false fun _ => 0) recTy (Blk.new2 ..) rfl rfl (recC_len ..) rfl (recC_one _ _ _) ?_; intro w2 b4 o2)
    | (refine wl_loadw smallTy25 (((Blk.new w 39 (smallV S).toArray).alloc _).alloc _ |>.only o2 (by simp; omega)) rfl (tab_length ..) ?_))
  have b6 : Blk w2 (w.heap.size + 1) 51 (recC 0 false fun _ => 0).toArray := ((Blk.new1 w _ 51 (recC 0 false fun _ => 0).toArray).alloc _).only o2 (by simp)
  have o1 : Only [] w w2 := ((((Only.refl [] w).alloc _).alloc _).alloc _).next o2 (by simp; omega)
  refine (smallTri_any S hS w2).mono ?_
  rintro e w3 ⟨T, rfl, hN, ho3⟩
  have c6 := b6.only ho3 (by simp)
  have c7 := b4.only ho3 (by simp)
  have o3 := o1.trans ho3
  have hck : ∀ s R, (s = true → chk R = 0) → (s = false → R = fun _ => 0) → chkRec (dr % 32) s R = 0 := fun s R h1 h2 => by
    unfold chkRec
    rw [if_neg (by simp; omega)]
    cases s with
    | true => simpa using h1 rfl
    | false => rw [h2 rfl]; simp
  obtain ⟨ok, hok⟩ : ∃ ok, ok = decide (0 < area6 [T 0, T 1, T 2, T 3, T 4, T 5]) := ⟨_, rfl⟩
  rw [← hok]
  have HOK := Lib.hid hok
  have HCK := Lib.hid hck
  clear hok hck b6 b4 o1 o2 ho3
  have hlt7 := c7.lt
  rcases (by cases ok <;> cases sm <;> simp : (ok = true ∧ sm = true) ∨ (ok = true ∧ sm = false) ∨ ok = false) with ⟨rfl, rfl⟩ | ⟨rfl, rfl⟩ | rfl
  · go_wp2_with (first
      | (refine wl_storew (vs := triV T) triTy (Blk.new ..) rfl rfl (tab_length ..) rfl (tab_one fun _ _ => rfl) ?_; intro w4 b8 o4))
    have d7 := (c7.alloc _).only o4 (by simp; omega)
    have d6 := (c6.alloc _).only o4 (by simp; omega)
    have o5 := (o3.alloc _).next o4 (by simp; omega)
    have hn8 : w3.heap.size ∉ [w.heap.size + 1 + 1] := by simp; omega
    clear c6 c7 o3 o4
    generalize w3.heap.size = g8 at *
    have HW2 := Lib.hid (show ((triV T).drop 0).take 24 = triV T from rfl)
    have hdz : ∀ w', (∃ p : Later [w.heap.size + 1 + 1] w4, w' = p.world) → Blk w' g8 49 (triV T).toArray := fun w' h => b8.only (Then.only h) hn8
    refine wp_region_multi (C := fun w' => ∃ p : Later [] w4, w' = p.world) (D := fun w' => ∃ p : Later [w.heap.size + 1 + 1] w4, w' = p.world) 3 2 [0, 1, 2] _ rfl (by kernel_rfl) (by kernel_rfl) (Then.mk (Only.refl [] w4).drew) (fun w' h => Then.mk ((Then.only h).mono (by simp))) ?_
    simp only [List.take_succ_cons, List.take_zero, List.drop_succ_cons, List.drop_zero]
    refine wpFlag_T (wq_load triTy hdz rfl HW2.out (tab_length ..) (wpQuiet_nil ?_))
    refine wpFlag_C ?_
    quiet_step (fail)
    refine wpQuiet_nil ?_
    refine wpFlag_skip (wpFlag_nil ?_)
    rintro _ ⟨p, rfl⟩
    have e7 := d7.only p.only (by simp)
    have e6 := d6.only p.only (by simp)
    have o6 := o5.trans_new p.only
    have hlat := p.only
    clear hdz d7 d6 o5 b8
    generalize p.world = w5 at *
    have k1 : w5.cell? ⟨w.heap.size + 1 + 1, 1, none⟩ = some (.bool false) := e7.cell 1
    have f1 := e7.frozen 1
    have q7 : Blk (w5.setCell ⟨w.heap.size + 1 + 1, 1, none⟩ (.bool true)) (w.heap.size + 1 + 1) 51 (recC (dr % 32) true fun _ => 0).toArray := e7.set_ 1 (.bool true)
    have oS : Only [w.heap.size + 1 + 1] w5 (w5.setCell ⟨w.heap.size + 1 + 1, 1, none⟩ (.bool true)) := (Only.refl _ _).setCell (.inl (by simp)) _
    have q6 := e6.only oS (by simp)
    have o7 := o6.next oS (by simp; omega)
    refine ⟨w5.setCell ⟨w.heap.size + 1 + 1, 1, none⟩ (.bool true), by simp [execOp]; go_simp, Then.mk ((hlat.mono (by simp)).trans oS), ?_⟩
    clear e7 e6 o6 k1 f1 hlat
    generalize w5.setCell ⟨w.heap.size + 1 + 1, 1, none⟩ (.bool true) = w6 at *
    have hsp : splice (recC (dr % 32) true fun _ => 0) 2 (triV T) = recC (dr % 32) true T := by
      have h26 : (recC (dr % 32) true fun _ => 0).drop (2 + (triV T).length) = [] := List.drop_eq_nil_of_le (by rw [recC_len]; simp [triV, tab])
      unfold splice
      rw [h26, List.append_nil]
      rfl
    have HSP := Lib.hid hsp
    clear hsp
    go_wp2_with (first
      | (refine wl_store (vs := triV T) triTy q7 rfl rfl (tab_length ..) ?_ (tab_one fun _ _ => rfl) ?_; rw [recC_len]; omega; intro w7 b7 o8; rw [HSP.out] at b7; have r6 := q6.only o8 (by simp))
      | refine wl_loadw recTy b7 rfl (recC_len ..) ?_
      | (refine wl_storew (vs := recC (dr % 32) true T) recTy r6 rfl rfl (recC_len ..) (recC_len ..) (recC_one _ _ _) ?_; intro w8 b9 o9))
    refine bodyPost_ret (results_agg recTy rfl _ rfl b9 (recC_len ..)) rfl ?_
    have hpos : 0 < area6 [T 0, T 1, T 2, T 3, T 4, T 5] := by simpa using HOK.out.symm
    exact ⟨true, T, rfl, ⟨HCK.out _ _ (fun _ => nice_chk hN hpos) (by simp), fun _ => hN, by simp⟩, (o7.next o8 (by simp; omega)).next o9 (by simp)⟩
  all_goals
    go_wp2_with (first
      | (refine wl_storew (vs := triV T) triTy (Blk.new ..) rfl rfl (tab_length ..) rfl (tab_one fun _ _ => rfl) ?_; intro w4 b8 o4; have d7 := (c7.alloc _).only o4 (by simp; omega); have d6 := (c6.alloc _).only o4 (by simp; omega))
      | refine wl_loadw recTy d7 rfl (recC_len ..) ?_
      | (refine wl_storew (vs := recC (dr % 32) false fun _ => 0) recTy d6 rfl rfl (recC_len ..) (recC_len ..) (recC_one _ _ _) ?_; intro w5 b5 o5))
    refine bodyPost_ret (results_agg recTy rfl _ rfl b5 (recC_len ..)) rfl ?_
    exact ⟨false, fun _ => 0, rfl, ⟨HCK.out _ _ (by simp) (fun _ => rfl), by simp, fun _ => rfl⟩, ((o3.alloc _).next o4 (by simp; omega)).next o5 (by simp)⟩
end Go.Proofs.Ytjeeeiekabjcfaa
