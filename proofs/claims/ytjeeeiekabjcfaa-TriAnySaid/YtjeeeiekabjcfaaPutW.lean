/-
  A RECORD's BYTES, PUT: the walk.
-/
import Derived.Test.YtjeeeiekabjcfaaPut
namespace Go.Proofs.Ytjeeeiekabjcfaa
open Go.RowKit Go.Azu

theorem delta_at (R : Nat → Int) (k j : Nat) (hj : j < 8) : Tri.delta R (8 * k + j) = Tri.ord R (8 * k + j) - (if k = 0 then 0 else Tri.ord R (8 * (k - 1) + j)) := by
  unfold Tri.delta
  by_cases hk : k = 0
  · subst hk; rw [if_pos (by omega), if_pos rfl]
  · rw [if_neg (by omega), if_neg hk, show 8 * k + j - 8 = 8 * (k - 1) + j from by omega]

theorem chkRec_ok {d : Int} {s : Bool} {R : Nat → Int} (h : chkRec d s R = 0) : 0 ≤ d ∧ d < 32 ∧ (s = true → chk R = 0) := by
  unfold chkRec at h
  split at h
  · cases h
  · rename_i h1
    simp at h1
    refine ⟨by omega, by omega, fun hs => ?_⟩
    subst hs
    simpa using h

set_option maxRecDepth 100000 in
set_option maxHeartbeats 8000000 in
theorem put_any {g : Nat} {v : Value} {l : List UInt8} (d : Nat) (s : Bool) (R : Nat → Int) (w : World) (h : WriterAt w g v l) (hl : l.length ≤ 900000) (hok : chkRec d s R = 0) :
    Calls Try.prog 10 #[.agg (recC d s R).toArray, .pointer (some ⟨g, 0, none⟩)] w fun x w' => x = .returned (.int .i64 0) ∧ Wrote g v w (l ++ Tri.bytes d s R) w' := by
  obtain ⟨hd0, hd1, hs⟩ := chkRec_ok hok
  have hB : Blk (w.alloc (.cells (recC d s R).toArray 51)) w.heap.size 51 (recC d s R).toArray := Blk.new ..
  have hW : Wrote g v w l (w.alloc (.cells (recC d s R).toArray 51)) := (Wrote.refl h).same ((Only.refl [] w).alloc _)
  have hck := fun (w : World) => recCheck_any d s R w
  rw [hok] at hck
  clear hok
  go_enter Try.func10, Try.ntmps10
  go_wp2_with (refine wl_loadw recTy hB rfl (recC_len ..) ?_)
  refine (hck _).mono ?_
  rintro e w2 ⟨rfl, ho2⟩
  have hB2 := hB.only ho2 (by simp)
  have hW2 := hW.same ho2
  clear hB hW ho2 hck
  have c0 : w2.cell? ⟨w.heap.size, 0, none⟩ = some (.int .i64 d) := hB2.cell 0
  have c1 : w2.cell? ⟨w.heap.size, 1, none⟩ = some (.bool s) := hB2.cell 1
  cases s with
  | false =>
    go_wp2_with fail
    have hcount := hW2.count (2 * d) (by have := Tri.enc_len 0 (2 * d) (by omega); omega) (by omega)
    rw [show (((2 * d : Nat) : Int)) = 2 * (d : Int) from by omega] at hcount
    refine hcount.mono ?_
    rintro e w3 ⟨rfl, hW3, hk3⟩
    go_wp2
    go_ret
    exact ⟨rfl, by simpa [Tri.bytes, Tri.head] using hW3⟩
  | true =>
    have HS := Lib.hid (hs rfl)
    clear hs
    go_wp2_with fail
    have hcount := hW2.count (2 * d + 1) (by have := Tri.enc_len 0 (2 * d + 1) (by omega); omega) (by omega)
    rw [show (((2 * d + 1 : Nat) : Int)) = 2 * (d : Int) + 1 from by omega] at hcount
    refine hcount.mono ?_
    rintro e w3 ⟨rfl, hW3, hk3⟩
    have hB3 := hk3 _ _ _ hB2 (by decide)
    clear c0 c1 hB2 hW2 hk3 hcount
    have hb6 : Blk (w3.alloc (.cells (lastV R 0).toArray 70)) w3.heap.size 70 (lastV R 0).toArray := Blk.new ..
    have hW4 := hW3.same ((Only.refl [] w3).alloc (.cells (lastV R 0).toArray 70))
    have hz : (lastV R 0).toArray = #[.int .i64 0, .int .i64 0, .int .i64 0, .int .i64 0, .int .i64 0, .int .i64 0, .int .i64 0, .int .i64 0] := rfl
    rw [hz] at hW4
    go_wp2_with (refine wl_load triTy (hB3.alloc _) rfl (recC_tri ..) ?_ ?_; exact tab_length ..)
    refine (numbers_any R _).mono ?_
    rintro e w5 ⟨rfl, ho5⟩
    have hb65 := hb6.only ho5 (by simp)
    have hW5 := hW4.same ho5
    have hsz := hW3.len
    clear hB3 hb6 hW4 ho5
    go_wp2_with fail
    generalize hg6 : w3.heap.size = g6 at *
    clear hg6 hW3 hz
    go_loopw [35] (fun x wr => ∃ k : Nat, k ≤ 3 ∧ x = .int .i64 k ∧ Blk wr g6 70 (lastV R k).toArray ∧ Wrote g v w (l ++ Wire.enc (2 * d + 1) ++ Tri.encs R (8 * k)) wr) (fun x _ => 3 - (intOf x).toNat)
    case atStart => exact ⟨0, by omega, rfl, hb65, by simpa [Tri.encs] using hW5⟩
    case round =>
      obtain ⟨k, hk, rfl, hb, hw⟩ := hrel
      by_cases h3 : k = 3
      · subst h3
        go_wp2
        go_ret
        exact ⟨rfl, by simpa [Tri.bytes, Tri.head] using hw⟩
      · have hk3 : k < 3 := by omega
        have hrow : ((ordV R).drop (k * 8)).take 8 = rowV R k := by
          unfold ordV
          rw [tab_part _ (by omega)]
          exact tab_congr fun j hj => by rw [Nat.mul_comm]; rfl
        have HR := Lib.hid hrow
        clear hrow
        have hlt6 := hb.lt
        go_wp2_with (first
          | refine wl_indexN Try.underlying73 rowTy rfl rfl (by omega) (by omega) HR.out ?_
          | (refine wl_storew rowTy (Blk.new ..) rfl rfl (tab_length ..) rfl (tab_one fun _ _ => rfl) ?_; intro w6 hb8 ho8)
          | refine wl_loadw rowTy hb8 rfl (tab_length ..) ?_)
        have hb6 := (hb.alloc _).only ho8 (by simp; omega)
        have hw6 := (hw.same ((Only.refl [] wr).alloc _)).far (Blk.new ..) (by decide) hw.len ho8
        have hne : g6 ≠ wr.heap.size := by omega
        have hsz8 := hw.len
        clear hb hw ho8 hlt6 HR
        generalize hg8 : wr.heap.size = g8 at *
        clear hg8
        go_loopw [39] (fun x wi => ∃ j : Nat, j ≤ 8 ∧ x = .int .i64 j ∧ Blk wi g6 70 (lastV R k).toArray ∧ Blk wi g8 70 (rowV R k).toArray ∧ Wrote g v w (l ++ Wire.enc (2 * d + 1) ++ Tri.encs R (8 * k + j)) wi) (fun x _ => 8 - (intOf x).toNat)
        case atStart => exact ⟨0, by omega, rfl, hb6, hb8, hw6⟩
        case round =>
          obtain ⟨j, hj, rfl, ib6, ib8, iw⟩ := hrel
          by_cases h8 : j = 8
          · subst h8
            go_wp2_with (first
              | refine wl_loadw rowTy ib8 rfl (tab_length ..) ?_
              | (refine wl_storew rowTy ib6 rfl rfl (tab_length ..) (tab_length ..) (tab_one fun _ _ => rfl) ?_; intro w7 hb7 ho7))
            have iw7 := iw.far ib6 (by decide) hsz ho7
            rw [← lastV_next] at hb7
            go_wp2
            go_roundw
            case rel => exact ⟨k + 1, by omega, by go_num, hb7, iw7⟩
            case measure => simp [intOf]; omega
          · have hj8 : j < 8 := by omega
            have hlast : wr.cell? ⟨g6, j, none⟩ = some (.int .i64 (if k = 0 then 0 else Tri.ord R (8 * (k - 1) + j))) := by rw [ib6.cell, List.getElem?_toArray]; exact tab_get _ hj8
            have hidx : (rowV R k)[(j : Int).toNat]? = some (.int .i64 (Tri.ord R (8 * k + j))) := tab_get _ hj8
            have HX := Lib.hid hidx
            have hdl := delta_at R k j hj8
            have hbd := delta_bounds HS.out (8 * k + j) (by omega)
            have hob := ord_bounds HS.out (8 * k + j) (by omega)
            have hlo : -100000 ≤ (if k = 0 then 0 else Tri.ord R (8 * (k - 1) + j)) ∧ (if k = 0 then 0 else Tri.ord R (8 * (k - 1) + j)) ≤ 100000 := by
              split
              · omega
              · have := ord_bounds HS.out (8 * (k - 1) + j) (by omega); omega
            have hel := Tri.encs_len R (fun q hq => delta_bounds HS.out q hq) (8 * k + j) (by omega)
            have hl1 := Tri.enc_len 0 (2 * d + 1) (by omega)
            have hl2 := Tri.enc_len 4 (Wire.zig (Tri.delta R (8 * k + j))) (by unfold Wire.zig; split <;> omega)
            have hint := iw.int (Tri.delta R (8 * k + j)) (by simp only [List.length_append]; omega) hbd
            rw [hdl] at hint
            have HD := Lib.hid hdl
            have HI := Lib.hid hint
            clear hidx hdl hint hbd hel hl1 hl2
            generalize (if k = 0 then 0 else Tri.ord R (8 * (k - 1) + j)) = la at *
            generalize hod : Tri.ord R (8 * k + j) = od at *
            clear hod
            go_wp2_with (refine wl_index Try.underlying70 intCell rfl rfl (by omega) (by omega) HX.out ?_)
            refine HI.out.mono ?_
            rintro e w7 ⟨rfl, hw7, hk7⟩
            have jb6 := hk7 _ _ _ ib6 (by decide)
            have jb8 := hk7 _ _ _ ib8 (by decide)
            have jw : Wrote g v w (l ++ Wire.enc (2 * d + 1) ++ Tri.encs R (8 * k + (j + 1))) w7 := by
              rw [show 8 * k + (j + 1) = 8 * k + j + 1 from by omega, Tri.encs, HD.out, ← List.append_assoc]
              exact hw7
            go_wp2
            go_roundw
            case rel => exact ⟨j + 1, by omega, by go_num, jb6, jb8, jw⟩
            case measure => simp [intOf]; omega
end Go.Proofs.Ytjeeeiekabjcfaa
