/-
  THE DEVICE: a take.
-/
import Derived.Test.YtnpjlmeiaegdkaaStore
namespace Go.Proofs.Ytnpjlmeiaegdkaa
open Go.RowKit Go.Azu

/-- what the map of bends holds at a number, in whatever world that has that map -/
theorem DevAt.bent {w : World} {base gd gm gb : Nat} {D : Store.Dev} (h : DevAt w base gd gm gb D) (k : Int) :
    ∃ es clock x, ∃ m : BitVec 32, ∃ s, w.heap[gb]? = some (.map es clock) ∧ (-9223372036854775808 ≤ x ∧ x ≤ 9223372036854775807) ∧ (s = true → D.bends k = some (x, m)) ∧ (s = false → D.bends k = none) ∧
      ∀ W : World, W.heap[gb]? = some (.map es clock) →
      (Instr.lookup 27 (.map (some gb)) (.int .i64 k) true).run Try.prog W = .ok (.tuple #[.agg #[.int .i64 x, .int .u32 (m.toNat : Int)], .bool s]) W := by
  obtain ⟨vF, vG, fm, fb, nb, h1, h2, h3, h4, h5, h6, h7, h8, h9, h10⟩ := h.at_
  obtain ⟨es, clock, hb, hr⟩ := h9
  have hl := fun (W : World) (hW : W.heap[gb]? = some (.map es clock)) => MapIs.lookup (w := W) (f := fb) ⟨es, clock, hW, hr⟩ Try.underlying27 Try.underlying3 (z := .agg #[.int .i64 0, .int .u32 0]) (by kernel_rfl) k
  cases hb' : D.bends k with
  | none => exact ⟨es, clock, 0, 0, false, hb, by omega, by simp, by simp, fun W hW => by rw [hl W hW, h10, hb']; rfl⟩
  | some p => exact ⟨es, clock, p.1, p.2, true, hb, h.small.2.2.2.2 k p hb', by simp, by simp, fun W hW => by rw [hl W hW, h10, hb']; rfl⟩

theorem take_found {D : Store.Dev} {b : List UInt8} {x : Int} {m : BitVec 32} {sb : Bool} {k : Int} (hl : Hid (b.length = 68)) (hy : sb = true → (D.gone k).t.bends D.takes = some (x, m)) (hn : sb = false → (D.gone k).t.bends D.takes = none) :
    Hid ((sb = true → D.found b = Crc.bend x m b) ∧ (sb = false → D.found b = b)) ∧ Hid ((D.found b).length = 68) := by
  have hf : (sb = true → D.found b = Crc.bend x m b) ∧ (sb = false → D.found b = b) := by
    constructor
    · intro e; have := hy e; simp only [Store.Dev.found]; rw [show D.bends (D.takes : Int) = some (x, m) from this]
    · intro e; have := hn e; simp only [Store.Dev.found]; rw [show D.bends (D.takes : Int) = none from this]
  refine ⟨hf, ?_⟩
  cases sb
  · rw [hf.2 rfl]; exact hl.out
  · rw [hf.1 rfl, Crc.bend]; exact (Crc.length_bendTo _ _ _ _).trans hl.out

set_option maxHeartbeats 1000000 in
theorem devTake_any {base gd gm gb : Nat} {D : Store.Dev} (k : Int) (w : World) (h : DevAt w base gd gm gb D) (ht : D.takes ≤ 1000000000) :
    Calls Try.prog 8 #[.pointer (some ⟨gd, 0, none⟩), .int .i64 k] w fun e w' => ∃ A n c, e = .returned (.tuple #[.slice A n c, .int .i64 (D.take k).2.1]) ∧ n ≤ c ∧ (∀ ad : Addr, A = some ad → w.heap.size ≤ ad.block) ∧ Byts w' w'.heap.size A n (D.take k).1 ∧ DevAt w' base gd gm gb (D.take k).2.2 ∧ Only [gd, gm] w w' := by
  have c0 : w.cell? ⟨gd, 0, none⟩ = some (.map (some gm)) := by obtain ⟨vF, vG, fm, fb, nb, h1, -⟩ := h.at_; exact h1.cell 0
  rcases h.look k with ⟨hb, hl⟩ | ⟨b, g, cap, hb, hlen, hcap, hown, hl⟩
  · have HD := Lib.hid (show D.take k = ([], 9, D) by simp [Store.Dev.take, hb])
    clear hb
    go_enter Try.func8, Try.ntmps8
    go_wp2
    go_ret2
    rw [HD.out]
    exact ⟨none, 0, 0, rfl, Nat.le_refl _, (fun _ h => by cases h), Reads.none_, h, Only.refl _ _⟩
  · obtain ⟨w1, hdel, hD1, ho1, hsz1⟩ := h.delete k hb 0
    have hown1 : w1.ownsRow base 5 1 (.slice (some ⟨g, 0, none⟩) 68 cap) 68 (bytesV b) := h.row_only hown (by decide) (ho1.mono (by simp))
    have c5 : w1.cell? ⟨gd, 5, none⟩ = some (.int .i64 D.takes) := by obtain ⟨vF, vG, fm, fb, nb, h1, -⟩ := hD1.at_; exact h1.cell 5
    have f5 : w1.frozen? ⟨gd, 5, none⟩ = false := by obtain ⟨vF, vG, fm, fb, nb, h1, -⟩ := hD1.at_; exact h1.frozen 5
    have HB := Lib.hid hb
    have HLN := Lib.hid hlen
    clear hb hlen hown
    go_enter Try.func8, Try.ntmps8
    go_wp2_with fail
    have hD2 : DevAt (w1.setCell ⟨gd, 5, none⟩ (.int .i64 ((D.takes : Int) + 1))) base gd gm gb (D.gone k).t := hD1.touch 5 _ (fun _ _ => by simp [Store.Dev.t, Store.Dev.gone]) rfl rfl rfl rfl rfl rfl
    have ho2 : Only [gd, gm] w (w1.setCell ⟨gd, 5, none⟩ (.int .i64 ((D.takes : Int) + 1))) := (ho1.mono (T := [gd, gm]) (by simp)).setCell (.inl (by simp)) _
    have hown2 : (w1.setCell ⟨gd, 5, none⟩ (.int .i64 ((D.takes : Int) + 1))).ownsRow base 5 1 (.slice (some ⟨g, 0, none⟩) 68 cap) 68 (bytesV b) := hD1.row_only hown1 (by decide) ((Only.refl [gd, gm] w1).setCell (.inl (by simp)) _)
    generalize w1.setCell ⟨gd, 5, none⟩ (.int .i64 ((D.takes : Int) + 1)) = w2 at *
    clear c0 c5 f5 hl hdel ho1 hD1 hown1 hsz1
    obtain ⟨gG, cG, c5, c7, hr8, hsm⟩ : ∃ gG cG, w2.cell? ⟨gd, 5, none⟩ = some (.int .i64 ((D.takes : Int) + 1)) ∧ w2.cell? ⟨gd, 7, none⟩ = some (.slice (some ⟨gG, 0, none⟩) D.fail.length cG) ∧
        Reads w2 w2.heap.size 1 (some ⟨gG, 0, none⟩) D.fail.length (D.fail.map (Value.int .i64)) ∧ D.fail.length ≤ 1000000 := by
      obtain ⟨vF, vG, fm, fb, nb, h1, h2, h3, h4, h5, h6, ⟨gG, cG, rfl⟩, h8, -⟩ := hD2.at_
      exact ⟨gG, cG, h1.cell 5, h1.cell 7, Reads.of_own h8, h.small.2.1⟩
    cases hA : Store.among (D.takes : Int) D.fail with
    | true =>
      have HD := Lib.hid (show D.take k = ([], 10, (D.gone k).t) by simp [Store.Dev.take, HB.out, hA])
      have HAM := Lib.hid fun nq => among_any (D.takes : Int) _ _ _ cG D.fail (w2.drewN nq) (by simp only [maxLen]; omega) rfl (hr8.drewN nq)
      rw [hA] at HAM
      clear hA
      go_quiet ((go_at_call 17; exact Calls.quiet_of_same ((HAM.out _).mono fun _ _ hh => ⟨hh.1, hh.2.symm⟩)))
      go_wp2
      go_ret2
      rw [HD.out]
      exact ⟨none, 0, 0, rfl, Nat.le_refl _, (fun _ h => by cases h), Reads.none_, hD2.drewN _, ho2.drewN _⟩
    | false =>
      have HAM := Lib.hid fun nq => among_any (D.takes : Int) _ _ _ cG D.fail (w2.drewN nq) (by simp only [maxLen]; omega) rfl (hr8.drewN nq)
      rw [hA] at HAM
      have HA := Lib.hid hA
      clear hA
      go_quiet ((go_at_call 17; exact Calls.quiet_of_same ((HAM.out _).mono fun _ _ hh => ⟨hh.1, hh.2.symm⟩)))
      have hD3 := hD2.drewN nq
      have ho3 := ho2.drewN nq
      have hown3 : (w2.drewN nq).ownsRow base 5 1 (.slice (some ⟨g, 0, none⟩) 68 cap) 68 (bytesV b) := hown2
      obtain ⟨es, clock, x, m, sb, hbm, hxb, hbyes, hbno, hlook⟩ := hD3.bent (D.takes : Int)
      have c8 : (w2.drewN nq).cell? ⟨gd, 8, none⟩ = some (.map (some gb)) := by obtain ⟨vF, vG, fm, fb, nb, h1, -⟩ := hD3.at_; exact h1.cell 8
      have c5' : (w2.drewN nq).cell? ⟨gd, 5, none⟩ = some (.int .i64 ((D.takes : Int) + 1)) := c5
      have hgd : gd < (w2.drewN nq).heap.size := by obtain ⟨vF, vG, fm, fb, nb, h1, -⟩ := hD3.at_; exact h1.lt
      have hgb : gb < (w2.drewN nq).heap.size := (Array.getElem?_eq_some_iff.1 hbm).1
      clear c5 c7 hr8 HAM hown2 hD2 ho2
      generalize w2.drewN nq = w3 at *
      have hwt : IntKind.i64.wrap (D.takes : Int) = (D.takes : Int) := IntWalk.i64_in _ (by omega)
      go_wp2_with fail
      go_region_held3 (fun w' => w'.cell? ⟨gd, 8, none⟩ = some (.map (some gb)) ∧ w'.cell? ⟨gd, 5, none⟩ = some (.int .i64 ((D.takes : Int) + 1)) ∧ w'.heap[gb]? = some (.map es clock))
        (first
          | exact ⟨c8, c5', hbm⟩
          | (exact ⟨(World.cell?_alloc_lt _ _ _ hgd).trans (by assumption), (World.cell?_alloc_lt _ _ _ hgd).trans (by assumption), (Below.heap_alloc _ _ _ hgb).trans (by assumption)⟩)
          | (go_split_ands; refine ⟨?_, ?_, ?_⟩
             · (rw [World.cell?_setCell_other _ _ _ _ (fun e => by injection e with e; simp at e; omega)]; assumption)
             · (rw [World.cell?_setCell_other _ _ _ _ (fun e => by injection e with e; simp at e; omega)]; assumption)
             · (rw [Below.heap_setCell _ _ _ _ (by simp; omega)]; assumption)))
        (fail)
      all_goals
        have hD4 : DevAt ((w3.alloc (.cells #[.int .i64 x, .int .u32 (m.toNat : Int)] 25)).drew) base gd gm gb (D.gone k).t := hD3.only (((Only.refl [] w3).alloc _).drew) (by simp)
        have ho4 : Only [gd, gm] w ((w3.alloc (.cells #[.int .i64 x, .int .u32 (m.toNat : Int)] 25)).drew) := (ho3.alloc _).drew
        have hown4 : ((w3.alloc (.cells #[.int .i64 x, .int .u32 (m.toNat : Int)] 25)).drew).ownsRow base 5 1 (.slice (some ⟨g, 0, none⟩) 68 cap) 68 (bytesV b) := (hown3.alloc _).drew
        have hB4 : Blk ((w3.alloc (.cells #[.int .i64 x, .int .u32 (m.toNat : Int)] 25)).drew) w3.heap.size 25 #[.int .i64 x, .int .u32 (m.toNat : Int)] := (Blk.new w3 _ _).drew
        generalize hb8 : w3.heap.size = b8 at hB4 ⊢
        generalize ((w3.alloc (.cells #[.int .i64 x, .int .u32 (m.toNat : Int)] 25)).drew) = w4 at *
        clear hlook c8 c5' hgd hgb hwt hbm hD3 ho3 hown3 hb8
        have hr4 : Byts w4 w4.heap.size (some ⟨g, 0, none⟩) 68 b := Reads.of_own hown4
        obtain ⟨HF, HLF⟩ := take_found (D := D) HLN hbyes hbno
        have HTK := Lib.hid (show D.take k = if Crc.right (D.found b) = true then ((D.found b).take 64, 0, (D.gone k).t) else ([], 10, (D.gone k).t) by simp [Store.Dev.take, HB.out, HA.out])
        clear hbyes hbno
        have ca : w4.cell? ⟨b8, 0, none⟩ = some (.int .i64 x) := hB4.cell 0
        have cb : w4.cell? ⟨b8, 1, none⟩ = some (.int .u32 (m.toNat : Int)) := hB4.cell 1
        rcases hsb : sb with _ | _
        · have hfd := HF.out.2 hsb
          rw [← hfd] at hr4
          subst hsb
          go_wp2_with fail
          cases hR : Crc.right (D.found b) with
          | false =>
            have HR := Lib.hid hR
            clear hR
            refine (right_any _ _ _ _ (D.found b) _ (by simp [maxLen]) hcap hr4).mono ?_
            rw [HR.out]
            rintro e w6 ⟨rfl, rfl⟩
            go_wp2
            go_ret2
            rw [HTK.out, if_neg (by rw [HR.out]; simp)]
            exact ⟨none, 0, 0, rfl, Nat.le_refl _, (fun _ h => by cases h), Reads.none_, hD4, ho4⟩
          | true =>
            have HR := Lib.hid hR
            clear hR
            refine (right_any _ _ _ _ (D.found b) _ (by simp [maxLen]) hcap hr4).mono ?_
            rw [HR.out]
            rintro e w6 ⟨rfl, rfl⟩
            have hown0 := ownsRow_empty w4 5 1
            have hh := Byts.head hr4 (k := 64) (by omega)
            have hcap64 : 64 ≤ cap := by omega
            go_wp2_with (at_builtin
                         refine wpList_append_ex bytesTy (.tmp 67) (.tmp 69) rfl rfl hown0 rfl (Reads.alloc hh (Nat.le_refl _) _) rfl (bytesV_one _) (by simp [maxLen]) (by omega) ?_
                         intro g7 cap7 w7 hg7 hg7lt hcap7 hown7 hgrow7 _
                         simp only [Nat.zero_add, List.nil_append] at hown7 hcap7)
            go_ret2
            rw [HTK.out, if_pos HR.out]
            exact ⟨_, _, _, rfl, hcap7, (fun ad h => by cases h; have h1 := ho4.size; have h2 := hg7; show w.heap.size ≤ g7; omega), Reads.of_own hown7, hD4.only (((Only.refl [] _).alloc _).grow hgrow7 (by simp)) (by simp), ho4.trans_new (((Only.refl [] _).alloc _).grow hgrow7 (by simp))⟩
        · have hfd := HF.out.1 hsb
          subst hsb
          go_wp2_with fail
          refine (bend_any x m (some ⟨g, 0, none⟩) 68 cap b w4 (by omega) hr4 hxb).mono ?_
          rintro e w5 ⟨g5, cap5, rfl, hcap5, hown5, ho5⟩
          rw [← hfd] at hown5
          have hr5 := Reads.of_own hown5
          have hD5 := hD4.only ho5 (by simp)
          have ho5' := ho4.trans_new ho5
          clear hD4 ho4 ho5 hB4 ca cb hown4 hr4 hfd
          go_wp2_with fail
          cases hR : Crc.right (D.found b) with
          | false =>
            have HR := Lib.hid hR
            clear hR
            refine (right_any _ _ _ _ (D.found b) _ (by simp [maxLen]) hcap5 hr5).mono ?_
            rw [HR.out]
            rintro e w6 ⟨rfl, rfl⟩
            go_wp2
            go_ret2
            rw [HTK.out, if_neg (by rw [HR.out]; simp)]
            exact ⟨none, 0, 0, rfl, Nat.le_refl _, (fun _ h => by cases h), Reads.none_, hD5, ho5'⟩
          | true =>
            have HR := Lib.hid hR
            clear hR
            refine (right_any _ _ _ _ (D.found b) _ (by simp [maxLen]) hcap5 hr5).mono ?_
            rw [HR.out]
            rintro e w6 ⟨rfl, rfl⟩
            have hown0 := ownsRow_empty w5 5 1
            have hh := Byts.head hr5 (k := 64) (by omega)
            have hcap64 : 64 ≤ cap5 := by omega
            go_wp2_with (at_builtin
                         refine wpList_append_ex bytesTy (.tmp 67) (.tmp 69) rfl rfl hown0 rfl (Reads.alloc hh (Nat.le_refl _) _) rfl (bytesV_one _) (by simp [maxLen]) (by omega) ?_
                         intro g7 cap7 w7 hg7 hg7lt hcap7 hown7 hgrow7 _
                         simp only [Nat.zero_add, List.nil_append] at hown7 hcap7)
            go_ret2
            rw [HTK.out, if_pos HR.out]
            exact ⟨_, _, _, rfl, hcap7, (fun ad h => by cases h; have h1 := ho5'.size; have h2 := hg7; show w.heap.size ≤ g7; omega), Reads.of_own hown7, hD5.only (((Only.refl [] _).alloc _).grow hgrow7 (by simp)) (by simp), ho5'.trans_new (((Only.refl [] _).alloc _).grow hgrow7 (by simp))⟩
end Go.Proofs.Ytnpjlmeiaegdkaa
