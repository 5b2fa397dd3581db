/-
  A RECORD TAKEN: no triangle, or an error ahead of it.
-/
import Derived.Test.YtjeeeiekabjcfaaTakeW
namespace Go.Proofs.Ytjeeeiekabjcfaa
open Go.RowKit Go.Azu

theorem countF_in {b : List UInt8} {m : Int} {r : List UInt8} (h : Wire.countF 63 b = .ok (m, r)) : 0 ≤ m ∧ m ≤ 63 := by
  unfold Wire.countF at h
  split at h
  · rename_i m' r' hd
    split at h
    · cases h
    · injection h with h
      injection h with h1 h2
      have := (Wire.decN_lt hd).1
      omega
  · cases h
theorem does_countF_in {R R' : Wire.Rd} {n : Int} (h : Wire.Does (Wire.countF 63) R n R') : 0 ≤ n ∧ n ≤ 63 := by
  by_cases h0 : R.err = 0
  · cases hf : Wire.countF 63 (R.b.drop R.pos) with
    | ok x =>
      have h1 := (h.ok h0 x.1 x.2 hf).1
      have := countF_in hf
      omega
    | error e => have := (h.error h0 e hf).1; omega
  · have := (h.bad h0).1
    omega
theorem zeroRec (d : Int) (s : Bool) : recC d s (fun _ => 0) = [.int .i64 d, .bool s, .int .i64 0, .int .i64 0, .int .i64 0, .int .i64 0, .int .i64 0, .int .i64 0, .int .i64 0, .int .i64 0, .int .i64 0, .int .i64 0, .int .i64 0, .int .i64 0, .int .i64 0, .int .i64 0, .int .i64 0, .int .i64 0, .int .i64 0, .int .i64 0, .int .i64 0, .int .i64 0, .int .i64 0, .int .i64 0, .int .i64 0, .int .i64 0] := rfl

set_option maxRecDepth 100000 in
set_option maxHeartbeats 8000000 in
theorem takeA_any {g : Nat} {R0 : Wire.Rd} (w : World) (h : ReaderAt w g R0) (h0 : R0.err = 0) (hev : ∀ m r, Wire.countF 63 (R0.b.drop R0.pos) = .ok (m, r) → m % 2 = 0) :
    Calls Try.prog 13 #[.pointer (some ⟨g, 0, none⟩)] w fun x w' => ∃ (e : Int) (d : Nat) (s : Bool) (R : Nat → Int) (rest : List UInt8) (R1 : Wire.Rd), x = .returned (.agg (recC d s R).toArray) ∧ TakeR (R0.b.drop R0.pos) e d s R rest ∧
      R1.err = e ∧ R1.b = R0.b ∧ R0.pos ≤ R1.pos ∧ (e = 0 → R0.b.drop R1.pos = rest) ∧ ReaderAt w' g R1 ∧ Only [g] w w' := by
  go_enter Try.func13, Try.ntmps13
  go_wp2_with fail
  refine (rCount_any 63 _ (h.same ((Only.refl [] w).alloc _)) (by omega)).mono ?_
  rintro e w1 ⟨m, R1, rfl, hD, hr1, ho1⟩
  have hm := does_countF_in hD
  have hlt := h.lt
  have b2 : Blk w1 w.heap.size 51 (recC 0 false fun _ => 0).toArray := (Blk.new w _ (recC 0 false fun _ => 0).toArray).only ho1 (by simp; omega)
  have o1 : Only [g] w w1 := ((Only.refl [g] w).alloc _).trans ho1
  have hm2 : m % 2 = 0 := by
    cases hf : Wire.countF 63 (R0.b.drop R0.pos) with
    | ok x => rw [(hD.ok h0 x.1 x.2 hf).1]; exact hev x.1 x.2 hf
    | error e => rw [(hD.error h0 e hf).1]; rfl
  clear hev
  · have d1 : (m % 2 == 1) = false := by simp; omega
    have HM := Lib.hid hm2
    have HD := Lib.hid hD
    clear hm2 hD
    go_wp2_with (refine wl_storew (vs := recC (m / 2) false fun _ => 0) recTy (Blk.new ..) rfl rfl (recC_len ..) rfl (recC_one _ _ _) ?_; intro w2 b4 o2; have c1 : w2.cell? ⟨w1.heap.size, 1, none⟩ = some (.bool false) := b4.cell 1)
    have hr2 : ReaderAt w2 g R1 := (hr1.same ((Only.refl [] w1).alloc _)).far (Blk.new ..) (by decide) o2
    have hsz : w.heap.size < w1.heap.size := by have := ho1.size; simp at this; omega
    have b3 : Blk w2 w.heap.size 51 (recC 0 false fun _ => 0).toArray := (b2.alloc _).only o2 (by simp; omega)
    have oo : Only [g] w w2 := (o1.alloc _).next o2 (by simp; omega)
    clear hr1 ho1 b2 o1 o2
    generalize w1.heap.size = g4 at *
    have hdn : (m / 2) = (((m / 2).toNat : Nat) : Int) := by omega
    by_cases he : R1.err = 0
    · have hck := fun w => recCheck_any (m / 2) false (fun _ => 0) w
      have hz : chkRec (m / 2) false (fun _ => 0) = 0 := by simp [chkRec]; omega
      rw [hz] at hck
      have hcf : ∃ r, Wire.countF 63 (R0.b.drop R0.pos) = .ok (m, r) ∧ R0.b.drop R1.pos = r := by
        cases hf : Wire.countF 63 (R0.b.drop R0.pos) with
        | ok x => exact ⟨x.2, by rw [(HD.out.ok h0 x.1 x.2 hf).1], (HD.out.ok h0 x.1 x.2 hf).2.2⟩
        | error e => exact absurd he (by rw [(HD.out.error h0 e hf).2.1]; exact (HD.out.error h0 e hf).2.2)
      obtain ⟨r, hcf, hr⟩ := hcf
      have HR := Lib.hid hr
      have HT := Lib.hid (TakeR.none hcf HM.out)
      have HB := Lib.hid HD.out.b
      have HL := Lib.hid HD.out.le
      have HN := Lib.hid hdn
      have HE := Lib.hid he
      have hre := fun w (h : ReaderAt w g R1) => rErr_any w h
      rw [he] at hre
      clear hcf hr hdn hz h0 he
      go_wp2_with (first
        | (go_at_call 15; refine (hre _ hr2).mono ?_; rintro e wu ⟨rfl, rfl⟩)
        | refine wl_loadw recTy b4 rfl (recC_len ..) ?_
        | (go_at_call 9; refine (hck _).mono ?_; rintro e w3 ⟨rfl, o3⟩; have hr3 := hr2.same o3; have b5 := b4.only o3 (by simp); have b6 := b3.only o3 (by simp))
        | (go_at_call 15; refine (hre _ hr3).mono ?_; rintro e wu ⟨rfl, rfl⟩)
        | refine wl_loadw recTy b5 rfl (recC_len ..) ?_
        | (refine wl_storew (vs := recC (m / 2) false fun _ => 0) recTy b6 rfl rfl (recC_len ..) (recC_len ..) (recC_one _ _ _) ?_; intro w4 b7 o4))
      refine bodyPost_ret (results_agg recTy rfl _ rfl b7 (recC_len ..)) rfl ?_
      refine ⟨0, (m / 2).toNat, false, fun _ => 0, r, R1, by rw [← HN.out], HT.out, HE.out, HB.out, HL.out, fun _ => HR.out, hr3.far b6 (by decide) o4, (oo.trans_new o3).next o4 (by simp)⟩
    · have d2 : (R1.err == 0) = false := by simpa using he
      have d3 : (R1.err != 0) = true := by simpa using he
      have hcf : Wire.countF 63 (R0.b.drop R0.pos) = .error R1.err := by
        cases hf : Wire.countF 63 (R0.b.drop R0.pos) with
        | ok x => exact absurd (HD.out.ok h0 x.1 x.2 hf).2.1 he
        | error e => rw [(HD.out.error h0 e hf).2.1]
      have HT := Lib.hid (TakeR.count hcf he)
      have HB := Lib.hid HD.out.b
      have HL := Lib.hid HD.out.le
      have HE := Lib.hid he
      clear hcf hdn h0 he
      go_wp2_with (first
        | (go_at_call 15; refine (rErr_any _ hr2).mono ?_; rintro e wu ⟨rfl, rfl⟩)
        | (refine wl_storew (vs := recC 0 false fun _ => 0) recTy b3 rfl rfl (recC_len ..) (recC_len ..) (recC_one _ _ _) ?_; intro w4 b7 o4))
      refine bodyPost_ret (results_agg recTy rfl _ rfl b7 (recC_len ..)) rfl ?_
      exact ⟨R1.err, 0, false, fun _ => 0, [], R1, rfl, HT.out, rfl, HB.out, HL.out, fun e => absurd e HE.out, hr2.far b3 (by decide) o4, oo.next o4 (by simp)⟩
end Go.Proofs.Ytjeeeiekabjcfaa
