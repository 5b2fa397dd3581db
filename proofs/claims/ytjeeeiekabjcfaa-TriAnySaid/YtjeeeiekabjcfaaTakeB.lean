/-
  A RECORD TAKEN: a triangle.
-/
import Derived.Test.YtjeeeiekabjcfaaTakeA
namespace Go.Proofs.Ytjeeeiekabjcfaa
open Go.RowKit Go.Azu

theorem wp_enter {P : Program} {o : Oper} {a : Act} {Q : Exit → Act → World → Prop} {w w' : World} {K : Act → World → Prop} {f : FuncId} {args : Array Value} (h : (execOp a.eval o).run P w = .ok (.enter f args) w') (hc : Calls P f args w' fun e w2 => ∃ v, e = .returned v ∧ K (a.put o.dst v) w2) : o.wp P a w K Q := by
  unfold Oper.wp
  rw [h, Oper.upon_enter]
  refine hc.mono ?_
  rintro e w2 ⟨v, rfl, hk⟩
  exact hk

/-- what each operation of the region 'last[k] += r.Within(..)' yields -/
def AddVal (R : Wire.Rd) (la : Int) (g g5 j : Nat) : Nat → Value → Prop
  | 0, v => v = .int .i64 j
  | 1, v => v = .pointer (some ⟨g5, j, none⟩)
  | 2, v => v = .int .i64 la
  | 3, v => v = .pointer (some ⟨g, 0, none⟩)
  | 4, v => ∃ n R', v = .int .i64 n ∧ Wire.Does Tri.numF R n R'
  | 5, v => ∃ n R', v = .int .i64 (la + n) ∧ Wire.Does Tri.numF R n R'
  | 6, v => v = .pointer (some ⟨g5, j, none⟩)
  | _, _ => True
def AddInv (R : Wire.Rd) (g g4 g5 gw : Nat) (w : World) (c4 c5 cw : List Value) (b : Bool) (w' : World) : Prop :=
  (∃ R', (if b then ∃ n, Wire.Does Tri.numF R n R' else R' = R) ∧ ReaderAt w' g R') ∧ Blk w' g4 51 c4.toArray ∧ Blk w' g5 70 c5.toArray ∧ Blk w' gw 51 cw.toArray ∧ Only [g] w w'

set_option maxRecDepth 100000 in
set_option maxHeartbeats 8000000 in
theorem takeB_any {g : Nat} {R0 : Wire.Rd} {m0 : Int} {r0 : List UInt8} (w : World) (h : ReaderAt w g R0) (h0 : R0.err = 0) (hod : Wire.countF 63 (R0.b.drop R0.pos) = .ok (m0, r0)) (hm0 : m0 % 2 = 1) :
    Calls Try.prog 13 #[.pointer (some ⟨g, 0, none⟩)] w fun x w' => ∃ (e : Int) (d : Nat) (s : Bool) (R : Nat → Int) (rest : List UInt8) (R1 : Wire.Rd), x = .returned (.agg (recC d s R).toArray) ∧ TakeR (R0.b.drop R0.pos) e d s R rest ∧
      R1.err = e ∧ R1.b = R0.b ∧ R0.pos ≤ R1.pos ∧ (e = 0 → R0.b.drop R1.pos = rest) ∧ ReaderAt w' g R1 ∧ Only [g] w w' := by
  go_enter Try.func13, Try.ntmps13
  go_wp2_with fail
  refine (rCount_any 63 _ (h.same ((Only.refl [] w).alloc _)) (by omega)).mono ?_
  rintro e w1 ⟨m, R1, rfl, hD, hr1, ho1⟩
  obtain ⟨rfl, he1, hpos⟩ := hD.ok h0 m0 r0 hod
  have hm := countF_in hod
  have hlt := h.lt
  have b2 : Blk w1 w.heap.size 51 (recC 0 false fun _ => 0).toArray := (Blk.new w _ (recC 0 false fun _ => 0).toArray).only ho1 (by simp; omega)
  have o1 : Only [g] w w1 := ((Only.refl [g] w).alloc _).trans ho1
  have hst : Tri.St R0.b 0 (fun _ => 0) R1.pos R1 := ⟨hD.b, Nat.le_refl _, fun _ => .zero _, fun h => absurd he1 h, fun i => by omega⟩
  have d1 : (m % 2 == 1) = true := by simp; omega
  have HM := Lib.hid hm0
  have HC := Lib.hid hod
  have HB := Lib.hid hD.b
  have HL := Lib.hid hD.le
  have HP := Lib.hid hpos
  have HS := Lib.hid hst
  clear hm0 hD hod hpos hst h0 he1
  go_wp2_with (refine wl_storew (vs := recC (m / 2) true fun _ => 0) recTy (Blk.new ..) rfl rfl (recC_len ..) rfl (recC_one _ _ _) ?_; intro w2 b4 o2; have c1 : w2.cell? ⟨w1.heap.size, 1, none⟩ = some (.bool true) := b4.cell 1)
  have hr2 : ReaderAt w2 g R1 := (hr1.same ((Only.refl [] w1).alloc _)).far (Blk.new ..) (by decide) o2
  have hsz : w.heap.size < w1.heap.size := by have := ho1.size; simp at this; omega
  have b3 : Blk w2 w.heap.size 51 (recC 0 false fun _ => 0).toArray := (b2.alloc _).only o2 (by simp; omega)
  have oo : Only [g] w w2 := (o1.alloc _).next o2 (by simp; omega)
  have hz5 : (lastD (fun _ => 0) 0 0).toArray = #[.int .i64 0, .int .i64 0, .int .i64 0, .int .i64 0, .int .i64 0, .int .i64 0, .int .i64 0, .int .i64 0] := rfl
  have b5 : Blk (w2.alloc (.cells (lastD (fun _ => 0) 0 0).toArray 70)) w2.heap.size 70 (lastD (fun _ => 0) 0 0).toArray := Blk.new ..
  have b4' := b4.alloc (.cells (lastD (fun _ => 0) 0 0).toArray 70)
  have b3' := b3.alloc (.cells (lastD (fun _ => 0) 0 0).toArray 70)
  have hr2' := hr2.same ((Only.refl [] w2).alloc (.cells (lastD (fun _ => 0) 0 0).toArray 70))
  have oo' := oo.alloc (.cells (lastD (fun _ => 0) 0 0).toArray 70)
  have hsz5 : w1.heap.size < w2.heap.size := by have := o2.size; simp at this; omega
  rw [hz5] at b5 b4' b3' hr2' oo'
  rw [← hz5] at b5
  have hrz : recC (m / 2) true (fun _ => 0) = recC (m / 2) true (rowsR (fun _ => 0) 0) := recC_congr fun p _ => by simp [rowsR]
  rw [hrz] at b4'
  clear hr1 ho1 b2 o1 o2 hr2 b3 b4 oo c1 hz5 hrz
  generalize w1.heap.size = g4 at *
  generalize w2.heap.size = g5 at *
  go_loopw [19] (fun x wr => ∃ (i : Nat) (D : Nat → Int) (R : Wire.Rd), i ≤ 3 ∧ x = .int .i64 i ∧ Hid (Tri.St R0.b (8 * i) D R1.pos R) ∧ ReaderAt wr g R ∧ Blk wr g4 51 (recC (m / 2) true (rowsR D i)).toArray ∧ Blk wr g5 70 (lastD D i 0).toArray ∧ Blk wr w.heap.size 51 (recC 0 false fun _ => 0).toArray ∧ Only [g] w wr) (fun x _ => 3 - (intOf x).toNat)
  case atStart => exact ⟨0, _, R1, by omega, rfl, HS, hr2', b4', b5, b3', oo'⟩
  case round =>
    obtain ⟨i, D, R, hi, rfl, hS, hr, hb4, hb5, hb3, ho⟩ := hrel
    by_cases h3 : i = 3
    · subst h3
      have hrec : recC (m / 2) true (rowsR D 3) = recC (m / 2) true (Tri.recOf D) := recC_congr fun p hp => by
        unfold rowsR
        rw [if_pos (Tri.pinv_lt p hp)]
      rw [hrec] at hb4
      have hdn : (m / 2) = (((m / 2).toNat : Nat) : Int) := by omega
      have HN := Lib.hid hdn
      have hchk : chkRec (m / 2) true (Tri.recOf D) = chk (Tri.recOf D) := by
        unfold chkRec
        rw [if_neg (by simp; omega), if_pos rfl]
      have hck := fun w => recCheck_any (m / 2) true (Tri.recOf D) w
      rw [hchk] at hck
      have hBR := hS.out.eb
      have hLR := hS.out.le
      have HB2 := Lib.hid hBR
      have HL2 := Lib.hid (Nat.le_trans HL.out hLR)
      clear hrec hdn hchk hBR hLR
      by_cases he : R.err = 0
      · have hdec := hS.out.ok he
        rw [HP.out] at hdec
        have HD := Lib.hid hdec
        have hre := fun w (h : ReaderAt w g R) => rErr_any w h
        rw [he] at hre
        have HE := Lib.hid he
        clear hdec he
        by_cases hk : chk (Tri.recOf D) = 0
        · have HT := Lib.hid (TakeR.tri HC.out HM.out HD.out hk)
          rw [hk] at hck
          clear hk
          go_wp2_with (first
            | (go_at_call 15; refine (hre _ hr).mono ?_; rintro e wu ⟨rfl, rfl⟩)
            | refine wl_loadw recTy hb4 rfl (recC_len ..) ?_
            | (go_at_call 9; refine (hck _).mono ?_; rintro e w3 ⟨rfl, o3⟩; have hr3 := hr.same o3; have b5 := hb4.only o3 (by simp); have b6 := hb3.only o3 (by simp))
            | (go_at_call 15; refine (hre _ hr3).mono ?_; rintro e wu ⟨rfl, rfl⟩)
            | refine wl_loadw recTy b5 rfl (recC_len ..) ?_
            | (refine wl_storew (vs := recC (m / 2) true (Tri.recOf D)) recTy b6 rfl rfl (recC_len ..) (recC_len ..) (recC_one _ _ _) ?_; intro w4 b7 o4))
          refine bodyPost_ret (results_agg recTy rfl _ rfl b7 (recC_len ..)) rfl ?_
          exact ⟨0, (m / 2).toNat, true, Tri.recOf D, _, R, by rw [← HN.out], HT.out, HE.out, HB2.out, HL2.out, fun _ => rfl, hr3.far b6 (by decide) o4, (ho.trans_new o3).next o4 (by simp)⟩
        · have HT := Lib.hid (TakeR.chk HC.out HM.out HD.out hk)
          have HK := Lib.hid hk
          generalize hkc : chk (Tri.recOf D) = kc at *
          have d2 : (kc == 0) = false := by simpa using hk
          have d3 : (kc != 0) = true := by simpa using hk
          have hf : R.fail kc = { R with err := kc } := by simp [Wire.Rd.fail, HE.out]
          have HF := Lib.hid hf
          clear hk hkc hf
          go_wp2_with (first
            | (go_at_call 15; refine (hre _ hr).mono ?_; rintro e wu ⟨rfl, rfl⟩)
            | refine wl_loadw recTy hb4 rfl (recC_len ..) ?_
            | (go_at_call 9; refine (hck _).mono ?_; rintro e w3 ⟨rfl, o3⟩; have hr3 := hr.same o3; have b5 := hb4.only o3 (by simp); have b6 := hb3.only o3 (by simp); have nw3 : w.heap.size ∉ [g] := hr3.off b6 (by decide))
            | (go_at_call 26; refine (rFail_any kc _ hr3).mono ?_; rw [HF.out]; rintro e w5 ⟨rfl, hr5, o5⟩; have b8 := b6.only o5 nw3)
            | (go_at_call 15; refine (rErr_any _ hr5).mono ?_; rintro e wu ⟨rfl, rfl⟩)
            | (refine wl_storew (vs := recC 0 false fun _ => 0) recTy b8 rfl rfl (recC_len ..) (recC_len ..) (recC_one _ _ _) ?_; intro w4 b7 o4))
          refine bodyPost_ret (results_agg recTy rfl _ rfl b7 (recC_len ..)) rfl ?_
          exact ⟨kc, 0, false, fun _ => 0, [], { R with err := kc }, rfl, HT.out, rfl, HB2.out, HL2.out, fun e => absurd e HK.out, hr5.far b8 (by decide) o4, ((ho.trans_new o3).trans o5).next o4 (by simp)⟩
      · obtain ⟨q', r', hq', hdec, hnum⟩ := hS.out.bad he
        rw [HP.out] at hdec
        have HT := Lib.hid (TakeR.num HC.out HM.out hdec hq' hnum he)
        have HE := Lib.hid he
        have d2 : (R.err == 0) = false := by simpa using he
        have d3 : (R.err != 0) = true := by simpa using he
        clear hdec hnum he hq'
        go_wp2_with (first
          | (go_at_call 15; refine (rErr_any _ hr).mono ?_; rintro e wu ⟨rfl, rfl⟩)
          | (refine wl_storew (vs := recC 0 false fun _ => 0) recTy hb3 rfl rfl (recC_len ..) (recC_len ..) (recC_one _ _ _) ?_; intro w4 b7 o4))
        refine bodyPost_ret (results_agg recTy rfl _ rfl b7 (recC_len ..)) rfl ?_
        exact ⟨R.err, 0, false, fun _ => 0, [], R, rfl, HT.out, rfl, HB2.out, HL2.out, fun e => absurd e HE.out, hr.far hb3 (by decide) o4, ho.next o4 (by simp)⟩
    · have hi3 : i < 3 := by omega
      go_wp2_with fail
      go_loopw [22] (fun x wi => ∃ (j : Nat) (D : Nat → Int) (R : Wire.Rd), j ≤ 8 ∧ x = .int .i64 j ∧ Hid (Tri.St R0.b (8 * i + j) D R1.pos R) ∧ ReaderAt wi g R ∧ Blk wi g4 51 (recC (m / 2) true (rowsR D i)).toArray ∧ Blk wi g5 70 (lastD D i j).toArray ∧ Blk wi w.heap.size 51 (recC 0 false fun _ => 0).toArray ∧ Only [g] w wi) (fun x _ => 8 - (intOf x).toNat)
      case atStart => exact ⟨0, D, R, by omega, rfl, hS, hr, hb4, hb5, hb3, ho⟩
      case round =>
        clear hS hr hb4 hb5 hb3 ho
        obtain ⟨j, D, R, hj, rfl, hS, hr, hb4, hb5, hb3, ho⟩ := hrel
        by_cases h8 : j = 8
        · subst h8
          have l0 : wr.cell? ⟨g5, 0, none⟩ = some (.int .i64 (Tri.acc D (8 * i))) := by rw [hb5.cell, List.getElem?_toArray]; exact tab_get (n := 8) _ (k := 0) (by omega)
          have l1 : wr.cell? ⟨g5, 1, none⟩ = some (.int .i64 (Tri.acc D (8 * i + 1))) := by rw [hb5.cell, List.getElem?_toArray]; exact tab_get (n := 8) _ (k := 1) (by omega)
          have l2 : wr.cell? ⟨g5, 2, none⟩ = some (.int .i64 (Tri.acc D (8 * i + 2))) := by rw [hb5.cell, List.getElem?_toArray]; exact tab_get (n := 8) _ (k := 2) (by omega)
          have l3 : wr.cell? ⟨g5, 3, none⟩ = some (.int .i64 (Tri.acc D (8 * i + 3))) := by rw [hb5.cell, List.getElem?_toArray]; exact tab_get (n := 8) _ (k := 3) (by omega)
          have rc : ∀ k, k < 26 → ∃ v, wr.cell? ⟨g4, k, none⟩ = some v := fun k hk => by
            rw [hb4.cell, List.getElem?_toArray, recC_tab, tab_get _ hk]
            exact ⟨_, rfl⟩
          obtain ⟨v0, r0⟩ := rc (2 + i * 2) (by omega)
          obtain ⟨v1, r1⟩ := rc (2 + i * 2 + 1) (by omega)
          obtain ⟨v2, r2⟩ := rc (8 + i) (by omega)
          obtain ⟨v3, r3⟩ := rc (11 + i) (by omega)
          have fz := hb4.frozen
          clear rc
          have hn45 : g5 ≠ g4 := Blk.ne_ hb5 hb4 (by decide)
          have hnw4 : w.heap.size ≠ g4 := by omega
          go_wp2_with fail
          clear l0 l1 l2 l3 r0 r1 r2 r3 fz
          obtain ⟨w6, hw6⟩ : ∃ w6, w6 = (((wr.setCell ⟨g4, 2 + i * 2, none⟩ (.int .i64 (Tri.acc D (8 * i)))).setCell ⟨g4, 2 + i * 2 + 1, none⟩ (.int .i64 (Tri.acc D (8 * i + 1)))).setCell ⟨g4, 8 + i, none⟩ (.int .i64 (Tri.acc D (8 * i + 2)))).setCell ⟨g4, 11 + i, none⟩ (.int .i64 (Tri.acc D (8 * i + 3))) := ⟨_, rfl⟩
          have q4 := (((hb4.set_ (2 + i * 2) (.int .i64 (Tri.acc D (8 * i)))).set_ (2 + i * 2 + 1) (.int .i64 (Tri.acc D (8 * i + 1)))).set_ (8 + i) (.int .i64 (Tri.acc D (8 * i + 2)))).set_ (11 + i) (.int .i64 (Tri.acc D (8 * i + 3)))
          simp only [List.setIfInBounds_toArray] at q4
          have oS : Only [g4] wr w6 := by rw [hw6]; exact ((((Only.refl [g4] wr).setCell (.inl (by simp)) _).setCell (.inl (by simp)) _).setCell (.inl (by simp)) _).setCell (.inl (by simp)) _
          rw [← hw6] at q4 ⊢
          clear hw6
          have q5 := hb5.only oS (by simpa using hn45)
          have qw := hb3.only oS (by simpa using hnw4)
          have qr := hr.far hb4 (by decide) oS
          have qo := ho.next oS (by simp; right; omega)
          clear hb4 hb5 hb3 hr ho oS
          refine wp_region_below 6 (by kernel_rfl) (by kernel_rfl) ?_
          simp only [List.take_succ_cons, List.take_zero, List.drop_succ_cons, List.drop_zero]
          repeat (first | go_big_quiet_step (fail) | quiet_step (fail))
          refine wpQuiet_nil ?_
          rintro _ ⟨⟨dr, os⟩, rfl⟩
          have p4 := q4.only (only_of_regrown dr os) (by simp)
          have p5 := q5.only (only_of_regrown dr os) (by simp)
          have pw := qw.only (only_of_regrown dr os) (by simp)
          have pr := qr.same (only_of_regrown dr os)
          have po := qo.trans_new (only_of_regrown dr os)
          generalize Sort.grow (redrawn w6 dr) os = w7 at *
          clear q4 q5 qw qr qo
          refine wl_copy (n := 4) (off := 14 + i * 4) (vs := tab 4 fun k => .int .i64 (Tri.acc D (8 * i + (4 + k)))) Try.underlying79 (by kernel_rfl) p4 p5 rfl rfl ?_ (tab_length ..) ?_ (tab_one fun _ _ => rfl) ?_
          · unfold lastD
            rw [tab_part _ (by omega)]
            exact tab_congr fun k hk => by rw [if_pos (by omega)]
          · simp [recC_len]; omega
          intro w8 b8 o8
          rw [rows_next (m / 2) D i hi3] at b8
          rw [lastD_row] at p5
          have s5 := p5.only o8 (by simpa using hn45)
          have sw := pw.only o8 (by simpa using hnw4)
          have sr := pr.far p4 (by decide) o8
          have so := po.next o8 (by simp; right; omega)
          go_wp2
          go_roundw
          case rel => exact ⟨i + 1, D, R, by omega, by go_num, hS, sr, b8, s5, sw, so⟩
          case measure => simp [intOf]; omega
        · have hj8 : j < 8 := by omega
          go_wp2_with fail
          have hla : wr.cell? ⟨g5, j, none⟩ = some (.int .i64 (if i = 0 then 0 else Tri.acc D (8 * (i - 1) + j))) := by
            rw [hb5.cell, List.getElem?_toArray]
            unfold lastD
            rw [tab_get _ hj8, if_neg (by omega)]
          have hlb : -3145728 ≤ (if i = 0 then 0 else Tri.acc D (8 * (i - 1) + j)) ∧ (if i = 0 then 0 else Tri.acc D (8 * (i - 1) + j)) ≤ 3145728 := by
            split
            · omega
            · exact Tri.acc_small hS.out.small _
          have HNX := Lib.hid (fun n => lastD_next D i j n hi3 hj8)
          generalize hlq : (if i = 0 then 0 else Tri.acc D (8 * (i - 1) + j)) = la at *
          clear hlq
          have hinv : AddInv R g g4 g5 w.heap.size wr (recC (m / 2) true (rowsR D i)) (lastD D i j) (recC 0 false fun _ => 0) false wr.drew :=
            ⟨⟨R, rfl, hr.same (Only.refl [] wr).drew⟩, hb4.drew, hb5.drew, hb3.drew, (Only.refl [g] wr).drew⟩
          have hne4 : g5 ∉ [g] := hr.off hb5 (by decide)
          have hn4 : g4 ∉ [g] := hr.off hb4 (by decide)
          have hnw : w.heap.size ∉ [g] := hr.off hb3 (by decide)
          refine wp_region_one 7 4 (by kernel_rfl) (AddInv R g g4 g5 w.heap.size wr (recC (m / 2) true (rowsR D i)) (lastD D i j) (recC 0 false fun _ => 0)) (AddVal R la g g5 j) hinv (by kernel_rfl) (by omega) (by kernel_rfl) ?_ ?_ ?_
          · intro k hk t ht
            exact dst_small (n := 7) (m := 82) (by kernel_rfl) hk ht
          · intro k hk o ho' a w4 b hb hbw _ hv hout hI
            match k, hk with
            | 0, _ =>
              simp at ho'; subst ho'
              have e7 : a.tmps[7]?.getD undef = .int .i64 j := hout 7 (by kernel_rfl)
              exact wp_value (v := .int .i64 j) (w' := w4) (by simp [execOp, Act.eval, e7]) ⟨_, rfl, rfl, by simpa using hI⟩
            | 1, _ =>
              simp at ho'; subst ho'
              have e25 : a.tmps[25]?.getD undef = .int .i64 j := hv 0 (by kernel_rfl) 25 (by kernel_rfl)
              have e5 : a.tmps[5]?.getD undef = .pointer (some ⟨g5, 0, none⟩) := hout 5 (by kernel_rfl)
              exact wp_value (v := .pointer (some ⟨g5, j, none⟩)) (w' := w4) (by simp [execOp, Act.eval, e25, e5]; go_simp) ⟨_, rfl, rfl, by simpa using hI⟩
            | 2, _ =>
              simp at ho'; subst ho'
              have e26 : a.tmps[26]?.getD undef = .pointer (some ⟨g5, j, none⟩) := hv 1 (by kernel_rfl) 26 (by kernel_rfl)
              have hc : w4.cell? ⟨g5, j, none⟩ = some (.int .i64 la) := by rw [hI.2.2.1.cell, ← hb5.cell, hla]
              exact wp_value (v := .int .i64 la) (w' := w4) (by simp [execOp, Act.eval, e26]; go_simp) ⟨_, rfl, rfl, by simpa using hI⟩
            | 3, _ =>
              simp at ho'; subst ho'
              have e0 : a.tmps[0]?.getD undef = .pointer (some ⟨g, 0, none⟩) := hout 0 (by kernel_rfl)
              exact wp_value (v := .pointer (some ⟨g, 0, none⟩)) (w' := w4) (by simp [execOp, Act.eval, e0]) ⟨_, rfl, rfl, by simpa using hI⟩
            | 4, _ =>
              simp at ho'; subst ho'
              have e28 : a.tmps[28]?.getD undef = .pointer (some ⟨g, 0, none⟩) := hv 3 (by kernel_rfl) 28 (by kernel_rfl)
              have hbf := hb rfl
              subst hbf
              obtain ⟨⟨R', hR', hrd⟩, k4, k5, kw, ko⟩ := hI
              have hRR : R' = R := hR'
              subst hRR
              refine wp_enter (f := 25) (args := #[.pointer (some ⟨g, 0, none⟩), .int .i64 (-1048576), .int .i64 1048576]) (w' := w4) (by simp [execOp]; go_simp) ?_
              refine (rWithin_any (-1048576) 1048576 w4 hrd).mono ?_
              rintro e w5 ⟨n, R2, rfl, hDn, hr5, ho5⟩
              exact ⟨_, rfl, _, rfl, ⟨n, R2, rfl, hDn⟩, ⟨R2, ⟨n, hDn⟩, hr5⟩, k4.only ho5 hn4, k5.only ho5 hne4, kw.only ho5 hnw, ko.trans ho5⟩
            | 5, _ =>
              simp at ho'; subst ho'
              have e27 : a.tmps[27]?.getD undef = .int .i64 la := hv 2 (by kernel_rfl) 27 (by kernel_rfl)
              obtain ⟨n, R2, e29, hDn⟩ := hv 4 (by kernel_rfl) 29 (by kernel_rfl)
              have hnb := Tri.does_in hDn (by omega)
              exact wp_value (v := .int .i64 (la + n)) (w' := w4) (by simp [execOp, Act.eval, e27, e29]; go_simp; exact IntWalk.i64_in _ (by omega)) ⟨_, rfl, ⟨n, R2, rfl, hDn⟩, by simpa using hI⟩
            | 6, _ =>
              simp at ho'; subst ho'
              have e25 : a.tmps[25]?.getD undef = .int .i64 j := hv 0 (by kernel_rfl) 25 (by kernel_rfl)
              have e5 : a.tmps[5]?.getD undef = .pointer (some ⟨g5, 0, none⟩) := hout 5 (by kernel_rfl)
              exact wp_value (v := .pointer (some ⟨g5, j, none⟩)) (w' := w4) (by simp [execOp, Act.eval, e25, e5]; go_simp) ⟨_, rfl, rfl, by simpa using hI⟩
          · intro vs w5 hv hI
            obtain ⟨⟨R2, ⟨n, hDn⟩, hr5⟩, k4, k5, kw, ko⟩ := hI
            obtain ⟨n', R2', v5, hDn'⟩ := hv 5 (by omega)
            have hnn := Tri.does_det hDn' hDn
            subst hnn
            have v6 : vs 6 = .pointer (some ⟨g5, j, none⟩) := hv 6 (by omega)
            simp only [putAll, List.range, List.range.loop, List.foldl_cons, List.foldl_nil, dstOf, Act.put, List.getElem?_toArray, List.getElem?_cons_succ, List.getElem?_cons_zero, Option.bind_some, List.setIfInBounds_toArray, List.set_cons_succ, List.set_cons_zero, List.drop_succ_cons, List.drop_zero, v5, v6]
            clear v5 v6 hv
            have hc5 : w5.cell? ⟨g5, j, none⟩ = some (.int .i64 la) := by rw [k5.cell, ← hb5.cell, hla]
            have hf5 : w5.frozen? ⟨g5, j, none⟩ = false := k5.frozen j
            have q5 : Blk (w5.setCell ⟨g5, j, none⟩ (.int .i64 (la + n'))) g5 70 (lastD (Tri.upd D (8 * i + j) n') i (j + 1)).toArray := by
              have := k5.set_ j (.int .i64 (la + n'))
              rwa [List.setIfInBounds_toArray, HNX.out n'] at this
            have hn45 : g4 ≠ g5 := Blk.ne_ k4 k5 (by decide)
            have hnw5 : w.heap.size ≠ g5 := Blk.ne_ kw k5 (by decide)
            have q4 : Blk (w5.setCell ⟨g5, j, none⟩ (.int .i64 (la + n'))) g4 51 (recC (m / 2) true (rowsR (Tri.upd D (8 * i + j) n') i)).toArray := by
              rw [recC_congr (R' := rowsR D i) fun p _ => rowsR_upd D i (8 * i + j) n' (by omega) p]
              exact k4.far hn45 _
            have qw := kw.far (p := ⟨g5, j, none⟩) hnw5 (.int .i64 (la + n'))
            have oS : Only [g5] w5 (w5.setCell ⟨g5, j, none⟩ (.int .i64 (la + n'))) := (Only.refl [g5] w5).setCell (.inl (by simp)) _
            have qr := hr5.far k5 (by decide) oS
            have qo : Only [g] w (w5.setCell ⟨g5, j, none⟩ (.int .i64 (la + n'))) := (ho.trans ko).next oS (by simp; right; omega)
            have hS' := Lib.hid (hS.out.next hDn)
            go_wp2_with fail
            exact ⟨⟨j + 1, _, R2, by omega, by simp, hS', qr, q4, q5, qw, qo⟩, by simp [intOf]; omega⟩

theorem take_any {g : Nat} {R0 : Wire.Rd} (w : World) (h : ReaderAt w g R0) (h0 : R0.err = 0) :
    Calls Try.prog 13 #[.pointer (some ⟨g, 0, none⟩)] w fun x w' => ∃ (e : Int) (d : Nat) (s : Bool) (R : Nat → Int) (rest : List UInt8) (R1 : Wire.Rd), x = .returned (.agg (recC d s R).toArray) ∧ TakeR (R0.b.drop R0.pos) e d s R rest ∧
      R1.err = e ∧ R1.b = R0.b ∧ R0.pos ≤ R1.pos ∧ (e = 0 → R0.b.drop R1.pos = rest) ∧ ReaderAt w' g R1 ∧ Only [g] w w' := by
  cases hf : Wire.countF 63 (R0.b.drop R0.pos) with
  | ok x =>
    obtain ⟨m, r⟩ := x
    have hm := countF_in hf
    rcases (by omega : m % 2 = 0 ∨ m % 2 = 1) with h2 | h2
    · exact takeA_any w h h0 fun m' r' he => by
        rw [hf] at he
        injection he with he
        injection he with he
        rw [← he]; exact h2
    · exact takeB_any w h h0 hf h2
  | error e => exact takeA_any w h h0 fun m' r' he => by rw [hf] at he; cases he
end Go.Proofs.Ytjeeeiekabjcfaa
