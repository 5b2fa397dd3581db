/-
  TriCut: the walk.
-/
import Derived.Test.YtjeeeiekabjcfaaTriLaw
import Derived.Test.YtjeeeiekabjcfaaTakeB
import Derived.Test.YtjeeeiekabjcfaaBytes
import Derived.Test.YtjeeeiekabjcfaaAwake14
namespace Go.Proofs.Ytjeeeiekabjcfaa
open Go.RowKit Go.Azu

theorem boolCell : (∀ w, (isAgg 4).run Try.prog w = .ok false w) ∧ (∀ w, (sizeOf 4).run Try.prog w = .ok 1 w) := ⟨fun _ => by kernel_rfl, fun _ => by kernel_rfl⟩
theorem part_rec0 (d : Int) (s : Bool) (R : Nat → Int) (w : World) : (part 3 (recC d s R).toArray 0).run Try.prog w = .ok (.int .i64 d) w := by
  simp [part, Sem.run_bind, intCell.1, recC]
theorem part_rec1 (d : Int) (s : Bool) (R : Nat → Int) (w : World) : (part 4 (recC d s R).toArray 1).run Try.prog w = .ok (.bool s) w := by
  simp [part, Sem.run_bind, boolCell.1, recC]
theorem part_rec2 (d : Int) (s : Bool) (R : Nat → Int) (w : World) : (part 49 (recC d s R).toArray 2).run Try.prog w = .ok (.agg (triV R).toArray) w := by
  have h := recC_tri d s R
  simp [part, Sem.run_bind, triTy.agg, triTy.size, h]
theorem recEq (d d' : Int) (s s' : Bool) (R R' : Nat → Int) (w : World) : (Op.equalIn 10000 51 (.agg (recC d s R).toArray) (.agg (recC d' s' R').toArray)).run Try.prog w = .ok (d == d' && s == s' && num24 R == num24 R') w := by
  have hf : ((Try.prog.fieldsOf 51).toList.map fun f => (f.name != "_", f.type, f.offset)) = [(true, 3, 0), (true, 4, 1), (true, 49, 2)] := by kernel_rfl
  rw [show (10000 : Nat) = 9999 + 1 from rfl, run_equalIn_struct w 9999 51 _ _ (by kernel_rfl) (by kernel_rfl)]
  match hl : (Try.prog.fieldsOf 51).toList with
  | [f0, f1, f2] =>
    rw [hl] at hf
    simp only [List.map_cons, List.map_nil, List.cons.injEq, Prod.mk.injEq, bne_iff_ne, ne_eq, and_true] at hf
    obtain ⟨⟨n0, t0, o0⟩, ⟨n1, t1, o1⟩, n2, t2, o2⟩ := hf
    have e0 := fun w => run_equalIn_int (P := Try.prog) w 9998 3 .i64 .i64 d d' Try.underlying3
    have e1 := fun w => run_equalIn_bool' (P := Try.prog) w 9998 4 s s' Try.underlying4
    have e2 : ∀ w, (Op.equalIn 9999 49 (.agg (triV R).toArray) (.agg (triV R').toArray)).run Try.prog w = .ok (num24 R == num24 R') w := fun w => by
      rw [triV_ints, triV_ints]
      exact eqTri 9995 _ _ w (num24_len _) (num24_len _)
    generalize (d == d') = x at *
    generalize (s == s') = y at *
    generalize (num24 R == num24 R') = z at *
    cases x <;> cases y <;> cases z <;> simp [Op.eqFields, n0, n1, n2, t0, t1, t2, o0, o1, o2, Sem.run_bind, part_rec0, part_rec1, part_rec2, e0, e1, e2]
  | [] => rw [hl] at hf; simp at hf
  | [_] => rw [hl] at hf; simp at hf
  | [_, _] => rw [hl] at hf; simp at hf
  | _ :: _ :: _ :: _ :: _ => rw [hl] at hf; simp at hf

theorem Mine.reader {w w' : World} {B g : Nat} {v : Value} {l : List UInt8} {R : Wire.Rd} (h : Mine w B v l) (hr : ReaderAt w g R) (ho : Only [g] w w') : Mine w' B v l := by
  obtain ⟨A, c, h1, h2, h3⟩ := hr.at_
  exact h.only ho fun k hk hm => by
    simp at hm
    subst hm
    exact ownsRow_ne_blk h h1 (by decide) hk
theorem Mine.far {w w' : World} {B gb : Nat} {v : Value} {l : List UInt8} {t : TypeId} {cs : Array Value} (h : Mine w B v l) (hb : Blk w gb t cs) (ht : t ≠ 5) (ho : Only [gb] w w') : Mine w' B v l :=
  h.only ho fun k hk hm => by
    simp at hm
    subst hm
    exact ownsRow_ne_blk h hb (Ne.symm ht) hk
theorem Blk.reader {w w' : World} {gb g : Nat} {t : TypeId} {cs : Array Value} {R : Wire.Rd} (hb : Blk w gb t cs) (hr : ReaderAt w g R) (ht : t ≠ 76) (ho : Only [g] w w') : Blk w' gb t cs := hb.only ho (hr.off hb ht)
theorem ReaderAt.reader {w w' : World} {g g' : Nat} {R R' : Wire.Rd} (h : ReaderAt w g R) (hr : ReaderAt w g' R') (hne : g ≠ g') (ho : Only [g'] w w') : ReaderAt w' g R := by
  obtain ⟨A, c, h1, h2, h3⟩ := hr.at_
  exact h.only ho (by simpa using hne) fun h4 k hk hm => by
    simp at hm
    subst hm
    exact ownsRow_ne_blk h4 h1 (by decide) hk

set_option maxRecDepth 100000 in
set_option maxHeartbeats 8000000 in
theorem triCut_any (S : Nat → Int) (hS : SmallIn S) (dr at_ : Int) (hdr : 0 ≤ dr ∧ dr ≤ 255) (hat : 0 ≤ at_ ∧ at_ ≤ 255) (A : Option Addr) (n c : Nat) (more : List UInt8) (w : World) (hm : Byts w w.heap.size A n more) (hn : n ≤ 9223372036854775807) :
    Calls Try.prog 5 #[.agg (smallV S).toArray, .int .u8 dr, .int .u8 at_, .slice A n c] w fun x w' => x = .returned (.bool true) ∧ Only [] w w' := by
  have hlm := hm.len
  go_enter Try.func5, Try.ntmps5
  have HLM := Lib.hid hlm
  clear hlm
  go_wp2_with fail
  refine (awake14_any _).mono ?_
  rintro e w1 ⟨rfl, ho1⟩
  have b4 : Blk w1 w.heap.size 39 (smallV S).toArray := (Blk.new w _ _).only ho1 (by simp)
  have o1 : Only [] w w1 := ((Only.refl [] w).alloc _).trans ho1
  clear ho1
  by_cases h50 : 50 < n
  · go_wp2_with fail
    go_ret
    exact ⟨rfl, o1⟩
  · have hn50 : n ≤ 50 := by omega
    go_wp2_with (refine wl_loadw smallTy25 b4 rfl (tab_length ..) ?_)
    refine (record_any S hS dr hdr true w1).mono ?_
    rintro e w2 ⟨s, R, rfl, hMade, ho2⟩
    obtain ⟨d, hd⟩ : ∃ d : Nat, (d : Int) = dr % 32 := ⟨(dr % 32).toNat, by omega⟩
    rw [← hd] at hMade ⊢
    have hd32 : d < 32 := by omega
    have o2 := o1.trans ho2
    have HB := fun w => bytes_any d s R w hd32 (fun hs => nice_ord (hMade.nice hs))
    clear hd b4 o1 ho2
    go_wp2_with (first
      | (refine wl_storew (vs := recC d s R) recTy (Blk.new ..) rfl rfl (recC_len ..) rfl (recC_one _ _ _) ?_; intro w3 b9 o3)
      | refine wl_loadw recTy b9 rfl (recC_len ..) ?_)
    have o3' := (o2.alloc _).next o3 (by have := o2.size; simp; omega)
    refine (HB w3).mono ?_
    rintro e w4 ⟨v, rfl, hM, ho4⟩
    obtain ⟨Ab, cb, rfl, hcb, hAb⟩ := hM.slice
    have o4 := o3'.trans ho4
    have b94 := b9.only ho4 (by simp)
    have hLpos : 0 < (Tri.bytes d s R).length := by unfold Tri.bytes; rw [List.length_append]; have := Tri.enc_pos (Tri.head d s); omega
    have hLmax : (Tri.bytes d s R).length ≤ 200 := by
      unfold Tri.bytes
      have h1 := Tri.enc_len 0 (Tri.head d s) (by have := head_lt s hd32; omega)
      rw [List.length_append]
      split
      · rename_i hs
        have := Tri.encs_len R (fun q hq => by have := nice_fits (hMade.nice hs) q hq; omega) 24 (by omega)
        omega
      · simp; omega
    have hkk : at_ % ((Tri.bytes d s R).length : Int) = ((at_.toNat % (Tri.bytes d s R).length : Nat) : Int) := by
      rw [Int.natCast_emod]; congr 1; omega
    have hklt : at_.toNat % (Tri.bytes d s R).length < (Tri.bytes d s R).length := Nat.mod_lt _ hLpos
    have HCut := fun {e d' s' R' rest} => take_cut (e := e) (d' := d') (s' := s') (R' := R') (rest := rest) hd32 (fun hs => nice_fits (hMade.nice hs)) hklt
    have HFull := fun {e d' s' R' rest} => take_bytes (more := more) (e := e) (d' := d') (s' := s') (R' := R') (rest := rest) hd32 (fun hs => ⟨nice_fits (hMade.nice hs), (chkRec_ok hMade.ok).2.2 hs⟩) hMade.none
    have hrd := hM.reads
    clear HB ho4 o3' b9 hMade
    generalize hkq : at_.toNat % (Tri.bytes d s R).length = k at *
    generalize hbq : Tri.bytes d s R = bs at *
    have hL : bs.length ≤ 200 := hLmax
    obtain ⟨gb, rfl⟩ : ∃ gb, Ab = some ⟨gb, 0, none⟩ := by
      cases Ab with
      | none =>
        rcases hM.2 with ⟨e1, h2⟩ | ⟨g, cap, cur, e1, _⟩
        · omega
        · cases e1
      | some a => obtain ⟨k', e, _⟩ := hAb a rfl; exact ⟨k', by rw [e]⟩
    have hcutR := hrd.head (k := k) (by omega)
    have o4sz := o4.size
    clear hAb hLmax
    have HKK := Lib.hid hkk
    have HLQ := Lib.hid hLpos
    go_wp2_with fail
    refine (read_any w4 hcutR (Nat.le_refl _) (by omega)).mono ?_
    rintro e w5 ⟨g1, rfl, hr1, hg1, ho5⟩
    have b95 := b94.only ho5 (by simp)
    have hM5 := hM.same ho5
    have o5 := o4.trans ho5
    clear hM hrd hcutR ho5 b94 o4
    go_wp2_with fail
    refine (take_any w5 hr1 rfl).mono ?_
    rintro e w6 ⟨er, d', s', R', rest, R1, rfl, hT, her, hb, hle, -, hr6, ho6⟩
    obtain ⟨rfl, rfl, rfl, rfl⟩ := HCut hT
    have b96 := Blk.reader b95 hr1 (by decide) ho6
    have hM6 := hM5.reader hr1 ho6
    have o6 := o5.next ho6 (by simp; have := o4sz; omega)
    clear HCut hT hb hle b95 hM5 o5 ho6 hr1
    have hmxL : bs.length ≤ maxLen := by simp only [maxLen]; omega
    have hbyL : bs.length * 1 ≤ 140737488355328 := by omega
    have hmx2 : bs.length + n ≤ maxLen := by simp only [maxLen]; omega
    have hby2 : (bs.length + n) * 1 ≤ 140737488355328 := by omega
    have hsz26 := b96.lt
    go_wp2_with (first
      | (refine wl_storew (vs := recC 0 false fun _ => 0) recTy (Blk.new ..) rfl rfl (recC_len ..) rfl (recC_one _ _ _) ?_; intro w7 b12 o7; have hM7 := (hM6.same ((Only.refl [] w6).alloc _)).far (Blk.new ..) (by decide) o7; have o7' := (o6.alloc _).next o7 (by simp; exact o6.size))
      | (at_builtin; refine wpList_clone bytesTy (.tmp 35) (.tmp 36) rfl rfl (Blk.new w7 _ #[]) rfl (Reads.alloc hM7.reads (Nat.le_refl _) _) rfl (bytesV_one _) hmxL hbyL ?_; intro ga cap w8 hcap hat8 hown ho8; have o8 := (o7'.alloc _).trans ho8)
      | (at_builtin; refine wpList_append_st bytesTy (.tmp 37) (.tmp 38) rfl rfl hown rfl (Reads.only_ hm o8) rfl (bytesV_one _) hmx2 hby2 (by have := ho8.size; simp at this; omega) ?_; intro v' w9 hown9 hgrow hat9))
    have hM9 : Mine w9 w7.heap.size v' (bs ++ more) := Mine.app hown9 rfl HLM.out.symm
    have hga : w7.heap.size ≤ ga := by
      rcases hat8 with e | e
      · omega
      · simp at e; omega
    have o79 : Only [] w7 w9 := (((Only.refl [] w7).alloc _).trans ho8).grow hgrow (fun q hq => by
      simp [Value.ownBlock] at hq
      exact .inr (by omega))
    have o9 := o7'.trans o79
    have b97 := (b96.alloc _).only o7 (by simp; omega)
    have hr7 := (hr6.same ((Only.refl [] w6).alloc _)).far (Blk.new ..) (by decide) o7
    have b99 := b97.only o79 (by simp)
    have b129 := b12.only o79 (by simp)
    have hr9 := hr7.same o79
    clear hgrow hown9 hown ho8 hat8 hat9 hM7 hM6 o7 o7' b12 b96 b97 hr6 hr7 o79 o8 o6
    obtain ⟨A9, c9, rfl, hc9, -⟩ := hM9.slice
    have hl9 : (bs ++ more).length = bs.length + n := by rw [List.length_append, HLM.out]
    refine (read_any w9 hM9.reads (Nat.le_refl _) (by omega)).mono ?_
    rintro e w10 ⟨g2, rfl, hrq, hg2, ho10⟩
    have hne12 : g1 ≠ g2 := by have := hr9.lt; omega
    have b910 := b99.only ho10 (by simp)
    have b1210 := b129.only ho10 (by simp)
    have hr10 := hr9.same ho10
    have o10 := o9.trans ho10
    have hszg2 : w.heap.size ≤ g2 := by have := o9.size; omega
    clear b99 b129 hr9 hM9 o9 ho10 hg2
    go_wp2_with fail
    refine (take_any w10 hrq rfl).mono ?_
    rintro e w11 ⟨er, d', s', R', rest, R2, rfl, hT, he2, hb2, hle2, hpos, hrq2, ho11⟩
    obtain ⟨rfl, rfl, rfl, hRR, rfl⟩ := HFull hT
    have hpos' : R2.pos = bs.length := by
      have h1 := hpos rfl
      have h2 := hrq2.small.1
      rw [hb2] at h2
      have h3 := congrArg List.length h1
      rw [List.length_drop] at h3
      change (bs ++ rest).length - R2.pos = rest.length at h3
      change R2.pos ≤ (bs ++ rest).length at h2
      rw [List.length_append] at h2 h3
      omega
    rw [recC_congr hRR]
    have b911 := Blk.reader b910 hrq (by decide) ho11
    have b1211 := Blk.reader b1210 hrq (by decide) ho11
    have hr11 := hr10.reader hrq hne12 ho11
    have o11 := o10.next ho11 (by simp; omega)
    have hA1 := fun (w : World) h => rErr_any (g := g1) (R := R1) w h
    have hA2 := fun (w : World) h => rErr_any (g := g2) (R := R2) w h
    have hA3 := fun (w : World) h => rAt_any (g := g2) (R := R2) w h
    rw [her] at hA1
    rw [he2] at hA2
    rw [hpos'] at hA3
    have hz0 : ∀ w, (Op.equalIn 10000 51 (.agg (recC ((0 : Nat) : Int) false fun _ => 0).toArray) (.agg (recC 0 false fun _ => 0).toArray)).run Try.prog w = .ok true w := fun w => by rw [recEq]; simp
    have hz1 : ∀ w, (Op.equalIn 10000 51 (.agg (recC d' s' R).toArray) (.agg (recC d' s' R).toArray)).run Try.prog w = .ok true w := fun w => by rw [recEq]; simp
    rw [zeroRec14 0] at hz0
    have hEG : Try.prog.eqGuardType Try.prog.depth 51 = false := by kernel_rfl
    clear HFull hT hb2 hle2 hpos hpos' hRR her he2 b910 b1210 hr10 o10 ho11 hrq
    go_wp2_with (first
      | (refine wl_storew (vs := recC d' s' R) recTy (Blk.new ..) rfl rfl (recC_len ..) rfl (recC_one _ _ _) ?_; intro w12 b14 o12; have hr12 := (hr11.same ((Only.refl [] w11).alloc _)).far (Blk.new ..) (by decide) o12; have hrq12 := (hrq2.same ((Only.refl [] w11).alloc _)).far (Blk.new ..) (by decide) o12; have b912 := (b911.alloc _).only o12 (by have := b911.lt; simp; omega); have b1212 := (b1211.alloc _).only o12 (by have := b1211.lt; simp; omega))
      | (go_at_call 15; first | (refine (hA1 _ hr12).mono ?_; rintro e w13 ⟨rfl, rfl⟩) | (refine (hA2 _ hrq12).mono ?_; rintro e w13 ⟨rfl, rfl⟩))
      | (go_at_call 16; refine (hA3 _ hrq12).mono ?_; rintro e w13 ⟨rfl, rfl⟩)
      | refine wl_eqg hEG hz0 rfl rfl rfl ?_
      | refine wl_eqg hEG hz1 rfl rfl rfl ?_
      | (refine wl_loadg recTy b1212 rfl rfl (recC_len ..) ?_)
      | (refine wl_loadg recTy b14 rfl rfl (recC_len ..) ?_)
      | (refine wl_loadg recTy b912 rfl rfl (recC_len ..) ?_))
    go_ret
    exact ⟨rfl, (o11.alloc _).next o12 (by have := o11.size; simp; omega)⟩
end Go.Proofs.Ytjeeeiekabjcfaa
