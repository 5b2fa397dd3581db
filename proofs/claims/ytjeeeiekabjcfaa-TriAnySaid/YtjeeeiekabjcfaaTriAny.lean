/-
  TriAny: the walk.
-/
import Derived.Test.YtjeeeiekabjcfaaAside
import Derived.Test.YtjeeeiekabjcfaaAwake14
import Derived.Test.YtjeeeiekabjcfaaGood
import Derived.Test.YtjeeeiekabjcfaaGuard
import Derived.Test.YtjeeeiekabjcfaaSet
import Derived.Great.BuildSlice
namespace Go.Proofs.Ytjeeeiekabjcfaa
open Go.RowKit Go.Azu

theorem u8_of (x : Int) (h : 0 ≤ x ∧ x ≤ 255) : ∃ u : UInt8, (u.toNat : Int) = x := ⟨UInt8.ofNat x.toNat, by simp; omega⟩
/-- a struct or an array loaded -/
theorem exec_load {P : Program} {w : World} {g n : Nat} {t ty : TypeId} {xs : List Value} {ρ : Operand → Value} {dst : Option Tmp} {type : TypeId} {pos : String} {after : Array Edge} {gd : Option (Nat × Bool)} {x : Operand} (T : ATy P ty n) (hb : Blk w g t xs.toArray)
    (hx : ρ x = .pointer (some ⟨g, 0, none⟩)) (hn : xs.length = n) : (execOp ρ ⟨dst, .load ty x, type, pos, after, gd⟩).run P w = .ok (.value (.agg xs.toArray)) w := by
  unfold execOp
  simp only [hx, Instr.loadAt, Instr.sureAddr, Sem.run_bind, Sem.run_pure, Result.andThen_ok, run_load_part (off := 0) (vs := xs) T hb (by simp [← hn]) hn]

/-- what holds while the region runs -/
structure AnyInv (w0 : World) (gx gw g1 : Nat) (X : List Value) (R1 : Wire.Rd) (l : List UInt8) (b : Bool) (w : World) : Prop where
  x : Blk w gx 51 X.toArray
  r : ReaderAt w g1 R1
  o : Only [gw] w0 w
  n : b = false → WriterAt w gw (.slice none 0 0) []
  y : b = true → ∃ v, WriterAt w gw v l
theorem AnyInv.same {w0 w w' : World} {gx gw g1 : Nat} {X : List Value} {R1 : Wire.Rd} {l : List UInt8} {b : Bool} (h : AnyInv w0 gx gw g1 X R1 l b w) (ho : Only [] w w') : AnyInv w0 gx gw g1 X R1 l b w' :=
  ⟨h.x.only ho (by simp), h.r.same ho, h.o.trans_new ho, fun e => (h.n e).only ho (by simp) (by simp), fun e => by obtain ⟨v, hv⟩ := h.y e; exact ⟨v, hv.only ho (by simp) (by simp)⟩⟩
def AnyVal (X : List Value) (gw g1 : Nat) (l : List UInt8) (z zk : Value) (k : Nat) : Nat → Value → World → Prop
  | 0, v, _ => v = .agg X.toArray
  | 1, v, _ => v = .int .i64 0
  | 2, v, _ => v = .bool false
  | 3, v, _ => v = .bool false
  | 4, v, _ => v = .agg X.toArray
  | 5, v, _ => v = .pointer (some ⟨gw, 0, none⟩)
  | 6, v, _ => v = .int .i64 0
  | 7, v, _ => v = .bool false
  | 8, v, _ => v = .bool false
  | 9, v, w => v = .bool false ∧ ∃ u, WriterAt w gw u l
  | 10, v, _ => v = .pointer (some ⟨gw, 0, none⟩)
  | 11, v, w => ∃ ga cap, v = .slice (some ⟨ga, 0, none⟩) l.length cap ∧ ga ≠ gw ∧ ga < w.heap.size ∧ Byts w w.heap.size (some ⟨ga, 0, none⟩) l.length l
  | 12, v, _ => v = .string ⟨l.toArray⟩
  | 13, v, _ => v = z
  | 14, v, _ => v = .pointer (some ⟨g1, 0, none⟩)
  | 15, v, _ => v = .int .i64 k
  | 16, v, _ => v = zk
  | 17, v, _ => v = .string ⟨l.toArray⟩
  | _, _, _ => True
theorem anyVal_mono {X : List Value} {gw g1 : Nat} {l : List UInt8} {z zk : Value} {k : Nat} (i j : Nat) (v : Value) (w w' : World) (_ : i < 18) (hj : j < 18) (h9 : j = 9 → i = 6 → False) (h : AnyVal X gw g1 l z zk k j v w) (ho : Only (if i = 6 then [gw] else []) w w') : AnyVal X gw g1 l z zk k j v w' := by
  match j, hj with
  | 11, _ =>
    obtain ⟨ga, cap, e, h1, h2, h3⟩ := h
    refine ⟨ga, cap, e, h1, Nat.lt_of_lt_of_le h2 ho.size, Reads.more ?_ ho.size⟩
    refine Reads.keep_ h3 fun ad had p hp => ?_
    injection had with had
    subst had
    simp only at hp
    refine ho.cell (by omega) ?_
    rw [hp]
    split <;> simp [h1]
  | 9, _ =>
    obtain ⟨e, u, hu⟩ := h
    rw [if_neg (fun e => h9 rfl e)] at ho
    exact ⟨e, u, hu.only ho (by simp) (by simp)⟩
  | 0, _ | 1, _ | 2, _ | 3, _ | 4, _ | 5, _ | 6, _ | 7, _ | 8, _ | 10, _ | 12, _ | 13, _ | 14, _ | 15, _ | 16, _ | 17, _ => exact h
  | j + 18, hj => exact absurd hj (by omega)

set_option maxRecDepth 100000 in
set_option maxHeartbeats 8000000 in
theorem triAny_any (S : Nat → Int) (hS : SmallIn S) (dr at_ by_ : Int) (hdr : 0 ≤ dr ∧ dr ≤ 255) (hat : 0 ≤ at_ ∧ at_ ≤ 255) (A : Option Addr) (n c : Nat) (l : List UInt8) (w : World) (hm : Byts w w.heap.size A n l) (hn : n ≤ 9223372036854775807) (hnc : n ≤ c) :
    Calls Try.prog 4 #[.slice A n c, .agg (smallV S).toArray, .int .u8 dr, .int .u8 at_, .int .u8 by_] w fun x w' => x = .returned (.bool true) ∧ Only [] w w' := by
  have hlm := hm.len
  go_enter Try.func4, Try.ntmps4
  have HLM := Lib.hid hlm
  clear hlm
  go_wp2_with fail
  refine (awake14_any _).mono ?_
  rintro e w1 ⟨rfl, ho1⟩
  have b4 : Blk w1 w.heap.size 39 (smallV S).toArray := (Blk.new w _ _).only ho1 (by simp)
  have o1 : Only [] w w1 := ((Only.refl [] w).alloc _).trans ho1
  clear ho1
  by_cases h50 : 100 < n
  · go_wp2_with fail
    go_ret
    exact ⟨rfl, o1⟩
  · have hn50 : n ≤ 100 := by omega
    go_wp2_with (refine wl_loadw smallTy25 b4 rfl (tab_length ..) ?_)
    refine (record_any S hS dr hdr true w1).mono ?_
    rintro e w2 ⟨s, R, rfl, hMade, ho2⟩
    obtain ⟨d, hd⟩ : ∃ d : Nat, (d : Int) = dr % 32 := ⟨(dr % 32).toNat, by omega⟩
    rw [← hd] at hMade ⊢
    have hd32 : d < 32 := by omega
    have o2 := o1.trans ho2
    have HB := fun w => bytes_any d s R w hd32 (fun hs => nice_ord (hMade.nice hs))
    clear hd b4 o1 ho2
    go_wp2_with fail
    refine (HB w2).mono ?_
    rintro e w4 ⟨v, rfl, hM, ho4⟩
    obtain ⟨Ab, cb, rfl, hcb, hAb⟩ := hM.slice
    have o4 := o2.trans ho4
    have hLpos : 0 < (Tri.bytes d s R).length := by unfold Tri.bytes; rw [List.length_append]; have := Tri.enc_pos (Tri.head d s); omega
    have hLmax : (Tri.bytes d s R).length ≤ 200 := by
      unfold Tri.bytes
      have h1 := Tri.enc_len 0 (Tri.head d s) (by have := head_lt s hd32; omega)
      rw [List.length_append]
      split
      · rename_i hs
        have := Tri.encs_len R (fun q hq => by have := nice_fits (hMade.nice hs) q hq; omega) 24 (by omega)
        omega
      · simp; omega
    have hkk : at_ % ((Tri.bytes d s R).length : Int) = ((at_.toNat % (Tri.bytes d s R).length : Nat) : Int) := by
      rw [Int.natCast_emod]; congr 1; omega
    have hklt : at_.toNat % (Tri.bytes d s R).length < (Tri.bytes d s R).length := Nat.mod_lt _ hLpos
    clear HB ho4 hMade
    generalize hkq : at_.toNat % (Tri.bytes d s R).length = k at *
    generalize hbq : Tri.bytes d s R = bs at *
    have hL : bs.length ≤ 200 := hLmax
    obtain ⟨gb, rfl⟩ : ∃ gb, Ab = some ⟨gb, 0, none⟩ := by
      cases Ab with
      | none =>
        rcases hM.2 with ⟨e1, h2⟩ | ⟨g, cap, cur, e1, _⟩
        · omega
        · cases e1
      | some a => obtain ⟨k', e, _⟩ := hAb a rfl; exact ⟨k', by rw [e]⟩
    obtain ⟨hc4, hf4⟩ := hM.cellAt hklt
    obtain ⟨xk, hxk⟩ : ∃ xk, bs[k] = xk := ⟨_, rfl⟩
    rw [hxk] at hc4
    obtain ⟨u, hu⟩ := u8_of (bits .xor .u8 (xk.toNat : Int) by_) (bits_within .xor .u8 _ _)
    have hM5 := hM.set (k := k) u
    have o4sz := o4.size
    have hgb2 : w2.heap.size ≤ gb := by obtain ⟨k', e, h1, _⟩ := hAb _ rfl; injection e with e; omega
    have hsz2 := o2.size
    have o5 := o4.setCell (p := ⟨gb, k, none⟩) (.inr (by simp; omega)) (.int .u8 (u.toNat : Int))
    clear hAb hLmax
    have HKK := Lib.hid hkk
    have HLQ := Lib.hid hLpos
    go_wp2_with fail
    rw [← hu]
    have hszL : (w4.setCell ⟨gb, k, none⟩ (.int .u8 (u.toNat : Int))).heap.size = w4.heap.size := by simp [World.setCell]
    have bL := Blk.new (w4.setCell ⟨gb, k, none⟩ (.int .u8 (u.toNat : Int))) 23 #[.slice A n c, .slice (some ⟨gb, 0, none⟩) bs.length cb]
    rw [hszL] at bL
    have oL := o5.alloc (.cells #[.slice A n c, .slice (some ⟨gb, 0, none⟩) bs.length cb] 23)
    have hyL := ((hM5.reads).alloc (Nat.le_refl _) (.cells #[.slice A n c, .slice (some ⟨gb, 0, none⟩) bs.length cb] 23)).more (B' := w4.heap.size + 1) (by rw [hszL]; omega)
    have hxL := (Reads.only_ hm oL).more (B' := w4.heap.size + 1) (by omega)
    have hszW : ((w4.setCell ⟨gb, k, none⟩ (.int .u8 (u.toNat : Int))).alloc (.cells #[.slice A n c, .slice (some ⟨gb, 0, none⟩) bs.length cb] 23)).heap.size = w4.heap.size + 1 := by simp [World.setCell]
    generalize ((w4.setCell ⟨gb, k, none⟩ (.int .u8 (u.toNat : Int))).alloc (.cells #[.slice A n c, .slice (some ⟨gb, 0, none⟩) bs.length cb] 23)) = wL at *
    have hsl : (bs.set k u).length = bs.length := by simp
    rw [hsl] at hyL
    have HZ : ∀ i, i < 2 → ∃ Az nz cz lz, #[Value.slice A n c, Value.slice (some ⟨gb, 0, none⟩) bs.length cb][i]? = some (.slice Az nz cz) ∧ nz ≤ 300 ∧ nz ≤ cz ∧ Byts wL wL.heap.size Az nz lz := fun i hi => by
      rw [hszW]
      match i, hi with
      | 0, _ => exact ⟨A, n, c, l, rfl, by omega, hnc, hxL⟩
      | 1, _ => exact ⟨_, _, cb, bs.set k u, rfl, by omega, hcb, hyL⟩
    have bL' := bL
    have hw4L : w4.heap.size < wL.heap.size := by omega
    clear hyL hxL hsl hszL hszW o5 bL hM5 hM hc4 hf4 hcb hgb2 hu hLpos hkk hxk hklt
    generalize #[Value.slice A n c, Value.slice (some ⟨gb, 0, none⟩) bs.length cb] = cs at *
    go_loopw [41] (fun x wr => ∃ i : Nat, i ≤ 2 ∧ x = .int .i64 i ∧ Only [] wL wr) (fun x _ => 2 - (intOf x).toNat)
    case atStart => exact ⟨0, by omega, rfl, Only.refl _ _⟩
    case round =>
      obtain ⟨i, hi, rfl, ho⟩ := hrel
      rcases (by omega : i = 2 ∨ i < 2) with rfl | hi2
      · go_wp2_with fail
        go_ret
        exact ⟨rfl, oL.trans ho⟩
      · obtain ⟨Az, nz, cz, lz, hcz, hnz, hnzc, hz⟩ := HZ i hi2
        have bLr := bL'.only ho (by simp)
        have hcell : wr.cell? ⟨w4.heap.size, i, none⟩ = some (.slice Az nz cz) := by rw [bLr.cell]; exact hcz
        have hzr := Reads.only_ hz ho
        have hosz := ho.size
        have hzl := hz.len
        go_wp2_with fail
        refine (read_any wr hzr hosz (by omega)).mono ?_
        rintro e w5 ⟨g1, rfl, hr1, hg1, ho5⟩
        have hz5 := Reads.only_ hz (ho.trans ho5)
        have o5 := ho.trans ho5
        clear hzr ho5
        go_wp2_with fail
        refine (take_any w5 hr1 rfl).mono ?_
        rintro e w6 ⟨er, d', s', R', rest, R1, rfl, hT, her, hb, hle, hrest, hr6, ho6⟩
        have o6 := o5.next ho6 (by simp; omega)
        have hz6 := Reads.only_ hz o6
        clear hr1 ho6 hz5
        have hsz6 := o6.size
        have hEG : Try.prog.eqGuardType Try.prog.depth 51 = false := by kernel_rfl
        by_cases her0 : er = 0
        · subst her0
          go_wp2_with (first
            | (refine wl_storew (vs := recC d' s' R') recTy (Blk.new ..) rfl rfl (recC_len ..) rfl (recC_one _ _ _) ?_; intro w7 b15 o7; have hr7 := (hr6.same ((Only.refl [] w6).alloc _)).far (Blk.new ..) (by decide) o7; have o7' := (o6.alloc _).next o7 (by simp; omega))
            | (go_at_call 15; refine (rErr_any _ hr7).mono ?_; rw [her]; rintro e w8 ⟨rfl, rfl⟩))
          have hT' : TakeR lz 0 d' s' R' rest := hT
          obtain ⟨hd', hck, hlz⟩ := take_good hT'
          have hbl : (Tri.bytes d' s' R').length ≤ 300 := by have := congrArg List.length hlz; rw [List.length_append, hzl] at this; omega
          have hbpos : 0 < (Tri.bytes d' s' R').length := by unfold Tri.bytes; rw [List.length_append]; have := Tri.enc_pos (Tri.head d' s'); omega
          have hrb := hrest (by simp)
          have hpos : R1.pos = (Tri.bytes d' s' R').length := by
            have h2 := hr6.small.1
            rw [hb] at h2
            have h3 := congrArg List.length hrb
            rw [List.length_drop] at h3
            have h4 := congrArg List.length hlz
            rw [List.length_append] at h4
            change R1.pos ≤ lz.length at h2
            change lz.length - R1.pos = rest.length at h3
            omega
          have hzb : lz.take R1.pos = Tri.bytes d' s' R' := by rw [hpos, hlz]; simp
          have hpn : R1.pos ≤ nz := by rw [hpos]; have := congrArg List.length hlz; rw [List.length_append, hzl] at this; omega
          have hcz' : (Tri.bytes d' s' R').length ≤ cz := by omega
          have b15' := (b15.alloc (.cells #[.slice none 0 0] 28))
          have o8 : Only [] wL (w7.alloc (.cells #[.slice none 0 0] 28)) := o7'.alloc _
          have hr8 := hr7.same ((Only.refl [] w7).alloc (.cells #[.slice none 0 0] 28))
          have hw8 := newWriter w7
          have hz8 := Reads.only_ hz o8
          have hs7 := b15.lt
          have hwL7 := o7'.size
          have hgw1 : w7.heap.size ≠ g1 := by have := hr7.lt; omega
          generalize w7.alloc (.cells #[.slice none 0 0] 28) = w8 at *
          have Hz : ∀ w4, Only [w7.heap.size] w8.drew w4 → Byts w4 wL.heap.size Az R1.pos (Tri.bytes d' s' R') := fun w4 h4 => by
            have h5 : Byts w8 wL.heap.size Az R1.pos (lz.take R1.pos) := by
              have := Reads.head hz8 (k := R1.pos) hpn
              unfold Byts
              simpa [bytesV, List.map_take] using this
            rw [hzb] at h5
            exact Reads.keep h5 fun p hp => h4.cell (by have := hw8.blk.lt; simp; omega) (by simp; omega)
          refine wp_region_onew 18 6 [w7.heap.size] (by kernel_rfl) (AnyInv w8.drew w6.heap.size w7.heap.size g1 (recC d' s' R') R1 (Tri.bytes d' s' R')) (AnyVal (recC d' s' R') w7.heap.size g1 (Tri.bytes d' s' R') (.slice Az nz cz) (.slice Az R1.pos cz) R1.pos) (fun i j v w w' hi hj hnw h ho => anyVal_mono i j v w w' hi hj (fun e9 e6 => by subst e9 e6; exact absurd (hnw.symm.trans (by kernel_rfl)) Bool.false_ne_true) h ho) ⟨b15'.drew, hr8.same (Only.refl [] w8).drew, Only.refl _ _, fun _ => hw8.only (Only.refl [] w8).drew (by simp) (by simp), fun h => by cases h⟩ (by kernel_rfl) (by omega) ?_ ?_ ?_ ?_
          · intro i hi o ho' gd hgo
            match i, hi with
            | 0, _ =>
              simp at ho'; subst ho'; cases hgo
            | 1, _ =>
              simp at ho'; subst ho'; cases hgo
            | 2, _ =>
              simp at ho'; subst ho'; cases hgo
            | 3, _ =>
              simp at ho'; subst ho'; cases hgo
            | 4, _ =>
              simp at ho'; subst ho'; injection hgo with hgo; subst hgo; exact ⟨by kernel_rfl, 60, by kernel_rfl, fun v w h => h⟩
            | 5, _ =>
              simp at ho'; subst ho'; injection hgo with hgo; subst hgo; exact ⟨by kernel_rfl, 60, by kernel_rfl, fun v w h => h⟩
            | 6, _ =>
              simp at ho'; subst ho'; injection hgo with hgo; subst hgo; exact ⟨by kernel_rfl, 60, by kernel_rfl, fun v w h => h⟩
            | 7, _ =>
              simp at ho'; subst ho'; injection hgo with hgo; subst hgo; exact ⟨by kernel_rfl, 60, by kernel_rfl, fun v w h => h⟩
            | 8, _ =>
              simp at ho'; subst ho'; cases hgo
            | 9, _ =>
              simp at ho'; subst ho'; cases hgo
            | 10, _ =>
              simp at ho'; subst ho'; injection hgo with hgo; subst hgo; exact ⟨by kernel_rfl, 66, by kernel_rfl, fun v w h => h.1⟩
            | 11, _ =>
              simp at ho'; subst ho'; injection hgo with hgo; subst hgo; exact ⟨by kernel_rfl, 66, by kernel_rfl, fun v w h => h.1⟩
            | 12, _ =>
              simp at ho'; subst ho'; injection hgo with hgo; subst hgo; exact ⟨by kernel_rfl, 66, by kernel_rfl, fun v w h => h.1⟩
            | 13, _ =>
              simp at ho'; subst ho'; injection hgo with hgo; subst hgo; exact ⟨by kernel_rfl, 66, by kernel_rfl, fun v w h => h.1⟩
            | 14, _ =>
              simp at ho'; subst ho'; injection hgo with hgo; subst hgo; exact ⟨by kernel_rfl, 66, by kernel_rfl, fun v w h => h.1⟩
            | 15, _ =>
              simp at ho'; subst ho'; injection hgo with hgo; subst hgo; exact ⟨by kernel_rfl, 66, by kernel_rfl, fun v w h => h.1⟩
            | 16, _ =>
              simp at ho'; subst ho'; injection hgo with hgo; subst hgo; exact ⟨by kernel_rfl, 66, by kernel_rfl, fun v w h => h.1⟩
            | 17, _ =>
              simp at ho'; subst ho'; injection hgo with hgo; subst hgo; exact ⟨by kernel_rfl, 66, by kernel_rfl, fun v w h => h.1⟩
            | i + 18, hi => exact absurd hi (by omega)
          · intro k hk t ht
            exact dst_small (n := 18) (m := 78) (by kernel_rfl) hk ht
          · intro k hk o ho' a w4 b hb' hbw _ hv hout hI
            have hb := hb'
            match k, hk with
            | 0, _ =>
              simp at ho'; subst ho'
              have e15 : a.tmps[15]?.getD undef = .pointer (some ⟨w6.heap.size, 0, none⟩) := hout 15 (by kernel_rfl)
              exact wp_value (v := .agg (recC d' s' R').toArray) (w' := w4) (exec_load recTy hI.x (by simp [Act.eval, e15]) (recC_len ..)) ⟨_, rfl, rfl, Only.refl _ _, by simpa using hI⟩
            | 1, _ =>
              simp at ho'; subst ho'
              have e57 : a.tmps[57]?.getD undef = .agg (recC d' s' R').toArray := hv 0 (by kernel_rfl) 57 (by kernel_rfl)
              refine wp_enter (f := 9) (args := #[.agg (recC d' s' R').toArray]) (w' := w4) (by simp [execOp]; go_simp) ?_
              refine (recCheck_any d' s' R' w4).mono ?_
              rw [hck]
              rintro e w5 ⟨rfl, ho5⟩
              exact ⟨_, rfl, _, rfl, rfl, by simpa using ho5, by simpa using hI.same ho5⟩
            | 2, _ =>
              simp at ho'; subst ho'
              have e58 : a.tmps[58]?.getD undef = .int .i64 0 := hv 1 (by kernel_rfl) 58 (by kernel_rfl)
              exact wp_value (v := .bool false) (w' := w4) (by simp [execOp, Act.eval, e58] <;> (try go_simp)) ⟨_, rfl, rfl, Only.refl _ _, by simpa using hI⟩
            | 3, _ =>
              simp at ho'; subst ho'
              have e59 : a.tmps[59]?.getD undef = .bool false := hv 2 (by kernel_rfl) 59 (by kernel_rfl)
              exact wp_value (v := .bool false) (w' := w4) (by simp [execOp, Act.eval, e59] <;> (try go_simp)) ⟨_, rfl, rfl, Only.refl _ _, by simpa using hI⟩
            | 4, _ =>
              simp at ho'; subst ho'
              have e15 : a.tmps[15]?.getD undef = .pointer (some ⟨w6.heap.size, 0, none⟩) := hout 15 (by kernel_rfl)
              exact wp_value (v := .agg (recC d' s' R').toArray) (w' := w4) (exec_load recTy hI.x (by simp [Act.eval, e15]) (recC_len ..)) ⟨_, rfl, rfl, Only.refl _ _, by simpa using hI⟩
            | 5, _ =>
              simp at ho'; subst ho'
              have e16 : a.tmps[16]?.getD undef = .pointer (some ⟨w7.heap.size, 0, none⟩) := hout 16 (by kernel_rfl)
              exact wp_value (v := .pointer (some ⟨w7.heap.size, 0, none⟩)) (w' := w4) (by simp [execOp, Act.eval, e16] <;> (try go_simp)) ⟨_, rfl, rfl, Only.refl _ _, by simpa using hI⟩
            | 6, _ =>
              simp at ho'; subst ho'
              have e61 : a.tmps[61]?.getD undef = .agg (recC d' s' R').toArray := hv 4 (by kernel_rfl) 61 (by kernel_rfl)
              have e62 : a.tmps[62]?.getD undef = .pointer (some ⟨w7.heap.size, 0, none⟩) := hv 5 (by kernel_rfl) 62 (by kernel_rfl)
              have hbf := hb rfl
              subst hbf
              refine wp_enter (f := 10) (args := #[.agg (recC d' s' R').toArray, .pointer (some ⟨w7.heap.size, 0, none⟩)]) (w' := w4) (by simp [execOp]; go_simp) ?_
              refine (put_any d' s' R' w4 (hI.n rfl) (by simp) hck).mono ?_
              rintro e w5 ⟨rfl, u5, hW5, -, ho5⟩
              have ho5' : Only [w7.heap.size] w4 w5 := ho5
              exact ⟨_, rfl, _, rfl, rfl, by simpa using ho5', ⟨hI.x.only ho5' (by simp; omega), hI.r.far (hI.n rfl).blk (by decide) ho5', hI.o.trans ho5', fun h => (by simp at h), fun _ => ⟨u5, by simpa using hW5⟩⟩⟩
            | 7, _ =>
              simp at ho'; subst ho'
              have e63 : a.tmps[63]?.getD undef = .int .i64 0 := hv 6 (by kernel_rfl) 63 (by kernel_rfl)
              exact wp_value (v := .bool false) (w' := w4) (by simp [execOp, Act.eval, e63] <;> (try go_simp)) ⟨_, rfl, rfl, Only.refl _ _, by simpa using hI⟩
            | 8, _ =>
              simp at ho'; subst ho'
              have e60 : a.tmps[60]?.getD undef = .bool false := hv 3 (by kernel_rfl) 60 (by kernel_rfl)
              have e64 : a.tmps[64]?.getD undef = .bool false := hv 7 (by kernel_rfl) 64 (by kernel_rfl)
              exact wp_value (v := .bool false) (w' := w4) (by simp [execOp, Act.eval, e60, e64] <;> (try go_simp)) ⟨_, rfl, rfl, Only.refl _ _, by simpa using hI⟩
            | 9, _ =>
              simp at ho'; subst ho'
              have e65 : a.tmps[65]?.getD undef = .bool false := hv 8 (by kernel_rfl) 65 (by kernel_rfl)
              exact wp_value (v := .bool false) (w' := w4) (by simp [execOp, Act.eval, e65] <;> (try go_simp)) ⟨_, rfl, ⟨rfl, hI.y (hbw (by kernel_rfl))⟩, Only.refl _ _, by simpa using hI⟩
            | 10, _ =>
              simp at ho'; subst ho'
              have e16 : a.tmps[16]?.getD undef = .pointer (some ⟨w7.heap.size, 0, none⟩) := hout 16 (by kernel_rfl)
              exact wp_value (v := .pointer (some ⟨w7.heap.size, 0, none⟩)) (w' := w4) (by simp [execOp, Act.eval, e16] <;> (try go_simp)) ⟨_, rfl, rfl, Only.refl _ _, by simpa using hI⟩
            | 11, _ =>
              simp at ho'; subst ho'
              have e67 : a.tmps[67]?.getD undef = .pointer (some ⟨w7.heap.size, 0, none⟩) := hv 10 (by kernel_rfl) 67 (by kernel_rfl)
              obtain ⟨-, u5, hW5⟩ := hv 9 (by kernel_rfl) 66 (by kernel_rfl)
              refine wp_enter (f := 12) (args := #[.pointer (some ⟨w7.heap.size, 0, none⟩)]) (w' := w4) (by simp [execOp]; go_simp) ?_
              refine (wBytes_any w4 hW5 (by omega)).mono ?_
              rintro e w5 ⟨ga, cap, rfl, hby5, hga, -, ho5⟩
              exact ⟨_, rfl, _, rfl, ⟨ga, cap, rfl, by have := hW5.blk.lt; omega, by obtain ⟨ad, e, h, _⟩ := hby5.2 hbpos; injection e with e; subst e; exact h, hby5⟩, by simpa using ho5, by simpa using hI.same ho5⟩
            | 12, _ =>
              simp at ho'; subst ho'
              obtain ⟨ga, cap, e68, h1, h2, h3⟩ := hv 11 (by kernel_rfl) 68 (by kernel_rfl)
              have e' : a.tmps.getD 68 undef = .slice (some ⟨ga, 0, none⟩) (Tri.bytes d' s' R').length cap := by simpa using e68
              exact wp_value (v := .string ⟨(Tri.bytes d' s' R').toArray⟩) (w' := w4) (by simp only [execOp, Act.eval, e', Sem.run_bind, run_str h3 Try.underlying23 Try.underlying9 Try.underlying5]; rfl) ⟨_, rfl, rfl, Only.refl _ _, by simpa using hI⟩
            | 13, _ =>
              simp at ho'; subst ho'
              have e13 : a.tmps[13]?.getD undef = .slice Az nz cz := hout 13 (by kernel_rfl)
              exact wp_value (v := .slice Az nz cz) (w' := w4) (by simp [execOp, Act.eval, e13] <;> (try go_simp)) ⟨_, rfl, rfl, Only.refl _ _, by simpa using hI⟩
            | 14, _ =>
              simp at ho'; subst ho'
              have e14 : a.tmps[14]?.getD undef = .pointer (some ⟨g1, 0, none⟩) := hout 14 (by kernel_rfl)
              exact wp_value (v := .pointer (some ⟨g1, 0, none⟩)) (w' := w4) (by simp [execOp, Act.eval, e14] <;> (try go_simp)) ⟨_, rfl, rfl, Only.refl _ _, by simpa using hI⟩
            | 15, _ =>
              simp at ho'; subst ho'
              have e71 : a.tmps[71]?.getD undef = .pointer (some ⟨g1, 0, none⟩) := hv 14 (by kernel_rfl) 71 (by kernel_rfl)
              refine wp_enter (f := 16) (args := #[.pointer (some ⟨g1, 0, none⟩)]) (w' := w4) (by simp [execOp]; go_simp) ?_
              refine (rAt_any w4 hI.r).mono ?_
              rintro e w5 ⟨rfl, rfl⟩
              exact ⟨_, rfl, _, rfl, rfl, Only.refl _ _, by simpa using hI⟩
            | 16, _ =>
              simp at ho'; subst ho'
              have e70 : a.tmps[70]?.getD undef = .slice Az nz cz := hv 13 (by kernel_rfl) 70 (by kernel_rfl)
              have e72 : a.tmps[72]?.getD undef = .int .i64 R1.pos := hv 15 (by kernel_rfl) 72 (by kernel_rfl)
              exact wp_value (v := .slice Az R1.pos cz) (w' := w4) (by simp [execOp, Act.eval, e70, e72] <;> (try go_simp) <;> (intro hlt; exact absurd hlt (by omega))) ⟨_, rfl, rfl, Only.refl _ _, by simpa using hI⟩
            | 17, _ =>
              simp at ho'; subst ho'
              have e73 : a.tmps[73]?.getD undef = .slice Az R1.pos cz := hv 16 (by kernel_rfl) 73 (by kernel_rfl)
              have h3 := Hz w4 hI.o
              have e' : a.tmps.getD 73 undef = .slice Az R1.pos cz := by simpa using e73
              exact wp_value (v := .string ⟨(Tri.bytes d' s' R').toArray⟩) (w' := w4) (by simp only [execOp, Act.eval, e', Sem.run_bind, run_str h3 Try.underlying23 Try.underlying9 Try.underlying5]; rfl) ⟨_, rfl, rfl, Only.refl _ _, by simpa using hI⟩
            | k + 18, hk => exact absurd hk (by omega)
          · intro vs w5 hv hI
            have v9 : vs 9 = .bool false := (hv 9 (by omega)).1
            have v12 : vs 12 = .string ⟨(Tri.bytes d' s' R').toArray⟩ := hv 12 (by omega)
            have v17 : vs 17 = .string ⟨(Tri.bytes d' s' R').toArray⟩ := hv 17 (by omega)
            have oE : Only [] wL w5 := o8.drew.next hI.o (by simp; omega)
            simp only [putAll, List.range, List.range.loop, List.foldl_cons, List.foldl_nil, dstOf, Act.put, List.getElem?_toArray, List.getElem?_cons_succ, List.getElem?_cons_zero, Option.bind_some, List.setIfInBounds_toArray, List.set_cons_succ, List.set_cons_zero, List.drop_succ_cons, List.drop_zero, v9, v12, v17]
            clear v9 v12 v17 hv
            go_wp2_with fail
            exact ⟨⟨i + 1, by omega, by simp, oE⟩, by simp [intOf]; omega⟩
        · obtain ⟨rfl, rfl, rfl⟩ := take_bad hT her0
          have hz0 : ∀ w, (Op.equalIn 10000 51 (.agg (recC ((0 : Nat) : Int) false fun _ => 0).toArray) (.agg (recC 0 false fun _ => 0).toArray)).run Try.prog w = .ok true w := fun w => by rw [recEq]; simp
          rw [zeroRec14 0] at hz0
          go_wp2_with (first
            | (refine wl_storew (vs := recC ((0 : Nat) : Int) false fun _ => 0) recTy (Blk.new ..) rfl rfl (recC_len ..) rfl (recC_one _ _ _) ?_; intro w7 b15 o7; have hr7 := (hr6.same ((Only.refl [] w6).alloc _)).far (Blk.new ..) (by decide) o7; have o7' := (o6.alloc _).next o7 (by simp; omega))
            | (go_at_call 15; refine (rErr_any _ hr7).mono ?_; rw [her]; rintro e w8 ⟨rfl, rfl⟩)
            | refine wl_loadw recTy b15 rfl (recC_len ..) ?_
            | refine wl_neq hEG hz0 rfl rfl ?_)
          exact ⟨⟨i + 1, by omega, by simp, o7'⟩, by simp [intOf]; omega⟩
end Go.Proofs.Ytjeeeiekabjcfaa
