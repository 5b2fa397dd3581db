/-
  THE DEVICE: a new one.
-/
import Derived.Test.YtnpjlmeiaegdkaaStore
import Derived.Test.YtnpjlmeiaegdkaaRange
import Derived.Test.YtnpjlmeiaegdkaaRegion
import Derived.Deep.DeepCutAuto
import Derived.Deep.RegionLaw
namespace Go.Proofs.Ytnpjlmeiaegdkaa
open Go.RowKit Go.Azu

theorem infoInt : (Try.prog.info? 3).map (fun i => (i.zero, i.size, i.bytes)) = some (some (.int .i64 0), 1, 8) := by kernel_rfl
theorem intsTy : STy Try.prog 28 3 (.int .i64 0) 1 8 := ⟨Try.underlying28, infoInt, rfl, by omega⟩

def bendV (p : Int × BitVec 32) : Value := .agg #[.int .i64 p.1, .int .u32 (p.2.toNat : Int)]

theorem DevAt.setBend {w : World} {base gd gm gb : Nat} {D : Store.Dev} (h : DevAt w base gd gm gb D) (k : Int) (p : Int × BitVec 32) (hp : -9223372036854775808 ≤ p.1 ∧ p.1 ≤ 9223372036854775807) :
    ∃ w', (Instr.mapUpdate 27 (.map (some gb)) (.int .i64 k) (bendV p)).run Try.prog w = .ok () w' ∧ DevAt w' base gd gm gb { D with bends := Store.set D.bends k (some p) } ∧ Only [gb] w w' ∧ w'.heap.size = w.heap.size := by
  obtain ⟨vF, vG, fm, fb, nb, h1, h2, h3, h4, h5, h6, h7, h8, h9, h10⟩ := h.at_
  obtain ⟨w', hrun, hm', ho, hs⟩ := h9.update Try.underlying27 Try.underlying3 k (bendV p)
  have n1 := h9.ne_blk h1
  have own : ∀ {e : TypeId} {n : Nat} {v : Value} {xs : List Value}, w.ownsRow base e 1 v n xs → w'.ownsRow base e 1 v n xs := fun hr =>
    ownsRow_only hr ho fun k hk hmem => by
      have hk' := h9.ne_own hr
      simp at hmem
      subst hmem
      exact hk' hk
  refine ⟨w', hrun, ⟨⟨vF, vG, fm, Upd fb k (some (bendV p)), _, h1.only ho (by simpa using Ne.symm n1), h2.only ho (by simpa using h.apart), h3, fun k v b hk hb => ⟨(h4 k v b hk hb).1, own (h4 k v b hk hb).2⟩, h5, own h6, h7, own h8, hm', ?_⟩, h.based, h.apart, ?_⟩, ho, hs⟩
  · intro j
    simp only [Upd, Store.set]
    split
    · rfl
    · exact h10 j
  · obtain ⟨s1, s2, s3, s4, s5⟩ := h.small
    refine ⟨s1, s2, s3, s4, ?_⟩
    intro j q hq
    simp only [Store.set] at hq
    split at hq
    · injection hq with hq; subst hq; exact hp
    · exact s5 j q hq

/-- a turn of an iterator leaves a device as it is -/
theorem DevAt.iter {w w' : World} {base gd gm gb : Nat} {D : Store.Dev} (h : DevAt w base gd gm gb D) {r g clock : Nat} {es : Array MapEntry} {seen : Array Nat} (hr : Ranging w r g es clock seen) (ho : Only [r] w w') : DevAt w' base gd gm gb D := by
  obtain ⟨vF, vG, fm, fb, nb, h1, h2, h3, h4, h5, h6, h7, h8, h9, h10⟩ := h.at_
  have hr1 := hr.1
  have own : ∀ {e : TypeId} {n : Nat} {v : Value} {xs : List Value}, w.ownsRow base e 1 v n xs → w'.ownsRow base e 1 v n xs := fun hrow =>
    ownsRow_only hrow ho fun k hk hmem => by
      simp at hmem
      subst hmem
      rcases hrow.2 with ⟨rfl, _⟩ | ⟨g', cap, cur, rfl, _, hh, _⟩
      · simp [Value.ownBlock] at hk
      · have : g' = k := by simpa [Value.ownBlock] using hk
        subst this
        exact absurd (hr1.symm.trans hh) (by simp)
  have mp : ∀ {g : Nat} {f : Int → Option Value} {n : Nat}, MapIs w g f n → g ∉ [r] := fun hm hmem => by
    simp at hmem
    subst hmem
    obtain ⟨es, clock, h1, _⟩ := hm
    exact absurd (hr1.symm.trans h1) (by simp)
  have hd : gd ∉ [r] := by
    intro hmem
    simp at hmem
    subst hmem
    exact absurd (hr1.symm.trans h1) (by simp)
  exact ⟨⟨vF, vG, fm, fb, nb, h1.only ho hd, h2.only ho (mp h2), h3, fun k v b hk hb => ⟨(h4 k v b hk hb).1, own (h4 k v b hk hb).2⟩, h5, own h6, h7, own h8, h9.only ho (mp h9), h10⟩, h.based, h.apart, h.small⟩

theorem born_inj : ∀ (es : List MapEntry), (es.map (·.born)).Nodup → ∀ {x e : MapEntry}, x ∈ es → e ∈ es → x.born = e.born → x = e
  | [], _, _, _, hx, _, _ => by cases hx
  | y :: es, hn, x, e, hx, he, hb => by
    rw [List.map_cons, List.nodup_cons] at hn
    cases hx with
    | head =>
      cases he with
      | head => rfl
      | tail _ he => exact (hn.1 (hb ▸ List.mem_map_of_mem he)).elim
    | tail _ hx =>
      cases he with
      | head => exact (hn.1 (hb ▸ List.mem_map_of_mem hx)).elim
      | tail _ he => exact born_inj es hn.2 hx he hb

/-- what a range over the bends has laid -/
def Laid (es : Array MapEntry) (seen : Array Nat) (fB F : Int → Option (Int × BitVec 32)) : Prop :=
  (∀ k p, F k = some p → fB k = some p) ∧ ∀ e ∈ es.toList, seen.contains e.born = true → ∀ k, e.key = .int .i64 k → F k = fB k

theorem Laid.all {es : Array MapEntry} {seen : Array Nat} {f : Int → Option Value} {fB F : Int → Option (Int × BitVec 32)} (h : Laid es seen fB F) (hf : ∀ k v, f k = some v ↔ ∃ e ∈ es.toList, e.key = .int .i64 k ∧ e.val = v)
    (hfB : ∀ k, f k = (fB k).map bendV) (hall : ∀ x ∈ es.toList, seen.contains x.born = true) : F = fB := by
  funext k
  cases hb : fB k with
  | none =>
    cases hF : F k with
    | none => rfl
    | some p => have := h.1 k p hF; rw [hb] at this; cases this
  | some p =>
    obtain ⟨e, he, hk, _⟩ := (hf k (bendV p)).1 (by rw [hfB, hb]; rfl)
    rw [h.2 e he (hall e he) k hk, hb]

theorem Laid.step {es : Array MapEntry} {seen : Array Nat} {f : Int → Option Value} {fB F : Int → Option (Int × BitVec 32)} (h : Laid es seen fB F) (hf : ∀ k v, f k = some v ↔ ∃ e ∈ es.toList, e.key = .int .i64 k ∧ e.val = v)
    (hfB : ∀ k, f k = (fB k).map bendV) (hks : ∀ x ∈ es.toList, MapKept.IsKey (.int .i64) x.key) {e : MapEntry} (he : e ∈ es.toList) :
    ∃ k p, e.key = .int .i64 k ∧ e.val = bendV p ∧ fB k = some p ∧ ∀ seen', seen' = seen.push e.born → (∀ x ∈ es.toList, x.born = e.born → x = e) → Laid es seen' fB (Store.set F k (some p)) := by
  obtain ⟨k, hk⟩ : ∃ k, e.key = .int .i64 k := by
    have := hks e he
    cases hx : e.key with
    | int q n => rw [hx] at this; have hq : q = .i64 := this; subst hq; exact ⟨n, rfl⟩
    | _ => rw [hx] at this; exact this.elim
  have hv := (hf k e.val).2 ⟨e, he, hk, rfl⟩
  rw [hfB] at hv
  obtain ⟨p, hp, hpv⟩ := Option.map_eq_some_iff.1 hv
  refine ⟨k, p, hk, hpv.symm, hp, ?_⟩
  rintro seen' rfl huniq
  constructor
  · intro j q hq
    simp only [Store.set] at hq
    split at hq
    · rename_i hj; injection hq with hq; subst hq; subst hj; exact hp
    · exact h.1 j q hq
  · intro x hx hsx j hj
    simp only [Store.set]
    by_cases hjk : j = k
    · subst hjk; rw [if_pos rfl, hp]
    · rw [if_neg hjk]
      refine h.2 x hx ?_ j hj
      rw [Array.contains_eq_mem] at hsx ⊢
      simp at hsx ⊢
      rcases hsx with h1 | h1
      · exact h1
      · exfalso
        have := huniq x hx h1
        subst this
        rw [hk] at hj; injection hj with _ hj; exact hjk hj.symm

/-- what each operation of New's second statement yields -/
def NewVal (h0 gd bp : Nat) (FV GV : Value) (lF lG : List Int) : Nat → Value → World → Prop
  | 0, v, _ => v = .pointer (some ⟨gd, 0, none⟩)
  | 1, v, w => ∃ g, v = .slice (some ⟨g, 0, none⟩) 0 0 ∧ h0 ≤ g ∧ Blk w g 3 #[]
  | 2, v, _ => v = .pointer (some ⟨bp, 0, none⟩)
  | 3, v, _ => v = FV
  | 4, v, w => ∃ g cap, v = .slice (some ⟨g, 0, none⟩) lF.length cap ∧ w.ownsRow h0 3 1 v lF.length (lF.map (Value.int .i64))
  | 5, v, w => ∃ g, v = .slice (some ⟨g, 0, none⟩) 0 0 ∧ h0 ≤ g ∧ Blk w g 3 #[]
  | 6, v, _ => v = .pointer (some ⟨bp, 1, none⟩)
  | 7, v, _ => v = GV
  | 8, v, w => ∃ g cap, v = .slice (some ⟨g, 0, none⟩) lG.length cap ∧ w.ownsRow h0 3 1 v lG.length (lG.map (Value.int .i64))
  | 9, v, w => ∃ g, v = .map (some g) ∧ h0 ≤ g ∧ MapIs w g (fun _ => none) 0
  | 10, v, w => ∃ gF cF gG cG gb, v = .agg #[.slice (some ⟨gF, 0, none⟩) lF.length cF, .slice (some ⟨gG, 0, none⟩) lG.length cG, .map (some gb)] ∧
      w.ownsRow h0 3 1 (.slice (some ⟨gF, 0, none⟩) lF.length cF) lF.length (lF.map (Value.int .i64)) ∧ w.ownsRow h0 3 1 (.slice (some ⟨gG, 0, none⟩) lG.length cG) lG.length (lG.map (Value.int .i64)) ∧ h0 ≤ gb ∧ MapIs w gb (fun _ => none) 0
  | 11, v, _ => v = .pointer (some ⟨gd, 0, none⟩)
  | 12, v, _ => v = .pointer (some ⟨gd, 6, none⟩)
  | _, _, _ => True

theorem newVal_mono {h0 gd bp : Nat} {FV GV : Value} {lF lG : List Int} (i : Nat) (v : Value) (w w' : World) (h : NewVal h0 gd bp FV GV lF lG i v w) (ho : Only [] w w') : NewVal h0 gd bp FV GV lF lG i v w' := by
  have own : ∀ {v : Value} {n : Nat} {xs : List Value}, w.ownsRow h0 3 1 v n xs → w'.ownsRow h0 3 1 v n xs := fun hr => ownsRow_only hr ho (by simp)
  match i, h with
  | 0, h => exact h
  | 1, ⟨g, h1, h2, h3⟩ => exact ⟨g, h1, h2, h3.only ho (by simp)⟩
  | 2, h => exact h
  | 3, h => exact h
  | 4, ⟨g, cap, h1, h2⟩ => exact ⟨g, cap, h1, own h2⟩
  | 5, ⟨g, h1, h2, h3⟩ => exact ⟨g, h1, h2, h3.only ho (by simp)⟩
  | 6, h => exact h
  | 7, h => exact h
  | 8, ⟨g, cap, h1, h2⟩ => exact ⟨g, cap, h1, own h2⟩
  | 9, ⟨g, h1, h2, h3⟩ => exact ⟨g, h1, h2, h3.only ho (by simp)⟩
  | 10, ⟨gF, cF, gG, cG, gb, h1, h2, h3, h4, h5⟩ => exact ⟨gF, cF, gG, cG, gb, h1, own h2, own h3, h4, h5.only ho (by simp)⟩
  | 11, h => exact h
  | 12, h => exact h
  | _ + 13, _ => trivial

set_option maxHeartbeats 2000000 in
theorem devNew_any (room : Int) (AF AG : Option Addr) (nF nG cF cG : Nat) (lF lG : List Int) (go : Option Nat) (fB : Int → Option (Int × BitVec 32)) (w : World) (hroom : 0 ≤ room ∧ room ≤ 4096)
    (hF : Reads w w.heap.size 1 AF nF (lF.map (Value.int .i64))) (hG : Reads w w.heap.size 1 AG nG (lG.map (Value.int .i64))) (hnF : lF.length = nF) (hnG : lG.length = nG) (sF : nF ≤ 1000000) (sG : nG ≤ 1000000)
    (hB : (go = none ∧ fB = fun _ => none) ∨ ∃ gp np f, go = some gp ∧ MapIs w gp f np ∧ ∀ k, f k = (fB k).map bendV) (hbb : ∀ k p, fB k = some p → -9223372036854775808 ≤ p.1 ∧ p.1 ≤ 9223372036854775807) :
    Calls Try.prog 6 #[.int .i64 room, .agg #[.slice AF nF cF, .slice AG nG cG, .map go]] w fun e w' => ∃ gd gm gb, e = .returned (.pointer (some ⟨gd, 0, none⟩)) ∧ DevAt w' w.heap.size gd gm gb (Store.new room lF lG fB) ∧ Only [] w w' := by
  have hmm := @run_makeMap Try.prog
  subst hnF hnG
  go_enter Try.func6, Try.ntmps6
  go_wp2_with fail
  have hBp := ((Blk.new w 30 #[.slice AF lF.length cF, .slice AG lG.length cG, .map go]).alloc (.map #[] 0)).alloc (.cells #[.map (some (w.heap.size + 1)), .int .i64 room, .int .i64 0, .int .i64 0, .int .i64 0, .int .i64 0, .slice none 0 0, .slice none 0 0, .map none] 54)
  have hM3 := (MapIs.made (w.alloc (.cells #[.slice AF lF.length cF, .slice AG lG.length cG, .map go] 30))).alloc (.cells #[.map (some (w.heap.size + 1)), .int .i64 room, .int .i64 0, .int .i64 0, .int .i64 0, .int .i64 0, .slice none 0 0, .slice none 0 0, .map none] 54)
  have hB3 := Blk.new ((w.alloc (.cells #[.slice AF lF.length cF, .slice AG lG.length cG, .map go] 30)).alloc (.map #[] 0)) 54 #[.map (some (w.heap.size + 1)), .int .i64 room, .int .i64 0, .int .i64 0, .int .i64 0, .int .i64 0, .slice none 0 0, .slice none 0 0, .map none]
  have ho3 := (((Only.refl [] w).alloc (.cells #[.slice AF lF.length cF, .slice AG lG.length cG, .map go] 30)).alloc (.map #[] 0)).alloc (.cells #[.map (some (w.heap.size + 1)), .int .i64 room, .int .i64 0, .int .i64 0, .int .i64 0, .int .i64 0, .slice none 0 0, .slice none 0 0, .map none] 54)
  simp only [World.size_alloc] at hM3 hB3
  have hs3 : w.heap.size + 3 = (((w.alloc (.cells #[.slice AF lF.length cF, .slice AG lG.length cG, .map go] 30)).alloc (.map #[] 0)).alloc (.cells #[.map (some (w.heap.size + 1)), .int .i64 room, .int .i64 0, .int .i64 0, .int .i64 0, .int .i64 0, .slice none 0 0, .slice none 0 0, .map none] 54)).heap.size := by simp
  generalize (((w.alloc (.cells #[.slice AF lF.length cF, .slice AG lG.length cG, .map go] 30)).alloc (.map #[] 0)).alloc (.cells #[.map (some (w.heap.size + 1)), .int .i64 room, .int .i64 0, .int .i64 0, .int .i64 0, .int .i64 0, .slice none 0 0, .slice none 0 0, .map none] 54)) = w3 at *
  generalize hgm : w.heap.size + 1 = gm at hM3 hB3 ⊢
  generalize hgd : gm + 1 = gd at hB3 ⊢
  have hord : w.heap.size < gm ∧ gm < gd := by omega
  clear hgm hgd
  have hF' := hF.only_ ho3
  have hG' := hG.only_ ho3
  have hle3 := ho3.size
  refine wp_region_ext 13 (by kernel_rfl) (NewVal w3.heap.size gd w.heap.size (.slice AF lF.length cF) (.slice AG lG.length cG) lF lG) newVal_mono (by kernel_rfl) ?_ (by kernel_rfl) ?_ ?_
  · intro i hi t ht
    exact dst_small (n := 13) (m := 43) (by kernel_rfl) hi ht
  · intro i hi o ho vs a w4 hv h0 how
    have hsz4 := how.size
    match i, hi with
    | 0, _ =>
      obtain rfl := Option.some.inj ho
      have e0 := h0 5 (by kernel_rfl)
      exact BigFrame.wp_move _ rfl ⟨_, rfl, e0, Only.refl _ _⟩
    | 1, _ =>
      obtain rfl := Option.some.inj ho
      refine wp_value (v := .slice (some ⟨w4.heap.size, 0, none⟩) 0 0) (w' := w4.alloc (.cells #[] 3)) (by simp only [execOp]; go_simp) ⟨_, rfl, ⟨_, rfl, hsz4, Blk.new _ _ _⟩, (Only.refl _ _).alloc _⟩
    | 2, _ =>
      simp at ho; subst ho
      have e0 : a.eval (.tmp 3) = .pointer (some ⟨w.heap.size, 0, none⟩) := h0 3 (by kernel_rfl)
      refine wp_value (v := .pointer (some ⟨w.heap.size, 0, none⟩)) (w' := w4) (by simp only [execOp, e0]; go_simp) ⟨_, rfl, rfl, Only.refl _ _⟩
    | 3, _ =>
      simp at ho; subst ho
      obtain ⟨v2, e2⟩ := hv 2 (by kernel_rfl)
      have e2' := (e2 16 rfl).trans v2
      have c0 : w4.cell? ⟨w.heap.size, 0, none⟩ = some (.slice AF lF.length cF) := (hBp.only how (by simp)).cell 0
      refine wp_value (v := .slice AF lF.length cF) (w' := w4) (by simp only [execOp, e2']; go_simp) ⟨_, rfl, rfl, Only.refl _ _⟩
    | 4, _ =>
      obtain rfl := Option.some.inj ho
      obtain ⟨⟨g, v1, hg, hb⟩, e1⟩ := hv 1 (by kernel_rfl)
      obtain ⟨v3, e3⟩ := hv 3 (by kernel_rfl)
      refine wp_clone intsTy (.tmp 15) (.tmp 17) rfl hb ((e1 15 rfl).trans v1) (hF'.only_ how hle3) ((e3 17 rfl).trans v3) (by simp [Value.oneCell']) (by simp only [maxLen]; omega) (by omega) ?_
      intro g' cap w' h2 h3 h4 h5
      exact ⟨_, rfl, ⟨g', cap, rfl, ownsRow_low h4 hg⟩, h5⟩
    | 5, _ =>
      obtain rfl := Option.some.inj ho
      refine wp_value (v := .slice (some ⟨w4.heap.size, 0, none⟩) 0 0) (w' := w4.alloc (.cells #[] 3)) (by simp only [execOp]; go_simp) ⟨_, rfl, ⟨_, rfl, hsz4, Blk.new _ _ _⟩, (Only.refl _ _).alloc _⟩
    | 6, _ =>
      simp at ho; subst ho
      have e0 : a.eval (.tmp 3) = .pointer (some ⟨w.heap.size, 0, none⟩) := h0 3 (by kernel_rfl)
      refine wp_value (v := .pointer (some ⟨w.heap.size, 1, none⟩)) (w' := w4) (by simp only [execOp, e0]; go_simp) ⟨_, rfl, rfl, Only.refl _ _⟩
    | 7, _ =>
      simp at ho; subst ho
      obtain ⟨v2, e2⟩ := hv 6 (by kernel_rfl)
      have e2' := (e2 20 rfl).trans v2
      have c0 : w4.cell? ⟨w.heap.size, 1, none⟩ = some (.slice AG lG.length cG) := (hBp.only how (by simp)).cell 1
      refine wp_value (v := .slice AG lG.length cG) (w' := w4) (by simp only [execOp, e2']; go_simp) ⟨_, rfl, rfl, Only.refl _ _⟩
    | 8, _ =>
      obtain rfl := Option.some.inj ho
      obtain ⟨⟨g, v1, hg, hb⟩, e1⟩ := hv 5 (by kernel_rfl)
      obtain ⟨v3, e3⟩ := hv 7 (by kernel_rfl)
      refine wp_clone intsTy (.tmp 19) (.tmp 21) rfl hb ((e1 19 rfl).trans v1) (hG'.only_ how hle3) ((e3 21 rfl).trans v3) (by simp [Value.oneCell']) (by simp only [maxLen]; omega) (by omega) ?_
      intro g' cap w' h2 h3 h4 h5
      exact ⟨_, rfl, ⟨g', cap, rfl, ownsRow_low h4 hg⟩, h5⟩
    | 9, _ =>
      obtain rfl := Option.some.inj ho
      refine wp_value (v := .map (some w4.heap.size)) (w' := w4.alloc (.map #[] 0)) (by simp only [execOp]; go_simp) ⟨_, rfl, ⟨_, rfl, hsz4, MapIs.made _⟩, (Only.refl _ _).alloc _⟩
    | 10, _ =>
      simp at ho; subst ho
      obtain ⟨⟨gF, cF', v4, r4⟩, e4⟩ := hv 4 (by kernel_rfl)
      obtain ⟨⟨gG, cG', v8, r8⟩, e8⟩ := hv 8 (by kernel_rfl)
      obtain ⟨⟨gb, v9, hgb, r9⟩, e9⟩ := hv 9 (by kernel_rfl)
      have e4' := (e4 18 rfl).trans v4
      have e8' := (e8 22 rfl).trans v8
      have e9' := (e9 23 rfl).trans v9
      rw [v4] at r4
      rw [v8] at r8
      refine wp_value (v := .agg #[.slice (some ⟨gF, 0, none⟩) lF.length cF', .slice (some ⟨gG, 0, none⟩) lG.length cG', .map (some gb)]) (w' := w4) (by simp [execOp, e4', e8', e9']; go_simp) ⟨_, rfl, ⟨gF, cF', gG, cG', gb, rfl, r4, r8, hgb, r9⟩, Only.refl _ _⟩
    | 11, _ =>
      simp at ho; subst ho
      obtain ⟨v0, e0⟩ := hv 0 (by kernel_rfl)
      have e0' := (e0 14 rfl).trans v0
      refine wp_value (v := .pointer (some ⟨gd, 0, none⟩)) (w' := w4) (by simp only [execOp, e0']; go_simp) ⟨_, rfl, rfl, Only.refl _ _⟩
    | 12, _ =>
      simp at ho; subst ho
      obtain ⟨v0, e0⟩ := hv 11 (by kernel_rfl)
      have e0' := (e0 25 rfl).trans v0
      refine wp_value (v := .pointer (some ⟨gd, 6, none⟩)) (w' := w4) (by simp only [execOp, e0']; go_simp) ⟨_, rfl, rfl, Only.refl _ _⟩
  · intro vs w4 hv ho4
    obtain ⟨gF, cF', gG, cG', gb, v10, r4, r8, hgb, r9⟩ := hv 10 (by omega)
    have v12 : vs 12 = .pointer (some ⟨gd, 6, none⟩) := hv 12 (by omega)
    simp only [putAll, List.range, List.range.loop, List.foldl_cons, List.foldl_nil, dstOf, Act.put, List.getElem?_toArray, List.getElem?_cons_succ, List.getElem?_cons_zero, Option.bind_some, List.setIfInBounds_toArray, List.set_cons_succ, List.set_cons_zero, List.drop_succ_cons, List.drop_zero, v10, v12]
    have hB4 := hB3.only ho4 (by simp)
    have hP4 := hBp.only ho4 (by simp)
    have hM4 := hM3.only ho4 (by simp)
    have c6 : w4.cell? ⟨gd, 6, none⟩ = some (.slice none 0 0) := hB4.cell 6
    have c7 : w4.cell? ⟨gd, 7, none⟩ = some (.slice none 0 0) := hB4.cell 7
    have c8 : w4.cell? ⟨gd, 8, none⟩ = some (.map none) := hB4.cell 8
    have f6 : w4.frozen? ⟨gd, 6, none⟩ = false := hB4.frozen 6
    have f7 : w4.frozen? ⟨gd, 7, none⟩ = false := hB4.frozen 7
    have f8 : w4.frozen? ⟨gd, 8, none⟩ = false := hB4.frozen 8
    have cp : w4.cell? ⟨w.heap.size, 2, none⟩ = some (.map go) := hP4.cell 2
    go_upto_region 3 with fail
    have hD5 : DevAt (((w4.setCell ⟨gd, 6, none⟩ (.slice (some ⟨gF, 0, none⟩) lF.length cF')).setCell ⟨gd, 7, none⟩ (.slice (some ⟨gG, 0, none⟩) lG.length cG')).setCell ⟨gd, 8, none⟩ (.map (some gb))) w.heap.size gd gm gb (Store.new room lF lG (fun _ => none)) := by
      have n1 := hM4.ne_blk hB4
      have n2 := r9.ne_blk hB4
      have own : ∀ {v : Value} {n : Nat} {xs : List Value}, w4.ownsRow w3.heap.size 3 1 v n xs → (((w4.setCell ⟨gd, 6, none⟩ (.slice (some ⟨gF, 0, none⟩) lF.length cF')).setCell ⟨gd, 7, none⟩ (.slice (some ⟨gG, 0, none⟩) lG.length cG')).setCell ⟨gd, 8, none⟩ (.map (some gb))).ownsRow w.heap.size 3 1 v n xs := fun hr =>
        ownsRow_low (ownsRow_only hr ((((Only.refl [gd] w4).setCell (.inl (by simp)) _).setCell (.inl (by simp)) _).setCell (.inl (by simp)) _) fun k hk hmem => by
          have hk' := ownsRow_ne_blk hr hB4 (by decide)
          simp at hmem
          subst hmem
          exact hk' hk) hle3
      have hgdlt := hB3.lt
      have hR : ((Store.new room lF lG (fun _ => none)).room : Int) = room := by simp only [Store.new]; omega
      have hB5 : Blk (((w4.setCell ⟨gd, 6, none⟩ (.slice (some ⟨gF, 0, none⟩) lF.length cF')).setCell ⟨gd, 7, none⟩ (.slice (some ⟨gG, 0, none⟩) lG.length cG')).setCell ⟨gd, 8, none⟩ (.map (some gb))) gd 54 #[.map (some gm), .int .i64 ((Store.new room lF lG (fun _ => none)).room : Int), .int .i64 0, .int .i64 0, .int .i64 0, .int .i64 0, .slice (some ⟨gF, 0, none⟩) lF.length cF', .slice (some ⟨gG, 0, none⟩) lG.length cG', .map (some gb)] := by
        rw [hR]; exact ((hB4.set_ 6 _).set_ 7 _).set_ 8 _
      refine ⟨⟨_, _, fun _ => none, fun _ => none, 0, hB5, ((hM4.setCell n1 _).setCell n1 _).setCell n1 _, fun _ => rfl, by simp, ⟨gF, cF', rfl⟩, own r4, ⟨gG, cG', rfl⟩, own r8, ((r9.setCell n2 _).setCell n2 _).setCell n2 _, fun _ => rfl⟩, ⟨by omega, by omega, by omega⟩, by omega, ⟨sF, sG, ?_, by simp [Store.new], by simp [Store.new]⟩⟩
      simp only [Store.new]; omega
    have ho5 : Only [] w (((w4.setCell ⟨gd, 6, none⟩ (.slice (some ⟨gF, 0, none⟩) lF.length cF')).setCell ⟨gd, 7, none⟩ (.slice (some ⟨gG, 0, none⟩) lG.length cG')).setCell ⟨gd, 8, none⟩ (.map (some gb))) :=
      ((((ho3.trans ho4).setCell (p := ⟨gd, 6, none⟩) (.inr (by simp; omega)) _).setCell (p := ⟨gd, 7, none⟩) (.inr (by simp; omega)) _).setCell (p := ⟨gd, 8, none⟩) (.inr (by simp; omega)) _)
    have hP5 : Blk (((w4.setCell ⟨gd, 6, none⟩ (.slice (some ⟨gF, 0, none⟩) lF.length cF')).setCell ⟨gd, 7, none⟩ (.slice (some ⟨gG, 0, none⟩) lG.length cG')).setCell ⟨gd, 8, none⟩ (.map (some gb))) w.heap.size 30 #[.slice AF lF.length cF, .slice AG lG.length cG, .map go] :=
      ((hP4.far (p := ⟨gd, 6, none⟩) (by simp; omega) _).far (p := ⟨gd, 7, none⟩) (by simp; omega) _).far (p := ⟨gd, 8, none⟩) (by simp; omega) _
    generalize (((w4.setCell ⟨gd, 6, none⟩ (.slice (some ⟨gF, 0, none⟩) lF.length cF')).setCell ⟨gd, 7, none⟩ (.slice (some ⟨gG, 0, none⟩) lG.length cG')).setCell ⟨gd, 8, none⟩ (.map (some gb))) = w5 at *
    have hlt3 := hB3.lt
    clear c6 c7 c8 f6 f7 f8 cp hB4 hP4 hM4 r4 r8 r9 hB3 hBp hM3 hF' hG' v10 v12 hv
    have cp : w5.cell? ⟨w.heap.size, 2, none⟩ = some (.map go) := hP5.cell 2
    rcases hB with ⟨rfl, rfl⟩ | ⟨gp, np, f, rfl, hB, hfB⟩
    · have hrg := run_range_nilMap (P := Try.prog) w5 _ _ _ Try.underlying27
      have hnx : ∀ ty, (Instr.next (.pointer (some ⟨w5.heap.size, 0, none⟩)) false ty).run Try.prog (w5.alloc (.mapIter none 0 #[] 0)) = _ := fun ty => run_next_nilMap w5 ty 0 0 #[]
      have hD6 := hD5.only ((Only.refl [] w5).alloc (.mapIter none 0 #[] 0)) (by simp)
      have ho6 := ho5.alloc (.mapIter none 0 #[] 0)
      go_wp2_with fail
      generalize w5.alloc (.mapIter none 0 #[] 0) = w6 at *
      go_loopw [6] (fun _ wr => wr = w6) (fun _ wr => 0)
      case atStart => rfl
      case round =>
        subst hrel
        go_wp2
        go_ret
        exact ⟨gd, gm, gb, rfl, hD6, ho6⟩
    have hgplt := hB.lt
    have hB5 := hB.only ho5 (by simp)
    obtain ⟨es, clock, hmap, hst, hks, hnp, hfe⟩ := hB5
    go_wp2_with (refine wpList_range_m (.tmp 28) rfl rfl Try.underlying27 rfl hmap ?_; intro hrg)
    go_frame
    generalize hr : w5.heap.size = r at *
    have hD6 := hD5.only ((Only.refl [] w5).alloc (.mapIter (some gp) clock #[] clock)) (by simp)
    have ho6 := ho5.alloc (.mapIter (some gp) clock #[] clock)
    have hr6 : w.heap.size ≤ r ∧ gp ≠ gb ∧ r ≠ gb := by
      have := ho5.size
      have hgb5 : gb < w5.heap.size := by obtain ⟨vF, vG, fm, fb, nb, -, -, -, -, -, -, -, -, h9, -⟩ := hD5.at_; exact h9.lt
      exact ⟨by omega, by omega, by omega⟩
    generalize w5.alloc (.mapIter (some gp) clock #[] clock) = w6 at *
    go_loopw [6] (fun _ wr => ∃ seen F, Ranging wr r gp es clock seen ∧ DevAt wr w.heap.size gd gm gb (Store.new room lF lG F) ∧ Only [] w wr ∧ Laid es seen fB F) (fun _ wr => leftN es (seenOf wr r))
    case atStart => exact ⟨#[], fun _ => none, hrg, hD6, ho6, ⟨by simp, by simp⟩⟩
    case round =>
      obtain ⟨seen, F, hrng, hDr, hor, hlaid⟩ := hrel
      go_wp2_with (refine wpList_next_m (.tmp 29) rfl rfl rfl hrng hst ?_ ?_)
      · intro hall
        have hF := hlaid.all hfe hfB (fun x hx => by have := hall x (by simpa using hx); simpa using this)
        subst hF
        go_wp2
        go_ret
        exact ⟨gd, gm, gb, rfl, hDr, hor⟩
      · intro e w7 he hns hrng7 ho7 hs7 hent
        have hel : e ∈ es.toList := by simpa using he
        obtain ⟨k, p, hek, hev, hfk, hnext⟩ := hlaid.step hfe hfB hks hel
        have hnx := hnext _ rfl (fun x hx hb => born_inj _ hst.2.1 hx hel hb)
        have hlft := leftN_push hel (by simpa using hns)
        clear hnext
        rw [hek, hev, bendV] at hent ⊢
        have hpb := hbb k p hfk
        have hD7 := hDr.iter hrng ho7
        have hor7 : Only [] w w7 := hor.next ho7 (by simp; omega)
        go_wp2_with fail
        generalize hb8 : wr.heap.size = b8 at *
        have hB8 : Blk (w7.alloc (Obj.cells #[.int .i64 p.1, .int .u32 (p.2.toNat : Int)] 25)) b8 25 #[.int .i64 p.1, .int .u32 (p.2.toNat : Int)] := by
          have := Blk.new w7 25 #[.int .i64 p.1, .int .u32 (p.2.toNat : Int)]
          rwa [hs7] at this
        have hD8 := hD7.only ((Only.refl [] w7).alloc (Obj.cells #[.int .i64 p.1, .int .u32 (p.2.toNat : Int)] 25)) (by simp)
        have hor8 := hor7.alloc (Obj.cells #[.int .i64 p.1, .int .u32 (p.2.toNat : Int)] 25)
        have hrng8 := hrng7.only ((Only.refl [] w7).alloc (Obj.cells #[.int .i64 p.1, .int .u32 (p.2.toNat : Int)] 25)) (by simp) (by simp)
        generalize (w7.alloc (Obj.cells #[.int .i64 p.1, .int .u32 (p.2.toNat : Int)] 25)) = w8 at *
        clear hent hD7 hor7 hrng7 ho7 hDr hor
        obtain ⟨w9, hrun9, hD9, ho9, hs9⟩ := (hD8.only (Only.refl [] w8).drew (by simp)).setBend k p hpb
        rw [bendV] at hrun9
        obtain ⟨hgd8, hgb8, c8⟩ : gd < w8.heap.size ∧ gb < w8.heap.size ∧ w8.cell? ⟨gd, 8, none⟩ = some (.map (some gb)) := by
          obtain ⟨vF, vG, fm, fb, nb, h1, -, -, -, -, -, -, -, h9, -⟩ := hD8.at_
          exact ⟨h1.lt, h9.lt, h1.cell 8⟩
        have cb0 : w8.cell? ⟨b8, 0, none⟩ = some (.int .i64 p.1) := hB8.cell 0
        have cb1 : w8.cell? ⟨b8, 1, none⟩ = some (.int .u32 (p.2.toNat : Int)) := hB8.cell 1
        go_region
        go_roundw
        case rel => exact ⟨_, _, _, _, _, _, _, _, _, _, _, _, _, _, ⟨_, _, hrng8.only ((Only.refl [] w8).drew) (by simp) (by simp) |>.only ho9 (by simp; omega) (by simp; omega), hD9, (hor8.drew.next ho9 (by simp; omega)), hnx⟩, rfl⟩
        case measure =>
          rw [hrng.seen]
          rw [((hrng8.only ((Only.refl [] w8).drew) (by simp) (by simp)).only ho9 (by simp; omega) (by simp; omega)).seen]
          exact hlft
end Go.Proofs.Ytnpjlmeiaegdkaa
