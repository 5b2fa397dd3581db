/-
  PROVED: StorePlays: whatever the input, it returns true and leaves the input as it was. No condition.
-/
import Derived.Test.YtnpjlmeiaegdkaaPlays
import Derived.Test.YtnpjlmeiaegdkaaRow
import Derived.Test.YtnpjlmeiaegdkaaTellsP
import Derived.Deep.Slices
import Derived.Deep.Fields
namespace Go.Azu
open Go.RowKit Go.ChangeShapes Go.WideShapes Go.Deep

section
variable {H : Type} {enc : TypeId × Value → H} {P : Program} {w : World} {base : Nat} {spare : Nat → Bool} {held : Bool}
theorem open_slice_fields {t e : TypeId} {fs : Array Field} {fuel : Nat} {cs : List Value} {x : DataW H × List MemPlace} (ht : P.underlying t = some (.slice e)) (he : P.underlying e = some (.struct fs))
    (hone : oneCellFields P fs = true) (hC : P.cellsOf e = fs.size) (h : DataW.trod enc P w base spare held fuel t cs = some x) :
    (cs = [.slice none 0 0] ∧ x = (.nil, [])) ∨
    ∃ (a : Addr) (len cap m : Nat) (D : Nat → DataW H) (Pl : Nat → List MemPlace), cs = [.slice (some a) len cap] ∧ base ≤ a.block ∧ len ≤ cap ∧ cap ≤ maxLen ∧ m = (if spare a.block then cap else len) ∧
      x = (.slice ((List.range len).map D) ((List.range (m - len)).map fun j => D (len + j)), MemPlace.row a (m * fs.size) ++ (List.range m).flatMap Pl) ∧
      ∀ i, i < m → ∃ (ys : List (DataW H × List MemPlace)) (n : Nat), D i = .agg (ys.map (·.1)) ∧ Pl i = ys.flatMap (·.2) ∧ ys.length = fs.size ∧
        ∀ (j : Nat) (f : Field), fs[j]? = some f → ∃ (v : Value) (y : DataW H × List MemPlace), w.cell? (a.add (i * fs.size + j)) = some v ∧ ys[j]? = some y ∧ DataW.trod enc P w base spare held n f.type [v] = some y := by
  rcases open_slice ht h with h0 | ⟨a, len, cap, m, n, D, Pl, hcs, hb, hl, hm, hmm, hx, hi⟩
  · exact .inl h0
  · refine .inr ⟨a, len, cap, m, D, Pl, hcs, hb, hl, hm, hmm, by rw [hC] at hx; exact hx, fun i him => ?_⟩
    obtain ⟨cs', hc, ht'⟩ := hi i him
    rw [hC] at hc
    obtain ⟨ys, n', hn', hy, hlen, hyl, hf⟩ := DataW.trod_struct he ht'
    obtain ⟨_, hcl, hat⟩ := World.cells?_some hc
    simp only [Prod.mk.injEq] at hy
    refine ⟨ys, n', hy.1, hy.2, hyl, fun j f hj => ?_⟩
    obtain ⟨ho, hk⟩ := hone_of hone j f hj
    have hjl : j < fs.size := (Array.getElem?_eq_some_iff.1 hj).1
    have hcell := hat j hjl
    have hv : cs'[j]? = some (cs'[j]'(by omega)) := List.getElem?_eq_getElem (by omega)
    have h1 := hf j f hj
    rw [ho, hk] at h1
    have hone' : (cs'.drop j).take 1 = [cs'[j]'(by omega)] := by
      rw [List.drop_eq_getElem_cons (by omega)]
      rfl
    rw [hone'] at h1
    have hys : ys[j]? = some (ys[j]'(by omega)) := List.getElem?_eq_getElem (by omega)
    refine ⟨_, _, ?_, hys, h1.trans hys⟩
    rw [← Go.Deep.add_add, hcell, hv]
end

theorem exists_list {α : Type} {P : Nat → α → Prop} : ∀ n, (∀ i, i < n → ∃ p, P i p) → ∃ l : List α, l.length = n ∧ ∀ k p, l[k]? = some p → P k p
  | 0, _ => ⟨[], rfl, fun k p h => by simp at h⟩
  | n + 1, h => by
    obtain ⟨l, hl, hp⟩ := exists_list n (fun i hi => h i (by omega))
    obtain ⟨p, hpn⟩ := h n (by omega)
    refine ⟨l ++ [p], by simp [hl], fun k q hk => ?_⟩
    by_cases hkn : k < n
    · rw [List.getElem?_append_left (by omega)] at hk
      exact hp k q hk
    · have hk' : k = n := by
        have := (List.getElem?_eq_some_iff.1 hk).1
        simp [hl] at this
        omega
      subst hk'
      rw [List.getElem?_append_right (by omega), hl] at hk
      simp at hk
      subst hk
      exact hpn

theorem off_of_add (a : Addr) (n : Nat) : (a.add n).off = a.off + n := by
  unfold Addr.add
  split
  · subst ‹_›; rfl
  · rfl
theorem add_tail (a : Addr) (x d : Nat) (hd : 0 < d) : a.add (x + d) = ⟨(a.add x).block, (a.add x).off + d, none⟩ := by
  rw [block_of_add, off_of_add]
  unfold Addr.add
  rw [if_neg (by omega), Nat.add_assoc]
theorem cell_lt {w : World} {a : Addr} {v : Value} (h : w.cell? a = some v) : a.block < w.heap.size := by
  unfold World.cell? at h
  cases hh : w.heap[a.block]? with
  | none => rw [hh] at h; cases h
  | some o => exact (Array.getElem?_eq_some_iff.1 hh).1
end Go.Azu

namespace Go.Proofs.Ytnpjlmeiaegdkaa
open Go.RowKit Go.Azu Go.WideShapes Go.ChangeShapes

theorem open_bends {H : Type} {enc : TypeId × Value → H} {W : World} {a0 : Option Addr} {len cap fuel : Nat} {x : DataW H × List MemPlace} (h : DataW.trod enc Try.prog W 0 (fun _ => true) true fuel 40 [.slice a0 len cap] = some x) :
    ∃ bs, Bends W W.heap.size a0 len bs := by
  rcases open_slice_fields Try.underlying40 Try.underlying25 (by kernel_rfl) (by kernel_rfl) h with ⟨hcs, -⟩ | ⟨a, len', cap', m, D, Pl, hcs, -, hl, -, hm, -, hi⟩
  · simp at hcs
    obtain ⟨rfl, rfl, rfl⟩ := hcs
    exact ⟨[], rfl, fun k p h => by simp at h⟩
  · simp at hcs
    obtain ⟨rfl, rfl, rfl⟩ := hcs
    simp at hm
    obtain ⟨bs, hb1, hb2⟩ := exists_list (P := fun k (p : Int × BitVec 32) => a.block < W.heap.size ∧ (-9223372036854775808 ≤ p.1 ∧ p.1 ≤ 9223372036854775807) ∧ W.cell? (a.add (k * 2)) = some (.int .i64 p.1) ∧ W.cell? ⟨(a.add (k * 2)).block, (a.add (k * 2)).off + 1, none⟩ = some (.int .u32 (p.2.toNat : Int))) len (fun i hil => by
      obtain ⟨ys, n, -, -, -, hf⟩ := hi i (by omega)
      obtain ⟨v0, y0, hc0, -, ht0⟩ := hf 0 _ rfl
      obtain ⟨v1, y1, hc1, -, ht1⟩ := hf 1 _ rfl
      obtain ⟨q0, e0, -, w0⟩ := DataW.trod_int Try.underlying3 ht0
      obtain ⟨q1, e1, -, w1⟩ := DataW.trod_int Try.underlying23 ht1
      obtain rfl : v0 = .int .i64 q0 := by simpa using e0
      obtain rfl : v1 = .int .u32 q1 := by simpa using e1
      have g0 := bounds_i64 w0
      have g1 := bounds_u32 w1
      have hc0' : W.cell? (a.add (i * 2)) = some (.int .i64 q0) := hc0
      have hc1' : W.cell? (a.add (i * 2 + 1)) = some (.int .u32 q1) := hc1
      rw [add_tail a (i * 2) 1 (by omega)] at hc1'
      refine ⟨(q0, BitVec.ofNat 32 q1.toNat), ?_, g0, hc0', ?_⟩
      · have := cell_lt hc0'
        rwa [block_of_add] at this
      · rw [hc1']
        congr 2
        simp
        omega)
    exact ⟨bs, hb1, fun k p hp => ⟨a, rfl, hb2 k p hp⟩⟩

theorem open_acts {H : Type} {enc : TypeId × Value → H} {W : World} {a0 : Option Addr} {len cap fuel : Nat} {x : DataW H × List MemPlace} (h : DataW.trod enc Try.prog W 0 (fun _ => true) true fuel 41 [.slice a0 len cap] = some x) :
    ∃ aa, Acts W W.heap.size a0 len aa := by
  rcases open_slice_fields Try.underlying41 Try.underlying44 (by kernel_rfl) (by kernel_rfl) h with ⟨hcs, -⟩ | ⟨a, len', cap', m, D, Pl, hcs, -, hl, -, hm, -, hi⟩
  · simp at hcs
    obtain ⟨rfl, rfl, rfl⟩ := hcs
    exact ⟨[], rfl, fun k p h => by simp at h⟩
  · simp at hcs
    obtain ⟨rfl, rfl, rfl⟩ := hcs
    simp at hm
    obtain ⟨aa, hb1, hb2⟩ := exists_list (P := fun k (p : Act) => a.block < W.heap.size ∧ W.cell? (a.add (k * 4)) = some (.int .u8 p.kind.toNat) ∧ W.cell? ⟨(a.add (k * 4)).block, (a.add (k * 4)).off + 1, none⟩ = some (.int .u8 p.n.toNat) ∧
        W.cell? ⟨(a.add (k * 4)).block, (a.add (k * 4)).off + 2, none⟩ = some (.int .u8 p.seed.toNat) ∧ W.cell? ⟨(a.add (k * 4)).block, (a.add (k * 4)).off + 3, none⟩ = some (.bool p.long)) len (fun i hil => by
      obtain ⟨ys, n, -, -, -, hf⟩ := hi i (by omega)
      obtain ⟨v0, y0, hc0, -, ht0⟩ := hf 0 _ rfl
      obtain ⟨v1, y1, hc1, -, ht1⟩ := hf 1 _ rfl
      obtain ⟨v2, y2, hc2, -, ht2⟩ := hf 2 _ rfl
      obtain ⟨v3, y3, hc3, -, ht3⟩ := hf 3 _ rfl
      obtain ⟨q0, e0, -, w0⟩ := DataW.trod_int Try.underlying5 ht0
      obtain ⟨q1, e1, -, w1⟩ := DataW.trod_int Try.underlying5 ht1
      obtain ⟨q2, e2, -, w2⟩ := DataW.trod_int Try.underlying5 ht2
      obtain ⟨q3, e3, -⟩ := DataW.trod_bool Try.underlying4 ht3
      obtain rfl : v0 = .int .u8 q0 := by simpa using e0
      obtain rfl : v1 = .int .u8 q1 := by simpa using e1
      obtain rfl : v2 = .int .u8 q2 := by simpa using e2
      obtain rfl : v3 = .bool q3 := by simpa using e3
      have g0 := bounds_u8 w0
      have g1 := bounds_u8 w1
      have g2 := bounds_u8 w2
      have u8 : ∀ z : Int, 0 ≤ z ∧ z ≤ 255 → ((UInt8.ofNat z.toNat).toNat : Int) = z := fun z hz => by simp; omega
      have hc0' : W.cell? (a.add (i * 4)) = some (.int .u8 q0) := hc0
      have hc1' : W.cell? (a.add (i * 4 + 1)) = some (.int .u8 q1) := hc1
      have hc2' : W.cell? (a.add (i * 4 + 2)) = some (.int .u8 q2) := hc2
      have hc3' : W.cell? (a.add (i * 4 + 3)) = some (.bool q3) := hc3
      rw [add_tail a (i * 4) 1 (by omega)] at hc1'
      rw [add_tail a (i * 4) 2 (by omega)] at hc2'
      rw [add_tail a (i * 4) 3 (by omega)] at hc3'
      refine ⟨⟨UInt8.ofNat q0.toNat, UInt8.ofNat q1.toNat, UInt8.ofNat q2.toNat, q3⟩, ?_, by rw [u8 _ g0]; exact hc0', by rw [u8 _ g1]; exact hc1', by rw [u8 _ g2]; exact hc2', hc3'⟩
      have := cell_lt hc0'
      rwa [block_of_add] at this)
    exact ⟨aa, hb1, fun k p hp => ⟨a, rfl, hb2 k p hp⟩⟩

set_option maxRecDepth 10000 in
set_option maxHeartbeats 4000000 in
theorem plays_any (room : UInt8) (A1 A2 A3 A4 : Option Addr) (n1 n2 n3 n4 c1 c2 c3 c4 : Nat) (l1 l2 : List UInt8) (bs : List (Int × BitVec 32)) (aa : List Act) (w : World) (hr1 : Byts w w.heap.size A1 n1 l1) (hr2 : Byts w w.heap.size A2 n2 l2) (hr3 : Bends w w.heap.size A3 n3 bs) (hr4 : Acts w w.heap.size A4 n4 aa) :
    Calls Try.prog 4 #[.int .u8 room.toNat, .slice A1 n1 c1, .slice A2 n2 c2, .slice A3 n3 c3, .slice A4 n4 c4] w fun e w' => e = .returned (.bool true) ∧ Only [] w w' := by
  by_cases hbig : n1 ≤ 20 ∧ n2 ≤ 20 ∧ n3 ≤ 20 ∧ n4 ≤ 60
  · exact plays_walk room A1 A2 A3 A4 n1 n2 n3 n4 c1 c2 c3 c4 l1 l2 bs aa w hr1 hr2 hr3 hr4 hbig.1 hbig.2.1 hbig.2.2.1 hbig.2.2.2
  · have hmm := @run_makeMap Try.prog
    clear hr1 hr2 hr3 hr4
    go_enter Try.func4, Try.ntmps4
    go_wp2_with (go_at_call 5; refine (awake_any _).mono ?_; rintro e w1 ⟨rfl, ho1⟩)
    all_goals
      first
      | (go_ret; exact ⟨rfl, ho1⟩)
      | omega

set_option maxRecDepth 100000 in
theorem plays_lifted (os : Os) (started : os.Started) (H : Type) (enc : TypeId × Value → H) :
    ReturnsInHanded {} Try.checked os 4 .any (Rows.storePlaysSpec.pre6 enc Try.prog Try.f4 Rows.storePlaysRow.domain false) (Rows.storePlaysSpec.post enc Try.prog Try.f4 false true false false) := by
  refine returnsInHanded_of_change (C := Try.checked) own started (by kernel_rfl) Try.func4
    (ChangeSpec.witness6 (enc := enc) (C := Try.checked) false ⟨#[], #[.int .u8 0, .slice none 0 0, .slice none 0 0, .slice none 0 0, .slice none 0 0], []⟩ 8 (by kernel_rfl) (by kernel_rfl) (by kernel_rfl) (by kernel_rfl)) ?_
  intro W base args ds gs before hval0 hW hcnd0 _
  have hval : ∀ (j : Nat) t v, Try.f4.params[j]? = some t → args[j]? = some v → Value.okWide Try.prog W .any base t v := hval0
  have hW' := hW
  obtain ⟨p, q, hA0, hV, rfl, hfz, _⟩ := hW
  have hA : DataW.TrodAll enc Try.prog W 0 (fun _ => true) true Try.f4.params.toList args.toList ds p := hA0
  rw [Try.params4] at hA hval
  obtain ⟨v0, vs0, d0, ds0, p0, q0, hargs, rfl, rfl, h0, r0⟩ := trodAll_cons hA
  obtain ⟨v1, vs1, d1, ds1, p1, q1, rfl, rfl, rfl, h1, r1⟩ := trodAll_cons r0
  obtain ⟨v2, vs2, d2, ds2, p2, q2, rfl, rfl, rfl, h2, r2⟩ := trodAll_cons r1
  obtain ⟨v3, vs3, d3, ds3, p3, q3, rfl, rfl, rfl, h3, r3⟩ := trodAll_cons r2
  obtain ⟨v4, vs4, d4, ds4, p4, q4, rfl, rfl, rfl, h4, r4⟩ := trodAll_cons r3
  obtain ⟨rfl, rfl, rfl⟩ := trodAll_nil r4
  obtain rfl : args = #[v0, v1, v2, v3, v4] := by cases args; simp_all
  obtain ⟨rfl, rfl⟩ := trodVars_none hV
  obtain ⟨n0, rfl, rfl, rfl, wn0⟩ := open_int Try.underlying5 (hval 0 5 v0 rfl rfl) h0
  obtain ⟨a1, m1, c1, rfl⟩ := okWide_slice Try.underlying22 (hval 1 22 v1 rfl rfl)
  obtain ⟨a2, m2, c2, rfl⟩ := okWide_slice Try.underlying22 (hval 2 22 v2 rfl rfl)
  obtain ⟨a3, m3, c3, rfl⟩ := okWide_slice Try.underlying40 (hval 3 40 v3 rfl rfl)
  obtain ⟨a4, m4, c4, rfl⟩ := okWide_slice Try.underlying41 (hval 4 41 v4 rfl rfl)
  obtain ⟨f1, g1⟩ := h1
  obtain ⟨f2, g2⟩ := h2
  obtain ⟨f3, g3⟩ := h3
  obtain ⟨f4, g4⟩ := h4
  obtain ⟨l1, hr1, -⟩ := open_byts Try.underlying22 Try.underlying5 (by kernel_rfl) (by simpa [Value.cells] using g1) (fun b off hb => hfz b off (by simp; simp at hb; simp [hb]))
  obtain ⟨l2, hr2, -⟩ := open_byts Try.underlying22 Try.underlying5 (by kernel_rfl) (by simpa [Value.cells] using g2) (fun b off hb => hfz b off (by simp; simp at hb; simp [hb]))
  obtain ⟨bs, hr3⟩ := open_bends (by simpa [Value.cells] using g3)
  obtain ⟨aa, hr4⟩ := open_acts (by simpa [Value.cells] using g4)
  have hb0 := bounds_u8 wn0
  obtain ⟨room, hroom⟩ : ∃ room : UInt8, (room.toNat : Int) = n0 := ⟨UInt8.ofNat n0.toNat, by simp; omega⟩
  subst hroom
  refine (plays_any room a1 a2 a3 a4 m1 m2 m3 m4 c1 c2 c3 c4 l1 l2 bs aa W hr1 hr2 hr3 hr4).mono fun e W' ⟨he, ho⟩ => ?_
  subst he
  exact ⟨_, rfl, law_post laidOut rfl (by kernel_rfl) (by kernel_rfl) Try.underlying4 hW' rfl rfl rfl ho.to_below⟩

theorem storePlays : Rows.StorePlaysSaid :=
  OpenClaim.holds_of_wide 4 Try.f4 rfl rfl rfl rfl rfl rfl rfl ⟨rfl, rfl, rfl, rfl, rfl⟩ rfl rfl rfl rfl rfl (by kernel_rfl) Try.func4 (by kernel_rfl)
    (of_decide_eq_true (by kernel_rfl)) (by unfold Func.isWrapper; first | (rw [if_pos (by decide +kernel)]; kernel_rfl) | (rw [if_neg (by decide +kernel)]; exact ⟨rfl, rfl⟩))
    (fun os started H enc _ => plays_lifted os started H enc)
#print axioms storePlays
end Go.Proofs.Ytnpjlmeiaegdkaa
