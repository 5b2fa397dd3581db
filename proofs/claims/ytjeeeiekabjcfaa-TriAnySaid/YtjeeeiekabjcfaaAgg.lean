/-
  ARRAYS AND STRUCTS BY VALUE, AS LISTS OF CELLS: a part of a block loaded, a part stored, a struct handed back: no cell is looked at.
-/
import Derived.Test.YtjeeeiekabjcfaaWords
import Derived.WalkKit
import Derived.Laws.Rows
import Derived.Laws.Tables
import Derived.Laws.CopyRow
namespace Go.Azu
open Go.RowKit

/-- type ty is a struct or an array of n cells -/
structure ATy (P : Program) (ty : TypeId) (n : Nat) : Prop where
  agg : ∀ w, (isAgg ty).run P w = .ok true w
  size : ∀ w, (sizeOf ty).run P w = .ok n w

def ints (l : List Int) : List Value := l.map (Value.int .i64)
theorem ints_length (l : List Int) : (ints l).length = l.length := by simp [ints]
theorem ints_get (l : List Int) (k : Nat) (h : k < l.length) : (ints l)[k]? = some (.int .i64 (l.getD k 0)) := by
  simp [ints, h]
theorem ints_one (l : List Int) : ∀ u ∈ ints l, u.oneCell' = true := by
  intro u hu
  obtain ⟨c, _, rfl⟩ := List.mem_map.1 hu
  rfl
theorem ints_append (l m : List Int) : ints (l ++ m) = ints l ++ ints m := by simp [ints]
theorem ints_drop (l : List Int) (k : Nat) : (ints l).drop k = ints (l.drop k) := by simp [ints]
theorem ints_take (l : List Int) (k : Nat) : (ints l).take k = ints (l.take k) := by simp [ints]
theorem ints_set (l : List Int) (k : Nat) (v : Int) : (ints l).set k (.int .i64 v) = ints (l.set k v) := by simp [ints, List.map_set]

/-- n cells, told by their places -/
def tab (n : Nat) (F : Nat → Value) : List Value := (List.range n).map F
theorem tab_length (n : Nat) (F : Nat → Value) : (tab n F).length = n := by simp [tab]
theorem tab_get {n : Nat} (F : Nat → Value) {k : Nat} (h : k < n) : (tab n F)[k]? = some (F k) := by simp [tab, h]
theorem tab_congr {n : Nat} {F G : Nat → Value} (h : ∀ k, k < n → F k = G k) : tab n F = tab n G := List.map_congr_left fun k hk => h k (List.mem_range.1 hk)
theorem tab_set (n : Nat) (F : Nat → Value) (k : Nat) (v : Value) : (tab n F).set k v = tab n (fun j => if j = k then v else F j) := by
  apply List.ext_getElem
  · simp [tab]
  · intro i h1 h2
    simp only [tab, List.getElem_set, List.getElem_map, List.getElem_range]
    by_cases h : k = i
    · subst h; simp
    · rw [if_neg h, if_neg (fun e => h e.symm)]
theorem tab_part {n : Nat} (F : Nat → Value) {off m : Nat} (h : off + m ≤ n) : ((tab n F).drop off).take m = tab m (fun j => F (off + j)) := by
  apply List.ext_getElem
  · simp [tab]; omega
  · intro i h1 h2
    simp [tab]
theorem tab_one {n : Nat} {F : Nat → Value} (h : ∀ k, k < n → (F k).oneCell' = true) : ∀ u ∈ tab n F, u.oneCell' = true := by
  intro u hu
  obtain ⟨k, hk, rfl⟩ := List.mem_map.1 hu
  exact h k (List.mem_range.1 hk)

theorem add_zero (g j : Nat) : (⟨g, 0, none⟩ : Addr).add j = ⟨g, j, none⟩ := by
  unfold Addr.add
  split
  · subst ‹_›; rfl
  · simp
theorem add_at (g i j : Nat) : (⟨g, i, none⟩ : Addr).add j = ⟨g, i + j, none⟩ := by
  unfold Addr.add
  split
  · subst ‹_›; rfl
  · rfl

theorem Blk.new1 (w : World) (o : Obj) (t : TypeId) (cs : Array Value) : Blk ((w.alloc o).alloc (.cells cs t)) (w.heap.size + 1) t cs := by
  have := Blk.new (w.alloc o) t cs
  rwa [World.size_alloc] at this
theorem Blk.new2 (w : World) (o p : Obj) (t : TypeId) (cs : Array Value) : Blk (((w.alloc o).alloc p).alloc (.cells cs t)) (w.heap.size + 1 + 1) t cs := by
  have := Blk.new ((w.alloc o).alloc p) t cs
  rwa [World.size_alloc, World.size_alloc] at this

section
variable {P : Program} {w : World} {g off n : Nat} {t ty : TypeId} {xs vs : List Value}

theorem run_load_part (T : ATy P ty n) (hb : Blk w g t xs.toArray) (hvs : (xs.drop off).take n = vs) (hn : vs.length = n) : (loadVar ty ⟨g, off, none⟩).run P w = .ok (.agg vs.toArray) w := by
  have hl : (loadCells ⟨g, off, none⟩ vs.length).run P w = .ok vs.toArray w :=
    run_loadCells_list (P := P) w ⟨g, off, none⟩ vs (fun j v hv => by
      rw [add_at, hb.cell, List.getElem?_toArray, ← hv, ← hvs, List.getElem?_take, if_pos, List.getElem?_drop]
      have := (List.getElem?_eq_some_iff.1 hv).1
      omega)
  rw [hn] at hl
  simp [loadVar, Sem.run_bind, T.agg, T.size, hl]

def splice (xs : List Value) (off : Nat) (vs : List Value) : List Value := xs.take off ++ vs ++ xs.drop (off + vs.length)

theorem only_row {cs' : Array Value} : Only [g] w (w.setRow g cs') := by
  refine ⟨rfl, rfl, rfl, by simp, fun k hk hn => ?_⟩
  exact setRow_other w g k cs' (fun e => hn (by simp [e]))

theorem run_store_part (T : ATy P ty n) (hb : Blk w g t xs.toArray) (hn : vs.length = n) (hl : off + n ≤ xs.length) (h1 : ∀ u ∈ vs, u.oneCell' = true) :
    ∃ w', (storeVar ty ⟨g, off, none⟩ (.agg vs.toArray)).run P w = .ok () w' ∧ Blk w' g t (splice xs off vs).toArray ∧ Only [g] w w' := by
  refine ⟨w.setRow g (splice xs off vs).toArray, ?_, ?_, only_row⟩
  · have h := run_storeCells_at (P := P) g off t vs 0 xs.toArray w hb (by simp; omega) h1
    simp only [Nat.add_zero] at h
    have hs : (Value.agg vs.toArray).cells.size = n := by simp [Value.cells, hn]
    simp only [storeVar, Sem.run_bind, T.size, Result.andThen_ok, hs, ne_eq, not_true_eq_false, if_false]
    show (storeCells ⟨g, off, none⟩ vs.toArray.toList 0).run P w = _
    rw [List.toList_toArray, h]
    rfl
  · exact setRow_heap w g xs.toArray _ t (0, 0) hb

theorem wl_load {ops : Array Oper} {rest : List Oper} {a : Act} {Q : Exit → Act → World → Prop} {dst : Option Tmp} {type : TypeId} {pos : String} {after : Array Edge} {x : Operand} (T : ATy P ty n) (hb : Blk w g t xs.toArray)
    (hx : a.eval x = .pointer (some ⟨g, off, none⟩)) (hvs : (xs.drop off).take n = vs) (hn : vs.length = n)
    (h : wpList P ops Q rest (a.put dst (.agg vs.toArray)) w) : wpList P ops Q (⟨dst, .load ty x, type, pos, after, none⟩ :: rest) a w :=
  wpList_plain rfl fun _ hK => by
    unfold Oper.wp execOp
    simp only [hx, Instr.loadAt, Instr.sureAddr, Sem.run_bind, Sem.run_pure, Result.andThen_ok, run_load_part T hb hvs hn]
    exact hK _ _ h

/-- the whole block -/
theorem wl_loadw {ops : Array Oper} {rest : List Oper} {a : Act} {Q : Exit → Act → World → Prop} {dst : Option Tmp} {type : TypeId} {pos : String} {after : Array Edge} {x : Operand} (T : ATy P ty n) (hb : Blk w g t xs.toArray)
    (hx : a.eval x = .pointer (some ⟨g, 0, none⟩)) (hn : xs.length = n)
    (h : wpList P ops Q rest (a.put dst (.agg xs.toArray)) w) : wpList P ops Q (⟨dst, .load ty x, type, pos, after, none⟩ :: rest) a w :=
  wl_load T hb hx (by simp [← hn]) hn h

theorem splice_all {xs vs : List Value} (h : vs.length = xs.length) : splice xs 0 vs = vs := by
  unfold splice
  rw [List.drop_eq_nil_of_le (by omega)]
  simp

theorem wl_store {ops : Array Oper} {rest : List Oper} {a : Act} {Q : Exit → Act → World → Prop} {dst : Option Tmp} {type : TypeId} {pos : String} {after : Array Edge} {x y : Operand} (T : ATy P ty n) (hb : Blk w g t xs.toArray)
    (hx : a.eval x = .pointer (some ⟨g, off, none⟩)) (hy : a.eval y = .agg vs.toArray) (hn : vs.length = n) (hl : off + n ≤ xs.length) (h1 : ∀ u ∈ vs, u.oneCell' = true)
    (h : ∀ w', Blk w' g t (splice xs off vs).toArray → Only [g] w w' → wpList P ops Q rest (a.put dst undef) w') : wpList P ops Q (⟨dst, .store ty x y, type, pos, after, none⟩ :: rest) a w :=
  wpList_plain rfl fun _ hK => by
    obtain ⟨w', hr, h2, h3⟩ := run_store_part T hb hn hl h1
    unfold Oper.wp execOp
    simp only [hx, hy, Instr.storeAt, Instr.sureAddr, Sem.run_bind, Sem.run_pure, Result.andThen_ok, hr]
    exact hK _ _ (h w' h2 h3)

theorem wl_storew {ops : Array Oper} {rest : List Oper} {a : Act} {Q : Exit → Act → World → Prop} {dst : Option Tmp} {type : TypeId} {pos : String} {after : Array Edge} {x y : Operand} (T : ATy P ty n) (hb : Blk w g t xs.toArray)
    (hx : a.eval x = .pointer (some ⟨g, 0, none⟩)) (hy : a.eval y = .agg vs.toArray) (hn : vs.length = n) (hl : xs.length = n) (h1 : ∀ u ∈ vs, u.oneCell' = true)
    (h : ∀ w', Blk w' g t vs.toArray → Only [g] w w' → wpList P ops Q rest (a.put dst undef) w') : wpList P ops Q (⟨dst, .store ty x y, type, pos, after, none⟩ :: rest) a w :=
  wl_store T hb hx hy hn (by omega) h1 fun w' h2 h3 => h w' (by rwa [splice_all (by omega)] at h2) h3

/-- an element of an array by value: one cell -/
theorem wl_index {ops : Array Oper} {rest : List Oper} {a : Act} {Q : Exit → Act → World → Prop} {dst : Option Tmp} {type : TypeId} {pos : String} {after : Array Edge} {x y : Operand} {len e : Nat} {kk : IntKind} {i : Int} {v : Value}
    (hu : P.underlying ty = some (.array len e)) (he : (∀ w, (isAgg e).run P w = .ok false w) ∧ (∀ w, (sizeOf e).run P w = .ok 1 w))
    (hx : a.eval x = .agg xs.toArray) (hy : a.eval y = .int kk i) (h0 : 0 ≤ i) (hl : i < len) (hv : xs[i.toNat]? = some v)
    (h : wpList P ops Q rest (a.put dst v) w) : wpList P ops Q (⟨dst, .index ty x y, type, pos, after, none⟩ :: rest) a w :=
  wpList_plain rfl fun _ hK => by
    have hr : (Instr.index ty (.agg xs.toArray) (.int kk i)).run P w = .ok v w := by
      simp [Instr.index, asIntOf, Sem.run_bind, run_underlying hu, h0, hl, part, he.1, he.2, hv]
    unfold Oper.wp execOp
    simp only [hx, hy, hr, Sem.run_bind, Sem.run_pure, Result.andThen_ok]
    exact hK _ _ h
/-- an element of an array by value: a struct, an array -/
theorem wl_indexN {ops : Array Oper} {rest : List Oper} {a : Act} {Q : Exit → Act → World → Prop} {dst : Option Tmp} {type : TypeId} {pos : String} {after : Array Edge} {x y : Operand} {len e : Nat} {kk : IntKind} {i : Int}
    (hu : P.underlying ty = some (.array len e)) (he : ATy P e n)
    (hx : a.eval x = .agg xs.toArray) (hy : a.eval y = .int kk i) (h0 : 0 ≤ i) (hl : i < len) (hv : (xs.drop (i.toNat * n)).take n = vs)
    (h : wpList P ops Q rest (a.put dst (.agg vs.toArray)) w) : wpList P ops Q (⟨dst, .index ty x y, type, pos, after, none⟩ :: rest) a w :=
  wpList_plain rfl fun _ hK => by
    have hr : (Instr.index ty (.agg xs.toArray) (.int kk i)).run P w = .ok (.agg vs.toArray) w := by
      simp [Instr.index, asIntOf, Sem.run_bind, run_underlying hu, h0, hl, part, he.agg, he.size, hv]
    unfold Oper.wp execOp
    simp only [hx, hy, hr, Sem.run_bind, Sem.run_pure, Result.andThen_ok]
    exact hK _ _ h

/-- copy of n cells out of one block into another -/
theorem wl_copy {ops : Array Oper} {rest : List Oper} {a : Act} {Q : Exit → Act → World → Prop} {dst : Option Tmp} {type s1 s2 e : TypeId} {pos : String} {after : Array Edge} {x y : Operand} {g2 off2 c1 c2 : Nat} {t2 : TypeId} {ys : List Value}
    (hu : P.underlying s1 = some (.slice e)) (he : (P.info? e).map (·.size) = some 1) (hb : Blk w g t xs.toArray) (hb2 : Blk w g2 t2 ys.toArray)
    (hx : a.eval x = .slice (some ⟨g, off, none⟩) n c1) (hy : a.eval y = .slice (some ⟨g2, off2, none⟩) n c2) (hvs : (ys.drop off2).take n = vs) (hn : vs.length = n) (hl : off + n ≤ xs.length) (h1 : ∀ u ∈ vs, u.oneCell' = true)
    (h : ∀ w', Blk w' g t (splice xs off vs).toArray → Only [g] w w' → wpList P ops Q rest (a.put dst (.int .i64 n)) w') :
    wpList P ops Q (⟨dst, .call { callee := .builtin .copy, args := #[x, y], argTypes := #[s1, s2] }, type, pos, after, none⟩ :: rest) a w :=
  wpList_plain rfl fun _ hK => by
    have hc : ∀ j v, vs[j]? = some v → w.cell? ((⟨g2, off2, none⟩ : Addr).add j) = some v := fun j v hv => by
      rw [add_at, hb2.cell, List.getElem?_toArray, ← hv, ← hvs, List.getElem?_take, if_pos, List.getElem?_drop]
      have := (List.getElem?_eq_some_iff.1 hv).1
      omega
    have hr := run_copy_row (P := P) w s1 s2 type e g off n c1 ⟨g2, off2, none⟩ n c2 xs.toArray t vs hu he hb (by rw [hn]; exact (Nat.min_self n).symm) hc (by simp; omega) h1
    unfold Oper.wp execOp
    simp only [resolve, invoke, builtin, Sem.run_bind, Sem.run_pure, Result.andThen_ok, List.map_toArray, List.map_cons, List.map_nil, hx, hy, hr]
    have h2 := h (w.setRow g (splice xs off vs).toArray) (setRow_heap w g xs.toArray _ t (0, 0) hb) only_row
    rw [← hn] at h2
    exact hK _ _ h2

theorem results_agg {fn : Func} {p : Tmp} (T : ATy P ty n) (h : fn.results = #[.cell p ty]) (tmps : Array Value) (hp : tmps[p]?.getD undef = .pointer (some ⟨g, 0, none⟩)) (hb : Blk w g t xs.toArray) (hn : xs.length = n) :
    (results fn tmps).run P w = .ok (.agg xs.toArray) w := by
  have := run_load_part (off := 0) (vs := xs) T hb (by simp [← hn]) hn
  simp [results, h, hp, asAddr, this]
theorem results_agg2 {fn : Func} {p u : Tmp} (T : ATy P ty n) (h : fn.results = #[.cell p ty, .tmp u]) (tmps : Array Value) (hp : tmps[p]?.getD undef = .pointer (some ⟨g, 0, none⟩)) (hb : Blk w g t xs.toArray) (hn : xs.length = n) :
    (results fn tmps).run P w = .ok (.tuple #[.agg xs.toArray, tmps.getD u undef]) w := by
  have := run_load_part (off := 0) (vs := xs) T hb (by simp [← hn]) hn
  simp [results, h, hp, asAddr, this]
end
end Go.Azu
