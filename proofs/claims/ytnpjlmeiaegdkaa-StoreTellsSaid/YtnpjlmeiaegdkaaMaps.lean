/-
  MAPS WITH int KEYS, read as functions that may have no value, of how many keys: look up, store, delete, len.
-/
import Derived.Test.YtnpjlmeiaegdkaaAppend
import Derived.Maps.RangeWalk
import Derived.Maps.OwnSet
import Derived.WalkKit
namespace Go.Azu
open Go.RowKit Go.MapKept

/-- block g is a map of n entries that holds f -/
def MapIs (w : World) (g : Nat) (f : Int → Option Value) (n : Nat) : Prop :=
  ∃ es clock, w.heap[g]? = some (.map es clock) ∧ Stamped es clock ∧ (∀ x ∈ es.toList, IsKey (.int .i64) x.key) ∧ es.size = n ∧
    (∀ k v, f k = some v ↔ ∃ e ∈ es.toList, e.key = .int .i64 k ∧ e.val = v)

def Upd {α : Type} (f : Int → Option α) (k : Int) (v : Option α) : Int → Option α := fun j => if j = k then v else f j

section
variable {w w' : World} {g n : Nat} {f : Int → Option Value}

theorem MapIs.lt (h : MapIs w g f n) : g < w.heap.size := by
  obtain ⟨es, clock, hb, _⟩ := h
  exact (Array.getElem?_eq_some_iff.1 hb).1
theorem MapIs.same (h : MapIs w g f n) (hs : w'.heap[g]? = w.heap[g]?) : MapIs w' g f n := by
  obtain ⟨es, clock, hb, r⟩ := h
  exact ⟨es, clock, hs.trans hb, r⟩
theorem MapIs.only {S : List Nat} (h : MapIs w g f n) (hb : Only S w w') (hg : g ∉ S) : MapIs w' g f n := h.same (hb.block g h.lt hg)
theorem MapIs.alloc (h : MapIs w g f n) (o : Obj) : MapIs (w.alloc o) g f n := h.same (Below.heap_alloc w o g h.lt)
theorem MapIs.drew (h : MapIs w g f n) : MapIs w.drew g f n := h
theorem MapIs.setCell (h : MapIs w g f n) {p : Addr} (hp : g ≠ p.block) (u : Value) : MapIs (w.setCell p u) g f n := h.same (Below.heap_setCell w p u g hp)
theorem MapIs.made (w : World) : MapIs (w.alloc (.map #[] 0)) w.heap.size (fun _ => none) 0 :=
  ⟨#[], 0, heap_alloc_new w _, stamped_empty 0, by simp, rfl, by simp⟩
theorem MapIs.ne_blk {t : TypeId} {cs : Array Value} {g' : Nat} (h : MapIs w g f n) (hb : Blk w g' t cs) : g ≠ g' := by
  rintro rfl
  obtain ⟨es, clock, h1, _⟩ := h
  unfold Blk at hb
  rw [hb] at h1; cases h1
theorem MapIs.ne_own {base : Nat} {e : TypeId} {size m : Nat} {v : Value} {xs : List Value} (h : MapIs w g f n) (ho : w.ownsRow base e size v m xs) : v.ownBlock ≠ some g := by
  rcases ho.2 with ⟨rfl, _⟩ | ⟨g', cap, cur, rfl, _, hh, _⟩
  · simp [Value.ownBlock]
  · intro he
    have : g' = g := by simpa [Value.ownBlock] using he
    subst this
    obtain ⟨es, clock, h1, _⟩ := h
    rw [hh] at h1; cases h1
theorem MapIs.size_ (h : MapIs w g f n) : ∃ es clock, w.heap[g]? = some (.map es clock) ∧ es.size = n := by
  obtain ⟨es, clock, h1, _, _, h2, _⟩ := h
  exact ⟨es, clock, h1, h2⟩

variable {P : Program} {mt kt et : TypeId}

theorem MapIs.len {es : Array MapEntry} {clock : Nat} (hm : P.underlying mt = some (.map kt et)) (ty : TypeId) (hn : es.size = n) (W : World) (hb : W.heap[g]? = some (.map es clock)) :
    (Builtin.len_ #[mt] ty #[.map (some g)]).run P W = .ok (.int .i64 n) W := by
  subst hn
  simp [Builtin.len_, run_underlying hm, MapKept.run_getObj_map hb, goInt]

/-- where the search ends -/
theorem MapIs.find {es : Array MapEntry} (hks : ∀ x ∈ es.toList, IsKey (.int .i64) x.key) (hf : ∀ k v, f k = some v ↔ ∃ e ∈ es.toList, e.key = .int .i64 k ∧ e.val = v) (k : Int) :
    (Instr.findNow (.int .i64) (.int .i64 k) es.toList 0 = some none ∧ f k = none ∧ ∀ x ∈ es.toList, x.key ≠ .int .i64 k) ∨
    ∃ j e, Instr.findNow (.int .i64) (.int .i64 k) es.toList 0 = some (some (j, e.val)) ∧ es[j]? = some e ∧ e.key = .int .i64 k ∧ f k = some e.val := by
  rcases findNow_spec (d := .int .i64) (k := .int .i64 k) rfl es.toList 0 hks with ⟨h1, h2⟩ | ⟨j, e, h1, h2, h3⟩
  · refine .inl ⟨h1, ?_, h2⟩
    cases hk : f k with
    | none => rfl
    | some v =>
      obtain ⟨e, he, hek, _⟩ := (hf k v).1 hk
      exact absurd hek (h2 e he)
  · refine .inr ⟨j, e, by simpa using h1, by simpa using h2, h3, (hf k e.val).2 ⟨e, List.mem_of_getElem? h2, h3, rfl⟩⟩

theorem MapIs.lookup (h : MapIs w g f n) (hm : P.underlying mt = some (.map kt et)) (hd : P.underlying kt = some (.int .i64)) {z : Value} (hz : (zeroValue et).run P w = .ok z w) (k : Int) :
    (Instr.lookup mt (.map (some g)) (.int .i64 k) true).run P w = .ok (.tuple #[(f k).getD z, .bool (f k).isSome]) w := by
  obtain ⟨es, clock, hb, hs, hks, _, hf⟩ := h
  have hk : IsKey (.int .i64) (.int .i64 k) := rfl
  rcases MapIs.find hks hf k with ⟨h1, h2, _⟩ | ⟨j, e, h1, _, _, h2⟩
  · simp [Instr.lookup, run_underlying hm, MapKept.run_getObj_map hb, run_checkKey hd hk, run_findKey hd h1, Result.andThen, h2, hz]
  · simp [Instr.lookup, run_underlying hm, MapKept.run_getObj_map hb, run_checkKey hd hk, run_findKey hd h1, Result.andThen, h2]

theorem MapIs.lookup1 (h : MapIs w g f n) (hm : P.underlying mt = some (.map kt et)) (hd : P.underlying kt = some (.int .i64)) {z : Value} (hz : (zeroValue et).run P w = .ok z w) (k : Int) :
    (Instr.lookup mt (.map (some g)) (.int .i64 k) false).run P w = .ok ((f k).getD z) w := by
  obtain ⟨es, clock, hb, hs, hks, _, hf⟩ := h
  have hk : IsKey (.int .i64) (.int .i64 k) := rfl
  rcases MapIs.find hks hf k with ⟨h1, h2, _⟩ | ⟨j, e, h1, _, _, h2⟩
  · simp [Instr.lookup, run_underlying hm, MapKept.run_getObj_map hb, run_checkKey hd hk, run_findKey hd h1, Result.andThen, h2, hz]
  · simp [Instr.lookup, run_underlying hm, MapKept.run_getObj_map hb, run_checkKey hd hk, run_findKey hd h1, Result.andThen, h2]

theorem only_setBlock {r : Nat} (o' : Obj) (w : World) : Only [r] w { w with heap := w.heap.setIfInBounds r o' } :=
  ⟨rfl, rfl, rfl, by simp, fun k _ hn => by
    have : r ≠ k := fun e => hn (by simp [e])
    simp [this]⟩

theorem MapIs.update (h : MapIs w g f n) (hm : P.underlying mt = some (.map kt et)) (hd : P.underlying kt = some (.int .i64)) (k : Int) (v : Value) :
    ∃ w', (Instr.mapUpdate mt (.map (some g)) (.int .i64 k) v).run P w = .ok () w' ∧ MapIs w' g (Upd f k (some v)) (if (f k).isSome then n else n + 1) ∧ Only [g] w w' ∧ w'.heap.size = w.heap.size := by
  obtain ⟨es, clock, hb, hs, hks, hn, hf⟩ := h
  have hk : IsKey (.int .i64) (.int .i64 k) := rfl
  rcases MapIs.find hks hf k with ⟨h1, h2, h3⟩ | ⟨j, e, h1, hj, hek, h2⟩
  · refine ⟨{ w with heap := w.heap.setIfInBounds g (.map (es.push ⟨.int .i64 k, v, clock⟩) (clock + 1)) }, ?_, ?_, only_setBlock _ w, by simp⟩
    · simp [Instr.mapUpdate, run_underlying hm, MapKept.run_getObj_map hb, run_checkKey hd hk, run_findKey hd h1, MapKept.run_setObj_map _ hb, Result.andThen]
    · refine ⟨_, _, (heap_set hb).1, stamped_push hs h3, ?_, by simp [hn, h2], ?_⟩
      · intro x hx
        simp only [Array.toList_push, List.mem_append, List.mem_singleton] at hx
        rcases hx with hx | rfl
        · exact hks x hx
        · exact hk
      · intro k' v'
        simp only [Upd, Array.toList_push, List.mem_append, List.mem_singleton]
        by_cases hkk : k' = k
        · subst hkk
          simp only [if_pos]
          constructor
          · intro e; injection e with e; exact ⟨_, .inr rfl, rfl, e⟩
          · rintro ⟨e, he | rfl, hek, hv⟩
            · exact absurd hek (h3 e he)
            · simpa using hv
        · rw [if_neg hkk, hf]
          constructor
          · rintro ⟨e, he, hr⟩; exact ⟨e, .inl he, hr⟩
          · rintro ⟨e, he | rfl, hek, hv⟩
            · exact ⟨e, he, hek, hv⟩
            · simp at hek; exact absurd hek.symm hkk
  · have hmem : e ∈ es.toList := List.mem_of_getElem? (by simpa using hj)
    have hjlt : j < es.size := (Array.getElem?_eq_some_iff.1 hj).1
    refine ⟨{ w with heap := w.heap.setIfInBounds g (.map (es.modify j fun e => { e with key := .int .i64 k, val := v }) clock) }, ?_, ?_, only_setBlock _ w, by simp⟩
    · simp [Instr.mapUpdate, run_underlying hm, MapKept.run_getObj_map hb, run_checkKey hd hk, run_findKey hd h1, hj, hek, run_keyThatStays hk, MapKept.run_setObj_map _ hb, Result.andThen]
    · have hkey : ∀ e', es[j]? = some e' → ({ e' with key := .int .i64 k, val := v } : MapEntry).key = e'.key := fun e' he' => by rw [hj] at he'; cases he'; exact hek.symm
      refine ⟨_, _, (heap_set hb).1, stamped_modify hs _ _ (fun _ _ => rfl) (fun e' _ he' => hkey e' he'), isKey_modify hks _ _ hkey, by simp [hn, h2], ?_⟩
      have hnd := ((stamped_iff _ _).1 hs).2.2
      have hgm : ∀ i : Nat, (es.modify j fun e => { e with key := .int .i64 k, val := v })[i]? = if j = i then (es[i]?).map (fun e => { e with key := .int .i64 k, val := v }) else es[i]? := fun i => by
        rw [Array.getElem?_modify]
      have huniq : ∀ (i : Nat) (x : MapEntry), es[i]? = some x → x.key = .int .i64 k → i = j := by
        intro i x hx hxk
        rw [List.pairwise_iff_getElem] at hnd
        have hi : i < es.size := (Array.getElem?_eq_some_iff.1 hx).1
        rcases Nat.lt_trichotomy i j with h | h | h
        · have := hnd i j (by simpa using hi) (by simpa using hjlt) h
          simp only [Array.getElem_toList] at this
          rw [(Array.getElem?_eq_some_iff.1 hx).2, (Array.getElem?_eq_some_iff.1 hj).2, hxk, hek] at this
          exact absurd rfl this
        · exact h
        · have := hnd j i (by simpa using hjlt) (by simpa using hi) h
          simp only [Array.getElem_toList] at this
          rw [(Array.getElem?_eq_some_iff.1 hx).2, (Array.getElem?_eq_some_iff.1 hj).2, hxk, hek] at this
          exact absurd rfl this
      intro k' v'
      simp only [Upd]
      by_cases hkk : k' = k
      · subst hkk
        rw [if_pos rfl]
        constructor
        · intro h; injection h with h; subst h
          refine ⟨{ e with key := .int .i64 k', val := v }, ?_, rfl, rfl⟩
          rw [Array.mem_toList_iff, Array.mem_iff_getElem?]
          exact ⟨j, by rw [hgm, if_pos rfl, hj]; rfl⟩
        · rintro ⟨x, hx, hxk, hxv⟩
          rw [Array.mem_toList_iff, Array.mem_iff_getElem?] at hx
          obtain ⟨i, hi⟩ := hx
          rw [hgm] at hi
          by_cases hij : j = i
          · subst hij
            rw [if_pos rfl, hj] at hi
            injection hi with hi; subst hi
            rw [← hxv]
          · rw [if_neg hij] at hi
            exact absurd (huniq i x hi hxk).symm hij
      · rw [if_neg hkk, hf]
        constructor
        · rintro ⟨x, hx, hxk, hxv⟩
          refine ⟨x, ?_, hxk, hxv⟩
          rw [Array.mem_toList_iff, Array.mem_iff_getElem?] at hx ⊢
          obtain ⟨i, hi⟩ := hx
          refine ⟨i, ?_⟩
          rw [hgm, if_neg (fun hij => ?_)]
          · exact hi
          · subst hij
            rw [hj] at hi; injection hi with hi; subst hi
            rw [hek] at hxk; injection hxk with _ hxk; exact hkk hxk.symm
        · rintro ⟨x, hx, hxk, hxv⟩
          rw [Array.mem_toList_iff, Array.mem_iff_getElem?] at hx
          obtain ⟨i, hi⟩ := hx
          rw [hgm] at hi
          by_cases hij : j = i
          · subst hij
            rw [if_pos rfl, hj] at hi
            injection hi with hi; subst hi
            simp at hxk; exact absurd hxk.symm hkk
          · rw [if_neg hij] at hi
            exact ⟨x, List.mem_of_getElem? (by simpa using hi), hxk, hxv⟩

theorem MapIs.delete (h : MapIs w g f n) (hm : P.underlying mt = some (.map kt et)) (hd : P.underlying kt = some (.int .i64)) (ty : TypeId) (k : Int) :
    ∃ w', (Builtin.delete_ #[mt, kt] ty #[.map (some g), .int .i64 k]).run P w = .ok (.tuple #[]) w' ∧ MapIs w' g (Upd f k none) (if (f k).isSome then n - 1 else n) ∧ Only [g] w w' ∧ w'.heap.size = w.heap.size := by
  obtain ⟨es, clock, hb, hs, hks, hn, hf⟩ := h
  have hk : IsKey (.int .i64) (.int .i64 k) := rfl
  rcases MapIs.find hks hf k with ⟨h1, h2, h3⟩ | ⟨j, e, h1, hj, hek, h2⟩
  · refine ⟨{ w with heap := w.heap.setIfInBounds g (.map es clock) }, ?_, ?_, only_setBlock _ w, by simp⟩
    · simp [Builtin.delete_, run_underlying hm, MapKept.run_getObj_map hb, run_checkKey hd hk, run_findKey hd h1, MapKept.run_setObj_map _ hb, Result.andThen]
    · refine ⟨_, _, (heap_set hb).1, hs, hks, by simp [hn, h2], ?_⟩
      intro k' v'
      simp only [Upd]
      by_cases hkk : k' = k
      · subst hkk
        rw [if_pos rfl, ← h2]; exact hf _ _
      · rw [if_neg hkk]; exact hf _ _
  · have hjlt : j < es.size := (Array.getElem?_eq_some_iff.1 hj).1
    have hsub : (es.eraseIdxIfInBounds j).toList.Sublist es.toList := by
      unfold Array.eraseIdxIfInBounds
      rw [dif_pos hjlt]; simp only [Array.toList_eraseIdx]; exact List.eraseIdx_sublist _ _
    have hge : (es.eraseIdxIfInBounds j).toList = es.toList.eraseIdx j := by
      unfold Array.eraseIdxIfInBounds
      rw [dif_pos hjlt]; simp only [Array.toList_eraseIdx]
    refine ⟨{ w with heap := w.heap.setIfInBounds g (.map (es.eraseIdxIfInBounds j) clock) }, ?_, ?_, only_setBlock _ w, by simp⟩
    · simp [Builtin.delete_, run_underlying hm, MapKept.run_getObj_map hb, run_checkKey hd hk, run_findKey hd h1, MapKept.run_setObj_map _ hb, Result.andThen]
    · refine ⟨_, _, (heap_set hb).1, stamped_erase hs _, fun x hx => hks x (hsub.subset hx), ?_, ?_⟩
      · have : (es.eraseIdxIfInBounds j).size = es.size - 1 := by
          rw [← Array.length_toList, hge, List.length_eraseIdx]; simp [hjlt]
        simp [this, hn, h2]
      · have hnd := ((stamped_iff _ _).1 hs).2.2
        intro k' v'
        simp only [Upd]
        rw [hge]
        have hmem : ∀ x : MapEntry, x ∈ es.toList.eraseIdx j ↔ x ∈ es.toList ∧ x.key ≠ .int .i64 k := by
          intro x
          rw [List.pairwise_iff_getElem] at hnd
          constructor
          · intro hx
            refine ⟨(List.eraseIdx_sublist _ _).subset hx, fun hxk => ?_⟩
            obtain ⟨i, hi, hi1, rfl⟩ := List.mem_eraseIdx_iff_getElem.1 hx
            have hjl : j < es.toList.length := by simpa using hjlt
            have hjv : es.toList[j].key = .int .i64 k := by
              have : es.toList[j] = e := by simp only [Array.getElem_toList]; exact (Array.getElem?_eq_some_iff.1 hj).2
              rw [this]; exact hek
            rcases Nat.lt_trichotomy i j with h | h | h
            · exact hnd i j _ hjl h (hxk.trans hjv.symm)
            · exact hi1 h
            · exact hnd j i hjl _ h (hjv.trans hxk.symm)
          · rintro ⟨hx, hxk⟩
            obtain ⟨i, hi, rfl⟩ := List.getElem_of_mem hx
            refine List.mem_eraseIdx_iff_getElem.2 ⟨i, hi, ?_, rfl⟩
            rintro rfl
            apply hxk
            have : es.toList[i] = e := by simp only [Array.getElem_toList]; exact (Array.getElem?_eq_some_iff.1 hj).2
            rw [this]; exact hek
        by_cases hkk : k' = k
        · subst hkk
          rw [if_pos rfl]
          constructor
          · intro h; cases h
          · rintro ⟨x, hx, hxk, _⟩
            exact absurd hxk ((hmem x).1 hx).2
        · rw [if_neg hkk, hf]
          constructor
          · rintro ⟨x, hx, hxk, hxv⟩
            refine ⟨x, (hmem x).2 ⟨hx, fun hc => ?_⟩, hxk, hxv⟩
            rw [hc] at hxk; injection hxk with _ hxk; exact hkk hxk.symm
          · rintro ⟨x, hx, hxk, hxv⟩
            exact ⟨x, ((hmem x).1 hx).1, hxk, hxv⟩
end

section
variable {P : Program} {w : World} {mt kt et : TypeId} {ops : Array Oper} {rest : List Oper} {o : Oper} {a : Act} {Q : Exit → Act → World → Prop} {K : Act → World → Prop} {g n : Nat} {f : Int → Option Value}

/-- a map with int keys of this program -/
structure MTy (P : Program) (mt kt et : TypeId) (z : Value) : Prop where
  map : P.underlying mt = some (.map kt et)
  key : P.underlying kt = some (.int .i64)
  zero : ∀ w, (zeroValue et).run P w = .ok z w

theorem wp_lookup_m {z : Value} (T : MTy P mt kt et z) (m x : Operand) (k : Int) (hop : o.op = .lookup mt m x true) (h : MapIs w g f n) (ha : a.eval m = .map (some g)) (hx : a.eval x = .int .i64 k)
    (hk : K (a.put o.dst (.tuple #[(f k).getD z, .bool (f k).isSome])) w) : o.wp P a w K Q := by
  have hrun := h.lookup T.map T.key (T.zero w) k
  unfold Oper.wp
  simp [execOp, hop, ha, hx, hrun, Result.andThen]
  exact hk
theorem wpList_lookup_m {z : Value} (T : MTy P mt kt et z) (m x : Operand) (k : Int) (hg : o.guard = none) (hop : o.op = .lookup mt m x true) (h : MapIs w g f n) (ha : a.eval m = .map (some g)) (hx : a.eval x = .int .i64 k)
    (hk : wpList P ops Q rest (a.put o.dst (.tuple #[(f k).getD z, .bool (f k).isSome])) w) : wpList P ops Q (o :: rest) a w :=
  wpList_plain hg fun _ hK => wp_lookup_m T m x k hop h ha hx (hK _ _ hk)

theorem wp_update_m {z : Value} (T : MTy P mt kt et z) (m x v : Operand) (k : Int) (u : Value) (hop : o.op = .mapUpdate mt m x v) (h : MapIs w g f n) (ha : a.eval m = .map (some g)) (hx : a.eval x = .int .i64 k) (hv : a.eval v = u)
    (hk : ∀ w', MapIs w' g (Upd f k (some u)) (if (f k).isSome then n else n + 1) → Only [g] w w' → w'.heap.size = w.heap.size → K (a.put o.dst undef) w') : o.wp P a w K Q := by
  obtain ⟨w', hrun, r1, r2, r3⟩ := h.update T.map T.key k u
  unfold Oper.wp
  simp [execOp, hop, ha, hx, hv, hrun, Result.andThen]
  exact hk w' r1 r2 r3
theorem wpList_update_m {z : Value} (T : MTy P mt kt et z) (m x v : Operand) (k : Int) (u : Value) (hg : o.guard = none) (hop : o.op = .mapUpdate mt m x v) (h : MapIs w g f n) (ha : a.eval m = .map (some g)) (hx : a.eval x = .int .i64 k) (hv : a.eval v = u)
    (hk : ∀ w', MapIs w' g (Upd f k (some u)) (if (f k).isSome then n else n + 1) → Only [g] w w' → w'.heap.size = w.heap.size → wpList P ops Q rest (a.put o.dst undef) w') : wpList P ops Q (o :: rest) a w :=
  wpList_plain hg fun _ hK => wp_update_m T m x v k u hop h ha hx hv fun w' r1 r2 r3 => hK _ _ (hk w' r1 r2 r3)
theorem step_update_m {z : Value} {E : Prop} (T : MTy P mt kt et z) (m x v : Operand) (k : Int) (u : Value) (hg : o.guard = none) (hop : o.op = .mapUpdate mt m x v) (h : MapIs w g f n) (ha : a.eval m = .map (some g)) (hx : a.eval x = .int .i64 k) (hv : a.eval v = u)
    (hk : ∀ w', MapIs w' g (Upd f k (some u)) (if (f k).isSome then n else n + 1) → Only [g] w w' → w'.heap.size = w.heap.size → K (a.put o.dst undef) w') :
    if Region.wanted o (yielded ops a.tmps) = true then Oper.wp P o a w K Q else E := by
  rw [if_pos (by simp [Region.wanted, hg])]
  exact wp_update_m T m x v k u hop h ha hx hv hk

theorem wp_delete_m {z : Value} (T : MTy P mt kt et z) (m x : Operand) (k : Int) (hop : o.op = .call { callee := .builtin .delete, args := #[m, x], argTypes := #[mt, kt] }) (h : MapIs w g f n) (ha : a.eval m = .map (some g)) (hx : a.eval x = .int .i64 k)
    (hk : ∀ w', MapIs w' g (Upd f k none) (if (f k).isSome then n - 1 else n) → Only [g] w w' → w'.heap.size = w.heap.size → K (a.put o.dst (.tuple #[])) w') : o.wp P a w K Q := by
  obtain ⟨w', hrun, r1, r2, r3⟩ := h.delete T.map T.key o.type k
  unfold Oper.wp execOp
  simp only [hop, resolve, invoke, builtin, Sem.run_bind, Sem.run_pure, Result.andThen_ok, List.map_toArray, List.map_cons, List.map_nil, ha, hx, hrun]
  exact hk w' r1 r2 r3
theorem wpList_delete_m {z : Value} (T : MTy P mt kt et z) (m x : Operand) (k : Int) (hg : o.guard = none) (hop : o.op = .call { callee := .builtin .delete, args := #[m, x], argTypes := #[mt, kt] }) (h : MapIs w g f n) (ha : a.eval m = .map (some g)) (hx : a.eval x = .int .i64 k)
    (hk : ∀ w', MapIs w' g (Upd f k none) (if (f k).isSome then n - 1 else n) → Only [g] w w' → w'.heap.size = w.heap.size → wpList P ops Q rest (a.put o.dst (.tuple #[])) w') : wpList P ops Q (o :: rest) a w :=
  wpList_plain hg fun _ hK => wp_delete_m T m x k hop h ha hx fun w' r1 r2 r3 => hK _ _ (hk w' r1 r2 r3)
end
end Go.Azu
