/-
  A RANGE OVER A MAP WITH int KEYS WHOSE ROUND DOES NOT TURN THAT MAP.
-/
import Derived.Test.YtnpjlmeiaegdkaaMaps
import Derived.Maps.RangeRun
namespace Go.Azu
open Go.RowKit Go.MapKept
open Go.ChangeMaps (setBlock)

def Ranging (w : World) (r g : Nat) (es : Array MapEntry) (clock : Nat) (seen : Array Nat) : Prop :=
  w.heap[r]? = some (.mapIter (some g) clock seen clock) ∧ w.heap[g]? = some (.map es clock)

/-- what an iterator has handed out -/
def seenOf (w : World) (r : Nat) : Array Nat := match w.heap[r]? with | some (.mapIter _ _ s _) => s | _ => #[]
def leftN (es : Array MapEntry) (seen : Array Nat) : Nat := (es.toList.filter fun e => !seen.contains e.born).length

theorem Ranging.seen {w : World} {r g clock : Nat} {es : Array MapEntry} {seen : Array Nat} (h : Ranging w r g es clock seen) : seenOf w r = seen := by
  unfold seenOf; rw [h.1]
theorem Ranging.only {w w' : World} {r g clock : Nat} {es : Array MapEntry} {seen : Array Nat} {S : List Nat} (h : Ranging w r g es clock seen) (ho : Only S w w') (hr : r ∉ S) (hg : g ∉ S) : Ranging w' r g es clock seen :=
  ⟨(ho.block r (Array.getElem?_eq_some_iff.1 h.1).1 hr).trans h.1, (ho.block g (Array.getElem?_eq_some_iff.1 h.2).1 hg).trans h.2⟩
theorem Ranging.lt {w : World} {r g clock : Nat} {es : Array MapEntry} {seen : Array Nat} (h : Ranging w r g es clock seen) : r < w.heap.size ∧ g < w.heap.size :=
  ⟨(Array.getElem?_eq_some_iff.1 h.1).1, (Array.getElem?_eq_some_iff.1 h.2).1⟩

theorem filter_le {α : Type} (p q : α → Bool) (h : ∀ x, q x = true → p x = true) : ∀ l : List α, (l.filter q).length ≤ (l.filter p).length
  | [] => by simp
  | x :: l => by
    have ih := filter_le p q h l
    rw [List.filter_cons, List.filter_cons]
    cases hq : q x with
    | true => rw [h x hq]; simpa using ih
    | false =>
      cases p x with
      | true => simp only [if_true, Bool.false_eq_true, if_false, List.length_cons]; omega
      | false => simpa using ih
theorem filter_lt {α : Type} (p q : α → Bool) (h : ∀ x, q x = true → p x = true) {e : α} (hp : p e = true) (hq : q e = false) : ∀ l : List α, e ∈ l → (l.filter q).length < (l.filter p).length
  | x :: l, hm => by
    rw [List.filter_cons, List.filter_cons]
    cases hm with
    | head =>
      rw [hp, hq]
      have := filter_le p q h l
      simp only [if_true, Bool.false_eq_true, if_false, List.length_cons]; omega
    | tail _ hm =>
      have ih := filter_lt p q h hp hq l hm
      cases hqx : q x with
      | true => rw [h x hqx]; simpa using ih
      | false =>
        cases p x with
        | true => simp only [if_true, Bool.false_eq_true, if_false, List.length_cons]; omega
        | false => simpa using ih

theorem leftN_push {es : Array MapEntry} {seen : Array Nat} {e : MapEntry} (he : e ∈ es.toList) (hn : seen.contains e.born = false) : leftN es (seen.push e.born) < leftN es seen := by
  refine filter_lt _ _ (fun x hx => ?_) (by rw [hn]; rfl) (by simp) _ he
  cases hc : seen.contains x.born with
  | false => rfl
  | true =>
    have : (seen.push e.born).contains x.born = true := by
      rw [Array.contains_eq_mem] at hc ⊢
      simp at hc ⊢
      exact .inl hc
    rw [this] at hx; cases hx

section
variable {P : Program} {w : World} {ops : Array Oper} {rest : List Oper} {o : Oper} {a : Act} {Q : Exit → Act → World → Prop}

theorem wpList_range_m {t kt et : TypeId} {g clock : Nat} {es : Array MapEntry} (m : Operand) (hg : o.guard = none) (hop : o.op = .range t m) (ht : P.underlying t = some (.map kt et)) (hm : a.eval m = .map (some g)) (hb : w.heap[g]? = some (.map es clock))
    (hk : Ranging (w.alloc (.mapIter (some g) clock #[] clock)) w.heap.size g es clock #[] → wpList P ops Q rest (a.put o.dst (.pointer (some ⟨w.heap.size, 0, none⟩))) (w.alloc (.mapIter (some g) clock #[] clock))) : wpList P ops Q (o :: rest) a w := by
  refine wpList_plain hg fun _ hK => ?_
  have hrun : (Instr.range t (.map (some g))).run P w = .ok (.pointer (some ⟨w.heap.size, 0, none⟩)) (w.alloc (.mapIter (some g) clock #[] clock)) := by
    simp [Instr.range, run_underlying ht, MapKept.run_getObj_map hb, Result.andThen]
  unfold Oper.wp
  simp [execOp, hop, hm, hrun, Result.andThen]
  exact hK _ _ (hk ⟨heap_alloc_new w _, (Below.heap_alloc w _ g (Array.getElem?_eq_some_iff.1 hb).1).trans hb⟩)

theorem wpList_next_m {r g clock : Nat} {es : Array MapEntry} {seen : Array Nat} (it : Operand) (hg : o.guard = none) (hop : o.op = .next it false) (hit : a.eval it = .pointer (some ⟨r, 0, none⟩)) (h : Ranging w r g es clock seen) (hs : Stamped es clock)
    (done : (∀ x ∈ es.toList, seen.contains x.born = true) → wpList P ops Q rest (a.put o.dst (.tuple #[.bool false])) w)
    (more : ∀ (e : MapEntry) (w' : World), e ∈ es.toList → seen.contains e.born = false → Ranging w' r g es clock (seen.push e.born) → Only [r] w w' → w'.heap.size = w.heap.size →
      (Instr.entry (.pointer (some ⟨r, 0, none⟩))).run P w' = .ok (.tuple #[e.key, e.val]) w' → wpList P ops Q rest (a.put o.dst (.tuple #[.bool true, e.key, e.val])) w') : wpList P ops Q (o :: rest) a w := by
  refine wpList_plain hg fun _ hK => ?_
  unfold Oper.wp
  rcases run_next_at (P := P) w o.type r g clock clock seen es clock h.1 h.2 hs.1 (Nat.le_refl _) with ⟨h0, hrun⟩ | ⟨e, he, w1, hw1, hrun⟩
  · simp [execOp, hop, hit, hrun, Result.andThen]
    refine hK _ _ (done fun x hx => ?_)
    have hl : leftOf es seen = #[] := Array.eq_empty_of_size_eq_zero h0
    cases hc : seen.contains x.born with
    | true => rfl
    | false =>
      exfalso
      have : x ∈ leftOf es seen := by
        unfold leftOf
        have hx' : x ∈ es := by simpa using hx
        simp at hc ⊢
        exact ⟨hx', hc⟩
      rw [hl] at this
      simp at this
  · simp [execOp, hop, hit, hrun, Result.andThen]
    have hmem : e ∈ es.toList ∧ seen.contains e.born = false := by
      unfold leftOf at he
      simp at he
      exact ⟨by simpa using he.1, by simpa using he.2⟩
    have e1 : w1.heap = w.heap := by rcases hw1 with rfl | rfl <;> rfl
    have hrlt : r < w1.heap.size := by rw [e1]; exact h.lt.1
    have hgr : g ≠ r := by
      rintro rfl
      have h2 := h.2
      rw [h.1] at h2; cases h2
    have hset : (setBlock w1 r (.mapIter (some g) clock (seen.push e.born) clock)).heap = w.heap.setIfInBounds r (.mapIter (some g) clock (seen.push e.born) clock) := by
      simp [setBlock, e1]
    have hR : Ranging (setBlock w1 r (.mapIter (some g) clock (seen.push e.born) clock)) r g es clock (seen.push e.born) := by
      constructor
      · rw [hset]; simp [h.lt.1]
      · rw [hset]; simp [Ne.symm hgr]; exact h.2
    refine hK _ _ (more e _ hmem.1 hmem.2 hR ?_ ?_ (run_entry_at _ r g clock seen es clock e hR.1 hR.2 hmem.1 hs.2.1))
    · refine ⟨?_, ?_, ?_, ?_, ?_⟩
      · rcases hw1 with rfl | rfl <;> rfl
      · rcases hw1 with rfl | rfl <;> rfl
      · rcases hw1 with rfl | rfl <;> rfl
      · rw [hset]; simp
      · intro k _ hn
        have : r ≠ k := fun e => hn (by simp [e])
        rw [hset]; simp [this]
    · rw [hset]; simp
end
end Go.Azu
