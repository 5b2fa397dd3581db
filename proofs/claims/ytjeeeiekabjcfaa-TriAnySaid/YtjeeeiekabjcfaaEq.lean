/-
  ARRAYS AND STRUCTS COMPARED.
-/
import Derived.Test.YtjeeeiekabjcfaaAgg
import Derived.Laws.StructEq
namespace Go.Azu
open Go.RowKit

section
variable {P : Program} {w : World}

theorem run_array_loop (d : Nat) (elem : TypeId) (n : Nat) (xs ys : Array Value) (E : Nat → Bool) : ∀ (l : List Nat),
    (∀ i ∈ l, ∃ a b, (part elem xs (i * n)).run P w = .ok a w ∧ (part elem ys (i * n)).run P w = .ok b w ∧ (Op.equalIn d elem a b).run P w = .ok (E i) w) →
    ((forIn l ((none, ()) : Option Bool × Unit) fun i _ => (do
        let u ← part elem xs (i * n)
        let v ← part elem ys (i * n)
        let r ← Op.equalIn d elem u v
        if r = false then pure (ForInStep.done (some false, ())) else pure (ForInStep.yield (none, ())) : Sem (ForInStep (Option Bool × Unit)))).run P w).andThen (fun a w' => Sem.run P (match a.fst with
        | some r => pure r
        | none => pure true) w') = .ok (l.all E) w
  | [], _ => by simp
  | i :: l, h => by
    obtain ⟨a, b, h1, h2, h3⟩ := h i (.head _)
    have ih := run_array_loop d elem n xs ys E l (fun j hj => h j (.tail _ hj))
    simp only [List.forIn_cons, Sem.run_bind, h1, h2, h3, Result.andThen_ok, List.all_cons] at ih ⊢
    cases hE : E i with
    | false => simp
    | true => simpa [hE] using ih

theorem run_equalIn_array {d : Nat} {t elem : TypeId} {len n : Nat} {xs ys : Array Value} (hu : P.underlying t = some (.array len elem)) (hs : ∀ w, (sizeOf elem).run P w = .ok n w) (E : Nat → Bool)
    (h : ∀ i, i < len → ∃ a b, (part elem xs (i * n)).run P w = .ok a w ∧ (part elem ys (i * n)).run P w = .ok b w ∧ (Op.equalIn d elem a b).run P w = .ok (E i) w) :
    (Op.equalIn (d + 1) t (.agg xs) (.agg ys)).run P w = .ok ((List.range len).all E) w := by
  have h1 := run_array_loop (P := P) (w := w) d elem n xs ys E (List.range len) (fun i hi => h i (List.mem_range.1 hi))
  simp only [Op.equalIn, Sem.run_bind, run_underlying hu, Result.andThen_ok, hs]
  rw [← h1]
  simp only [Std.Legacy.Range.forIn_eq_forIn_range', Std.Legacy.Range.size]
  simp only [List.range_eq_range']
  simp
  congr 1
  funext a w'
  obtain ⟨o, _⟩ := a
  cases o <;> rfl

/-- a type of n whole numbers, compared number by number -/
def EqI (P : Program) (t : TypeId) (n k : Nat) : Prop :=
  ∀ (d : Nat) (l m : List Int) (w : World), l.length = n → m.length = n → (Op.equalIn (d + k) t (.agg (ints l).toArray) (.agg (ints m).toArray)).run P w = .ok (l == m) w

theorem getD_eq (l : List Int) (i : Nat) (h : i < l.length) : l.getD i 0 = l[i] := by simp [List.getD, h]

theorem all_getD : ∀ (l m : List Int) (n : Nat), l.length = n → m.length = n → ((List.range n).all fun i => l.getD i 0 == m.getD i 0) = (l == m)
  | [], [], _, h, _ => by subst h; rfl
  | a :: l, b :: m, n + 1, h1, h2 => by
    have ih := all_getD l m n (by simpa using h1) (by simpa using h2)
    rw [List.range_succ_eq_map, List.all_cons, List.all_map]
    show ((a == b) && ((List.range n).all fun i => l.getD i 0 == m.getD i 0)) = _
    rw [ih]; rfl
  | [], _ :: _, _, h1, h2 => by subst h1; cases h2
  | _ :: _, [], _, h1, h2 => by subst h2; cases h1
  | _ :: _, _ :: _, 0, h1, _ => by cases h1

theorem beq_split {l m l' m' : List Int} (h : l.length = m.length) : ((l ++ l') == (m ++ m')) = ((l == m) && (l' == m')) := by
  rw [Bool.eq_iff_iff]
  simp only [beq_iff_eq, Bool.and_eq_true]
  exact ⟨fun e => List.append_inj e h, fun ⟨e1, e2⟩ => by rw [e1, e2]⟩

theorem EqI.ints {t e : TypeId} {len : Nat} {kk : IntKind} (hu : P.underlying t = some (.array len e)) (he : P.underlying e = some (.int kk)) (hs : (∀ w, (isAgg e).run P w = .ok false w) ∧ ∀ w, (sizeOf e).run P w = .ok 1 w) : EqI P t len 2 := by
  intro d l m w hl hm
  rw [show d + 2 = (d + 1) + 1 from rfl, run_equalIn_array (P := P) (w := w) hu hs.2 (fun i => l.getD i 0 == m.getD i 0) ?_, all_getD l m len hl hm]
  intro i hi
  have part1 : ∀ (l : List Int), i < l.length → (part e (Azu.ints l).toArray (i * 1)).run P w = .ok (.int .i64 (l.getD i 0)) w := fun l h => by
    have := ints_get l i h
    simp [part, Sem.run_bind, hs.1, this]
  exact ⟨_, _, part1 l (by omega), part1 m (by omega), run_equalIn_int w d e .i64 kk _ _ he⟩

theorem all_parts (n : Nat) : ∀ (len : Nat) (l m : List Int), l.length = len * n → m.length = len * n → ((List.range len).all fun i => (l.drop (i * n)).take n == (m.drop (i * n)).take n) = (l == m)
  | 0, l, m, h1, h2 => by
    rw [Nat.zero_mul] at h1 h2
    rw [List.eq_nil_of_length_eq_zero h1, List.eq_nil_of_length_eq_zero h2]
    rfl
  | len + 1, l, m, h1, h2 => by
    rw [Nat.succ_mul] at h1 h2
    have ih := all_parts n len (l.drop n) (m.drop n) (by simp; omega) (by simp; omega)
    rw [List.range_succ_eq_map, List.all_cons, List.all_map]
    have e : ∀ (l : List Int) (i : Nat), ((l.drop n).drop (i * n)).take n = (l.drop ((i + 1) * n)).take n := fun l i => by
      rw [List.drop_drop, Nat.succ_mul, Nat.add_comm]
    have h3 : ((List.range len).all ((fun i => (l.drop (i * n)).take n == (m.drop (i * n)).take n) ∘ Nat.succ)) = (l.drop n == m.drop n) := by
      rw [← ih]
      congr 1
      funext i
      simp only [Function.comp, e]
    rw [h3]
    have h4 := beq_split (l := l.take n) (m := m.take n) (l' := l.drop n) (m' := m.drop n) (by simp; omega)
    rw [List.take_append_drop, List.take_append_drop] at h4
    rw [h4, Nat.zero_mul]
    rfl

theorem run_part_agg {e : TypeId} {n : Nat} (T : ATy P e n) (l : List Int) (off : Nat) : (part e (ints l).toArray off).run P w = .ok (.agg (ints ((l.drop off).take n)).toArray) w := by
  simp [part, Sem.run_bind, T.agg, T.size, ints_drop, ints_take]

theorem EqI.array {t e : TypeId} {len n k : Nat} (hu : P.underlying t = some (.array len e)) (T : ATy P e n) (h : EqI P e n k) : EqI P t (len * n) (k + 1) := by
  intro d l m w hl hm
  rw [show d + (k + 1) = (d + k) + 1 from by omega, run_equalIn_array (P := P) (w := w) hu T.size (fun i => (l.drop (i * n)).take n == (m.drop (i * n)).take n) ?_, all_parts n len l m hl hm]
  intro i hi
  have hle : i * n + n ≤ len * n := by
    have := Nat.mul_le_mul_right n (show i + 1 ≤ len by omega)
    rw [Nat.succ_mul] at this
    omega
  exact ⟨_, _, run_part_agg T l _, run_part_agg T m _, h d _ _ w (by simp; omega) (by simp; omega)⟩

/-- a whole number's type -/
structure ITy (P : Program) (e : TypeId) : Prop where
  under : ∃ kk, P.underlying e = some (.int kk)
  agg : ∀ w, (isAgg e).run P w = .ok false w
  size : ∀ w, (sizeOf e).run P w = .ok 1 w

/-- a struct's fields, from a place on: whole numbers, and what is made of them -/
inductive FieldsI (P : Program) (k : Nat) : List (Bool × TypeId × Nat) → Nat → Nat → Prop
  | nil (n : Nat) : FieldsI P k [] n n
  | int {t : TypeId} {off n : Nat} {fs : List (Bool × TypeId × Nat)} (hi : ITy P t) (h : FieldsI P k fs (off + 1) n) : FieldsI P k ((true, t, off) :: fs) off n
  | agg {t : TypeId} {off n s : Nat} {fs : List (Bool × TypeId × Nat)} (T : ATy P t s) (he : EqI P t s (k + 1)) (h : FieldsI P k fs (off + s) n) : FieldsI P k ((true, t, off) :: fs) off n

theorem FieldsI.le {k : Nat} {fs : List (Bool × TypeId × Nat)} {off n : Nat} (h : FieldsI P k fs off n) : off ≤ n := by
  induction h with
  | nil => exact Nat.le_refl _
  | int _ _ ih => omega
  | agg _ _ _ ih => omega

theorem run_part_int {e : TypeId} (T : ITy P e) (l : List Int) (off : Nat) (h : off < l.length) : (part e (ints l).toArray off).run P w = .ok (.int .i64 (l.getD off 0)) w := by
  have := ints_get l off h
  simp [part, Sem.run_bind, T.agg, this]

theorem drop_int (l : List Int) (off : Nat) (h : off < l.length) : l.drop off = l.getD off 0 :: l.drop (off + 1) := by
  rw [List.drop_eq_getElem_cons h]
  simp [List.getD, h]

theorem run_eqFields {k d : Nat} : ∀ (fs : List Field) (off n : Nat) (l m : List Int) (w : World), FieldsI P k (fs.map fun f => (f.name != "_", f.type, f.offset)) off n → l.length = n → m.length = n →
    (Op.eqFields (d + (k + 1)) (ints l).toArray (ints m).toArray fs).run P w = .ok (l.drop off == m.drop off) w
  | [], off, n, l, m, w, h, hl, hm => by
    cases h
    rw [List.drop_eq_nil_of_le (by omega), List.drop_eq_nil_of_le (by omega)]
    rfl
  | f :: fs, off, n, l, m, w, h, hl, hm => by
    rw [List.map_cons] at h
    generalize hx : ((f.name != "_", f.type, f.offset) : Bool × TypeId × Nat) = x at h
    cases h with
    | int hi h' =>
      injection hx with h1 h2
      injection h2 with h2 h3
      have hle := h'.le
      have hn : f.name ≠ "_" := by simpa using h1
      have ih := run_eqFields (d := d) fs (off + 1) n l m w h' hl hm
      rw [drop_int l off (by omega), drop_int m off (by omega)]
      obtain ⟨kk, hu⟩ := hi.under
      rw [← h2] at hu
      have p1 := run_part_int (w := w) (h2 ▸ hi) l off (by omega)
      have p2 := run_part_int (w := w) (h2 ▸ hi) m off (by omega)
      simp only [Op.eqFields, hn, ne_eq, not_false_eq_true, if_true, h3, Sem.run_bind, p1, p2, Result.andThen_ok, show d + (k + 1) = (d + k) + 1 from rfl, run_equalIn_int w (d + k) f.type .i64 kk _ _ hu] at ih ⊢
      show _ = Result.ok ((l.getD off 0 == m.getD off 0) && (l.drop (off + 1) == m.drop (off + 1))) w
      cases (l.getD off 0 == m.getD off 0) with
      | false => simp
      | true => simpa using ih
    | @agg t _ _ s _ T he h' =>
      injection hx with h1 h2
      injection h2 with h2 h3
      have hle := h'.le
      have hn : f.name ≠ "_" := by simpa using h1
      have ih := run_eqFields (d := d) fs (off + s) n l m w h' hl hm
      have p1 := run_part_agg (w := w) T l off
      have p2 := run_part_agg (w := w) T m off
      have p3 := he d ((l.drop off).take s) ((m.drop off).take s) w (by simp; omega) (by simp; omega)
      have p4 := beq_split (l := (l.drop off).take s) (m := (m.drop off).take s) (l' := (l.drop off).drop s) (m' := (m.drop off).drop s) (by simp; omega)
      rw [List.take_append_drop, List.take_append_drop, List.drop_drop, List.drop_drop] at p4
      rw [p4]
      simp only [Op.eqFields, hn, ne_eq, not_false_eq_true, if_true, h2, h3, Sem.run_bind, p1, p2, p3, Result.andThen_ok] at ih ⊢
      cases ((l.drop off).take s == (m.drop off).take s) with
      | false => simp
      | true => simpa using ih

theorem EqI.more {t : TypeId} {n k : Nat} (h : EqI P t n k) (j : Nat) : EqI P t n (k + j) := fun d l m w hl hm => by
  have := h (d + j) l m w hl hm
  rwa [show d + j + k = d + (k + j) from by omega] at this

theorem EqI.struct {t : TypeId} {n k : Nat} {fs : List (Bool × TypeId × Nat)} (ht : P.underlying t = some (.struct (P.fieldsOf t))) (hp : P.stoodInHeld t = false)
    (hf : ((P.fieldsOf t).toList.map fun f => (f.name != "_", f.type, f.offset)) = fs) (h : FieldsI P k fs 0 n) : EqI P t n (k + 2) := by
  intro d l m w hl hm
  rw [show d + (k + 2) = (d + (k + 1)) + 1 from by omega, run_equalIn_struct w _ t _ _ ht hp]
  have := run_eqFields (d := d) (P.fieldsOf t).toList 0 n l m w (by rw [hf]; exact h) hl hm
  simpa using this
end
end Go.Azu
