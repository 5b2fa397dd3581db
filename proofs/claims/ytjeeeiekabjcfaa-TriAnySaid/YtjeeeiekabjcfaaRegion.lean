/-
  A REGION THAT DRAWS ITS ORDER, WALKED OPERATION BY OPERATION: its first n operations only read and make memory, in whatever order;
  of each one a fact 'Val i' is shown, once; the last operations stand in one forced order, and are walked behind them.
-/
import Derived.Test.YtjeeeiekabjcfaaWords
import Derived.StillTail
import Derived.WalkKit
namespace Go.Azu
open Go.RowKit

def dstOf (ops : Array Oper) (i : Nat) : Option Tmp := (ops[i]?).bind (·.dst)
def putAll (ops : Array Oper) (vs : Nat → Value) (l : List Nat) (a : Act) : Act := l.foldl (fun b i => b.put (dstOf ops i) (vs i)) a

/-- what the kernel reckons of a region: the first n operations write slots of their own, ask only for elder ones, and come ahead of the others, which stand in one order -/
def extB (ops : Array Oper) (n : Nat) : Bool :=
  decide (n < ops.size) && Region.sinkB .any ops n && Region.chainB .any ops n &&
  ((List.range n).all fun i => (List.range n).all fun j => i == j || dstOf ops i == none || dstOf ops i != dstOf ops j) &&
  ((List.range n).all fun i => match ops[i]? with | some o => o.after.all fun e => !Region.binds .any e || decide (e.on < i) | none => false) &&
  Region.seqB .any ops (ops.size - n) n ((Array.replicate n true) ++ Array.replicate (ops.size - n) false)

theorem putAll_commute {ops : Array Oper} {vs : Nat → Value} {d : Option Tmp} {v : Value} : ∀ (l : List Nat) (b : Act), (∀ j ∈ l, ∀ t, d = some t → dstOf ops j ≠ some t) → (putAll ops vs l b).put d v = putAll ops vs l (b.put d v)
  | [], _, _ => rfl
  | j :: l, b, h => by
    show (putAll ops vs l (b.put (dstOf ops j) (vs j))).put d v = putAll ops vs l ((b.put d v).put (dstOf ops j) (vs j))
    rw [putAll_commute l _ (fun k hk => h k (.tail _ hk)), Act.put_comm b (x := dstOf ops j) (y := d) _ _ (fun t ht hd => h j (.head _) t hd ht)]

theorem putAll_congr {ops : Array Oper} {vs vs' : Nat → Value} : ∀ (l : List Nat) (b : Act), (∀ j ∈ l, vs j = vs' j) → putAll ops vs l b = putAll ops vs' l b
  | [], _, _ => rfl
  | j :: l, b, h => by
    show putAll ops vs l (b.put (dstOf ops j) (vs j)) = putAll ops vs' l (b.put (dstOf ops j) (vs' j))
    rw [h j (.head _)]
    exact putAll_congr l _ fun k hk => h k (.tail _ hk)

def heads (listed : Array Bool) (n : Nat) : List Nat := (List.range n).filter fun i => listed.getD i true

theorem heads_set {listed : Array Bool} {n i : Nat} (hi : i < n) (hs : i < listed.size) (hu : listed.getD i true = false) :
    ∃ l1 l2, heads listed n = l1 ++ l2 ∧ heads (listed.setIfInBounds i true) n = l1 ++ i :: l2 ∧ (∀ j ∈ l1 ++ l2, j ≠ i ∧ j < n) := by
  have hr : List.range n = List.range i ++ i :: (List.range' (i + 1) (n - (i + 1))) := by
    have e1 : List.range n = List.range' 0 n := List.range_eq_range'
    have e2 : List.range i = List.range' 0 i := List.range_eq_range'
    rw [e1, e2, show n = i + (1 + (n - (i + 1))) from by omega, ← List.range'_append_1]
    congr 1
    rw [show 0 + i = i from by omega, ← List.range'_append_1]
    simp only [List.range'_one, List.singleton_append]
    congr 2
    omega
  refine ⟨(List.range i).filter fun j => listed.getD j true, (List.range' (i + 1) (n - (i + 1))).filter fun j => listed.getD j true, ?_, ?_, ?_⟩
  · unfold heads
    rw [hr, List.filter_append, List.filter_cons, if_neg (by rw [hu]; simp)]
  · unfold heads
    rw [hr, List.filter_append, List.filter_cons, if_pos (by simp [hs])]
    congr 1
    · apply List.filter_congr
      intro j hj
      have : i ≠ j := by have := List.mem_range.1 hj; omega
      rw [getD_set_ne true this]
    · congr 1
      apply List.filter_congr
      intro j hj
      have : i ≠ j := by have := (List.mem_range'_1.1 hj).1; omega
      rw [getD_set_ne true this]
  · intro j hj
    rw [List.mem_append, List.mem_filter, List.mem_filter] at hj
    rcases hj with ⟨hj, _⟩ | ⟨hj, _⟩
    · have := List.mem_range.1 hj; exact ⟨by omega, by omega⟩
    · have := List.mem_range'_1.1 hj; exact ⟨by omega, by omega⟩

section
variable {P : Program} {ops : Array Oper} {Q : Exit → Act → World → Prop} {a0 : Act} {w0 : World} {n : Nat}

/-- so many of the first n are still to come -/
def unl (listed : Array Bool) (n : Nat) : Nat := n - (heads listed n).length

theorem heads_le (listed : Array Bool) (n : Nat) : (heads listed n).length ≤ n := by
  have := List.length_filter_le (fun i => listed.getD i true) (List.range n)
  simpa [heads] using this

theorem heads_all {listed : Array Bool} (h : (heads listed n).length = n) : ∀ i, i < n → listed.getD i true = true := by
  intro i hi
  have hs : (heads listed n).length = (List.range n).length := by simpa using h
  unfold heads at hs
  have := (List.length_filter_eq_length_iff.1 hs) i (List.mem_range.2 hi)
  simpa using this

theorem ext_any (Val : Nat → Value → World → Prop) (mono : ∀ i v w w', Val i v w → Only [] w w' → Val i v w') (hc : extB ops n = true)
    (step : ∀ i, i < n → ∀ o, ops[i]? = some o → ∀ (vs : Nat → Value) (l : List Nat) (w : World), (∀ j ∈ l, j < n ∧ Val j (vs j) w) → (∀ e ∈ o.after, Region.binds .any e = true → e.on ∈ l) → i ∉ l → l.Nodup → Only [] w0 w →
      wpOp P ops Q i (fun a' w' => ∃ v, a' = (putAll ops vs l a0).put o.dst v ∧ Val i v w' ∧ Only [] w w') (putAll ops vs l a0) w)
    (fin : ∀ (vs : Nat → Value) (w : World), (∀ j, j < n → Val j (vs j) w) → Only [] w0 w → wpList P ops Q (ops.toList.drop n) (putAll ops vs (List.range n) a0) w) :
    ∀ (d : Nat) (listed : Array Bool) (vs : Nat → Value) (w : World), n - (heads listed n).length = d → HeadInv .any ops n listed → (∀ j ∈ heads listed n, Val j (vs j) w) → Only [] w0 w →
      wpAny P .any ops Q (d + (ops.size - n)) listed (putAll ops vs (heads listed n) a0) w := by
  simp only [extB, Bool.and_eq_true, decide_eq_true_eq] at hc
  obtain ⟨⟨⟨⟨⟨hn, hsink⟩, hchain⟩, hdist⟩, hord⟩, hseq⟩ := hc
  intro d
  induction d with
  | zero =>
    intro listed vs w hd inv hv ho
    have hle := heads_le listed n
    have hall := heads_all (n := n) (listed := listed) (by omega)
    have hh : heads listed n = List.range n := by
      unfold heads
      exact List.filter_eq_self.2 fun i hi => hall i (List.mem_range.1 hi)
    have hl : listed = (Array.replicate n true) ++ Array.replicate (ops.size - n) false := by
      apply Array.ext
      · simp [inv.size]; omega
      · intro i h1 h2
        have g1 : listed.getD i true = listed[i] := by simp [h1]
        by_cases hin : i < n
        · rw [← g1, hall i hin]
          rw [Array.getElem_append_left (by simpa using hin)]; simp
        · rw [← g1, inv.tail i (by omega) (by rw [← inv.size]; exact h1)]
          rw [Array.getElem_append_right (by simp; omega)]; simp
    rw [Nat.zero_add, hh]
    have hlen : (ops.toList.drop n).length = ops.size - n := by simp
    rw [← hlen]
    refine wpAny_of_seq _ n listed _ w (fun j => by simp [List.getElem?_drop]) (by rw [hl, hlen]; exact hseq) (fin vs w (fun j hj => hv j (by rw [hh]; exact List.mem_range.2 hj)) ho)
  | succ d ih =>
    intro listed vs w hd inv hv ho
    have hle := heads_le listed n
    -- some first one is unlisted, and the least such is ready
    obtain ⟨m, hm, hum, hmin⟩ : ∃ m, m < n ∧ listed.getD m true = false ∧ ∀ j, j < m → listed.getD j true = true := by
      have hne : ∃ m, m < n ∧ listed.getD m true = false := by
        apply Classical.byContradiction
        intro hcon
        have hall : ∀ i, i < n → listed.getD i true = true := fun i hi => by
          cases hg : listed.getD i true with
          | true => rfl
          | false => exact absurd ⟨i, hi, hg⟩ hcon
        have hh : heads listed n = List.range n := by
          unfold heads
          exact List.filter_eq_self.2 fun i hi => hall i (List.mem_range.1 hi)
        rw [hh] at hd
        simp at hd
      obtain ⟨m, hm⟩ := hne
      induction m using Nat.strongRecOn with
      | _ m ihm =>
        by_cases hx : ∃ j, j < m ∧ listed.getD j true = false
        · obtain ⟨j, hj, hjf⟩ := hx
          exact ihm j hj ⟨by omega, hjf⟩
        · refine ⟨m, hm.1, hm.2, fun j hj => ?_⟩
          cases hg : listed.getD j true with
          | true => rfl
          | false => exact absurd ⟨j, hj, hg⟩ hx
    have hord' : ∀ i, i < n → ∀ o, ops[i]? = some o → ∀ e ∈ o.after, Region.binds .any e = true → e.on < i := by
      intro i hi o ho' e he hb
      have := List.all_eq_true.1 hord i (List.mem_range.2 hi)
      rw [ho'] at this
      have := Array.all_eq_true'.1 this e he
      simpa [hb] using this
    have hmr : m ∈ Region.ready .any ops listed := by
      have hms : m < ops.size := by omega
      refine mem_ready.2 ⟨hum, ops[m], Array.getElem?_eq_getElem hms, fun e he hb => ?_⟩
      have hlt := hord' m hm _ (Array.getElem?_eq_getElem hms) e he hb
      have := hmin e.on hlt
      have hes : e.on < listed.size := by rw [inv.size]; omega
      simpa [hes] using this
    rw [show d + 1 + (ops.size - n) = (d + (ops.size - n)) + 1 from by omega]
    refine ⟨fun h => absurd hmr (by rw [h]; simp), fun i hi => ?_⟩
    have hin : i < n := by
      rcases Nat.lt_or_ge i n with h | h
      · exact h
      · exact absurd hi (tail_waits hsink hchain hn inv _ m rfl hm hum i h)
    obtain ⟨hui, oi, hoi, hall⟩ := mem_ready.1 hi
    have his : i < listed.size := by rw [inv.size]; omega
    obtain ⟨l1, l2, e1, e2, hne⟩ := heads_set hin his hui
    have hdeps : ∀ e ∈ oi.after, Region.binds .any e = true → e.on ∈ heads listed n := fun e he hb => by
      have hlt := hord' i hin oi hoi e he hb
      have hl := hall e he hb
      unfold heads
      refine List.mem_filter.2 ⟨List.mem_range.2 (by omega), ?_⟩
      have hes : e.on < listed.size := by rw [inv.size]; omega
      simpa [hes] using hl
    have hst := step i hin oi hoi vs (heads listed n) w (fun j hj => ⟨List.mem_range.1 (List.mem_filter.1 hj).1, hv j hj⟩) hdeps (fun hmem => (hne i (by rw [← e1]; exact hmem)).1 rfl) (List.nodup_range.filter _) ho
    refine wpOp_mono ?_ hst
    rintro a' w' ⟨v, rfl, hval, how⟩
    have hdi : oi.dst = dstOf ops i := by simp [dstOf, hoi]
    have hput : (putAll ops vs (heads listed n) a0).put oi.dst v = putAll ops (fun j => if j = i then v else vs j) (heads (listed.setIfInBounds i true) n) a0 := by
      rw [e1, e2, hdi]
      have hcongr : ∀ (l : List Nat) (b : Act), (∀ j ∈ l, j ≠ i) → putAll ops vs l b = putAll ops (fun j => if j = i then v else vs j) l b := fun l b hl =>
        putAll_congr l b fun j hj => by rw [if_neg (hl j hj)]
      have happ : ∀ (u : Nat → Value) (x y : List Nat) (b : Act), putAll ops u (x ++ y) b = putAll ops u y (putAll ops u x b) := fun u x y b => by simp [putAll, List.foldl_append]
      rw [happ, happ, hcongr l1 _ (fun j hj => (hne j (List.mem_append_left _ hj)).1), hcongr l2 _ (fun j hj => (hne j (List.mem_append_right _ hj)).1)]
      rw [putAll_commute l2 _ (fun j hj t ht hjt => by
        have hj' := hne j (List.mem_append_right _ hj)
        have h1 := List.all_eq_true.1 hdist i (List.mem_range.2 hin)
        have h2 := List.all_eq_true.1 h1 j (List.mem_range.2 hj'.2)
        rw [ht, hjt] at h2
        simp at h2
        exact hj'.1 h2.symm)]
      show _ = putAll ops _ l2 ((putAll ops _ l1 a0).put (dstOf ops i) (if i = i then v else vs i))
      rw [if_pos rfl]
    rw [hput]
    have hlen : (heads (listed.setIfInBounds i true) n).length = (heads listed n).length + 1 := by rw [e1, e2]; simp; omega
    refine ih (listed.setIfInBounds i true) (fun j => if j = i then v else vs j) w' (by omega) (inv.set hi hin) ?_ (ho.trans how)
    intro j hj
    rw [e2] at hj
    by_cases hji : j = i
    · subst hji; simp only [if_pos]; exact hval
    · simp only [if_neg hji]
      refine mono j _ _ _ (hv j ?_) how
      rw [e1]
      simp only [List.mem_append, List.mem_cons] at hj ⊢
      rcases hj with h | h | h
      · exact .inl h
      · exact absurd h hji
      · exact .inr h

theorem size_putAll {vs : Nat → Value} : ∀ (l : List Nat) (b : Act), (putAll ops vs l b).tmps.size = b.tmps.size
  | [], _ => rfl
  | j :: l, b => by
    show (putAll ops vs l (b.put (dstOf ops j) (vs j))).tmps.size = _
    rw [size_putAll l]
    cases dstOf ops j <;> simp [Act.put]

theorem eval_putAll_out {vs : Nat → Value} {t : Tmp} : ∀ (l : List Nat) (b : Act), (∀ j ∈ l, dstOf ops j ≠ some t) → (putAll ops vs l b).eval (.tmp t) = b.eval (.tmp t)
  | [], _, _ => rfl
  | j :: l, b, h => by
    show (putAll ops vs l (b.put (dstOf ops j) (vs j))).eval (.tmp t) = _
    rw [eval_putAll_out l _ fun k hk => h k (.tail _ hk)]
    exact Act.eval_put fun d hd e => h j (.head _) (by rw [hd]; injection e with e; rw [e])

theorem eval_put_same {b : Act} {t : Tmp} {v : Value} (ht : t < b.tmps.size) : (b.put (some t) v).eval (.tmp t) = v := by
  simp [Act.eval, Act.put, ht]

theorem eval_putAll_in {vs : Nat → Value} {t : Tmp} {i : Nat} (hi : dstOf ops i = some t) : ∀ (l : List Nat) (b : Act), i ∈ l → l.Nodup → (∀ j ∈ l, j ≠ i → dstOf ops j ≠ some t) → t < b.tmps.size → (putAll ops vs l b).eval (.tmp t) = vs i
  | j :: l, b, hm, hn, hd, ht => by
    show (putAll ops vs l (b.put (dstOf ops j) (vs j))).eval (.tmp t) = _
    by_cases hji : j = i
    · subst hji
      rw [eval_putAll_out l _ fun k hk => hd k (.tail _ hk) (fun e => by subst e; exact (List.nodup_cons.1 hn).1 hk), hi]
      exact eval_put_same ht
    · refine eval_putAll_in hi l _ ?_ (List.nodup_cons.1 hn).2 (fun k hk => hd k (.tail _ hk)) ?_
      · cases hm with
        | head => exact absurd rfl hji
        | tail _ h => exact h
      · cases dstOf ops j <;> simpa [Act.put] using ht

theorem wp_value {o : Oper} {a : Act} {w w' : World} {K : Act → World → Prop} {v : Value} (h : (execOp a.eval o).run P w = .ok (.value v) w') (hk : K (a.put o.dst v) w') : o.wp P a w K Q := by
  unfold Oper.wp
  rw [h]
  exact hk

theorem dst_small {ops : Array Oper} {n m : Nat} (h : ((List.range n).all fun i => match dstOf ops i with | some t => decide (t < m) | none => true) = true) {i : Nat} (hi : i < n) {t : Tmp} (ht : dstOf ops i = some t) : t < m := by
  have := List.all_eq_true.1 h i (List.mem_range.2 hi)
  rw [ht] at this
  simpa using this

/-- operation i waits for operation j -/
def waits (ops : Array Oper) (i j : Nat) : Bool := match ops[i]? with | some o => o.after.any fun e => Region.binds .any e && e.on == j | none => false

/-- THE REGION: each of its first n operations is walked once, in whatever world the others have left; then its last ones. -/
theorem wp_region_ext {id : Nat} (n : Nat) (hm : P.follows .mixedOrders = true) (Val : Nat → Value → World → Prop) (mono : ∀ i v w w', Val i v w → Only [] w w' → Val i v w') (hc : extB ops n = true)
    (hsz : ∀ i, i < n → ∀ t, dstOf ops i = some t → t < a0.tmps.size) (hgd : (List.range n).all (fun i => ((ops[i]?).bind (·.guard)).isNone) = true)
    (step : ∀ i, i < n → ∀ o, ops[i]? = some o → ∀ (vs : Nat → Value) (a : Act) (w : World), (∀ j, waits ops i j = true → Val j (vs j) w ∧ ∀ t, dstOf ops j = some t → a.eval (.tmp t) = vs j) →
      (∀ t, (List.range n).all (fun j => dstOf ops j != some t) = true → a.eval (.tmp t) = a0.eval (.tmp t)) → Only [] w0 w →
      o.wp P a w (fun a' w' => ∃ v, a' = a.put o.dst v ∧ Val i v w' ∧ Only [] w w') Q)
    (fin : ∀ (vs : Nat → Value) (w : World), (∀ j, j < n → Val j (vs j) w) → Only [] w0 w → wpList P ops Q (ops.toList.drop n) (putAll ops vs (List.range n) a0) w) : (Code.region id ops true).wp P Q a0 w0 := by
  have hc' := hc
  simp only [extB, Bool.and_eq_true, decide_eq_true_eq] at hc'
  obtain ⟨⟨⟨⟨⟨hn, hsink⟩, hchain⟩, hdist⟩, hord⟩, hseq⟩ := hc'
  have hdd : ∀ i j, i < n → j < n → i ≠ j → ∀ t, dstOf ops i = some t → dstOf ops j ≠ some t := fun i j hi hj hij t ht hjt => by
    have h1 := List.all_eq_true.1 hdist i (List.mem_range.2 hi)
    have h2 := List.all_eq_true.1 h1 j (List.mem_range.2 hj)
    rw [ht, hjt] at h2
    simp at h2
    exact hij h2
  refine wp_region_any hm ?_
  have hh : heads (Array.replicate ops.size false) n = [] := by
    unfold heads
    rw [List.filter_eq_nil_iff]
    intro i hi
    have : i < ops.size := by have := List.mem_range.1 hi; omega
    simp [this]
  have h := ext_any (P := P) (Q := Q) (a0 := a0) (w0 := w0) Val mono hc (fun i hi o ho vs l w hl hdeps _ hnd how => by
      have hg : o.guard = none := by
        have := List.all_eq_true.1 hgd i (List.mem_range.2 hi)
        rw [ho] at this
        simpa using this
      unfold wpOp
      simp only [ho]
      rw [if_pos (by simp [Region.wanted, hg])]
      refine .inl (step i hi o ho vs _ w (fun j hj => ?_) (fun t ht => ?_) how)
      · have hjl : j ∈ l := by
          unfold waits at hj
          rw [ho] at hj
          obtain ⟨e, he, hb⟩ := Array.any_eq_true'.1 hj
          simp only [Bool.and_eq_true, beq_iff_eq] at hb
          have := hdeps e he hb.1
          rwa [hb.2] at this
        refine ⟨(hl j hjl).2, fun t ht => ?_⟩
        exact eval_putAll_in ht l _ hjl hnd (fun k hk hkj => hdd j k (hl j hjl).1 (hl k hk).1 (Ne.symm hkj) t ht) (hsz j (hl j hjl).1 t ht)
      · refine eval_putAll_out l _ fun j hj => ?_
        have := List.all_eq_true.1 ht j (List.mem_range.2 (hl j hj).1)
        simpa using this) fin n (Array.replicate ops.size false) (fun _ => undef) w0.drew (by rw [hh]; simp)
    ⟨by simp, (fun j oj _ hl => by rw [getD_replicate_false] at hl; cases hl), fun t _ ht => by simp [ht]⟩ (by rw [hh]; intro j hj; cases hj) (Only.refl [] w0).drew
  rw [hh, show n + (ops.size - n) = ops.size from by omega] at h
  exact h
def isData : Ground → Bool
  | .data => true
  | _ => false
/-- operation i asks for what operation j has made -/
def asks (ops : Array Oper) (i j : Nat) : Bool := match ops[i]? with | some o => o.after.any fun e => Region.binds .any e && e.on == j && isData e.ground | none => false

/-- what operation j has shown is still asked for -/
def Alive (ops : Array Oper) (n : Nat) (listed : Array Bool) (j : Nat) : Prop := (∀ k, k < n → asks ops k j = false) ∨ ∃ k, k < n ∧ asks ops k j = true ∧ listed.getD k true = false

theorem ext_any2 (Inv : World → Prop) (R : Nat → World → World → Prop) (Val : Nat → Value → World → Prop) (mono : ∀ i j v w w', i < n → j < n → ((∀ k, k < n → asks ops k j = false) ∨ ∃ k, k < n ∧ k ≠ i ∧ asks ops k j = true) → Val j v w → R i w w' → Val j v w') (hc : extB ops n = true)
    (step : ∀ i, i < n → ∀ o, ops[i]? = some o → ∀ (vs : Nat → Value) (l : List Nat) (w : World), (∀ j ∈ l, j < n ∧ (asks ops i j = true → Val j (vs j) w)) → (∀ e ∈ o.after, Region.binds .any e = true → e.on ∈ l) → i ∉ l → l.Nodup → Inv w →
      wpOp P ops Q i (fun a' w' => ∃ v, a' = (putAll ops vs l a0).put o.dst v ∧ Val i v w' ∧ R i w w' ∧ Inv w') (putAll ops vs l a0) w)
    (fin : ∀ (vs : Nat → Value) (w : World), (∀ j, j < n → (∀ k, k < n → asks ops k j = false) → Val j (vs j) w) → Inv w → wpList P ops Q (ops.toList.drop n) (putAll ops vs (List.range n) a0) w) :
    ∀ (d : Nat) (listed : Array Bool) (vs : Nat → Value) (w : World), n - (heads listed n).length = d → HeadInv .any ops n listed → (∀ j ∈ heads listed n, Alive ops n listed j → Val j (vs j) w) → Inv w →
      wpAny P .any ops Q (d + (ops.size - n)) listed (putAll ops vs (heads listed n) a0) w := by
  simp only [extB, Bool.and_eq_true, decide_eq_true_eq] at hc
  obtain ⟨⟨⟨⟨⟨hn, hsink⟩, hchain⟩, hdist⟩, hord⟩, hseq⟩ := hc
  intro d
  induction d with
  | zero =>
    intro listed vs w hd inv hv ho
    have hle := heads_le listed n
    have hall := heads_all (n := n) (listed := listed) (by omega)
    have hh : heads listed n = List.range n := by
      unfold heads
      exact List.filter_eq_self.2 fun i hi => hall i (List.mem_range.1 hi)
    have hl : listed = (Array.replicate n true) ++ Array.replicate (ops.size - n) false := by
      apply Array.ext
      · simp [inv.size]; omega
      · intro i h1 h2
        have g1 : listed.getD i true = listed[i] := by simp [h1]
        by_cases hin : i < n
        · rw [← g1, hall i hin]
          rw [Array.getElem_append_left (by simpa using hin)]; simp
        · rw [← g1, inv.tail i (by omega) (by rw [← inv.size]; exact h1)]
          rw [Array.getElem_append_right (by simp; omega)]; simp
    rw [Nat.zero_add, hh]
    have hlen : (ops.toList.drop n).length = ops.size - n := by simp
    rw [← hlen]
    refine wpAny_of_seq _ n listed _ w (fun j => by simp [List.getElem?_drop]) (by rw [hl, hlen]; exact hseq) (fin vs w (fun j hj hu => hv j (by rw [hh]; exact List.mem_range.2 hj) (.inl hu)) ho)
  | succ d ih =>
    intro listed vs w hd inv hv ho
    have hle := heads_le listed n
    -- some first one is unlisted, and the least such is ready
    obtain ⟨m, hm, hum, hmin⟩ : ∃ m, m < n ∧ listed.getD m true = false ∧ ∀ j, j < m → listed.getD j true = true := by
      have hne : ∃ m, m < n ∧ listed.getD m true = false := by
        apply Classical.byContradiction
        intro hcon
        have hall : ∀ i, i < n → listed.getD i true = true := fun i hi => by
          cases hg : listed.getD i true with
          | true => rfl
          | false => exact absurd ⟨i, hi, hg⟩ hcon
        have hh : heads listed n = List.range n := by
          unfold heads
          exact List.filter_eq_self.2 fun i hi => hall i (List.mem_range.1 hi)
        rw [hh] at hd
        simp at hd
      obtain ⟨m, hm⟩ := hne
      induction m using Nat.strongRecOn with
      | _ m ihm =>
        by_cases hx : ∃ j, j < m ∧ listed.getD j true = false
        · obtain ⟨j, hj, hjf⟩ := hx
          exact ihm j hj ⟨by omega, hjf⟩
        · refine ⟨m, hm.1, hm.2, fun j hj => ?_⟩
          cases hg : listed.getD j true with
          | true => rfl
          | false => exact absurd ⟨j, hj, hg⟩ hx
    have hord' : ∀ i, i < n → ∀ o, ops[i]? = some o → ∀ e ∈ o.after, Region.binds .any e = true → e.on < i := by
      intro i hi o ho' e he hb
      have := List.all_eq_true.1 hord i (List.mem_range.2 hi)
      rw [ho'] at this
      have := Array.all_eq_true'.1 this e he
      simpa [hb] using this
    have hmr : m ∈ Region.ready .any ops listed := by
      have hms : m < ops.size := by omega
      refine mem_ready.2 ⟨hum, ops[m], Array.getElem?_eq_getElem hms, fun e he hb => ?_⟩
      have hlt := hord' m hm _ (Array.getElem?_eq_getElem hms) e he hb
      have := hmin e.on hlt
      have hes : e.on < listed.size := by rw [inv.size]; omega
      simpa [hes] using this
    rw [show d + 1 + (ops.size - n) = (d + (ops.size - n)) + 1 from by omega]
    refine ⟨fun h => absurd hmr (by rw [h]; simp), fun i hi => ?_⟩
    have hin : i < n := by
      rcases Nat.lt_or_ge i n with h | h
      · exact h
      · exact absurd hi (tail_waits hsink hchain hn inv _ m rfl hm hum i h)
    obtain ⟨hui, oi, hoi, hall⟩ := mem_ready.1 hi
    have his : i < listed.size := by rw [inv.size]; omega
    obtain ⟨l1, l2, e1, e2, hne⟩ := heads_set hin his hui
    have hdeps : ∀ e ∈ oi.after, Region.binds .any e = true → e.on ∈ heads listed n := fun e he hb => by
      have hlt := hord' i hin oi hoi e he hb
      have hl := hall e he hb
      unfold heads
      refine List.mem_filter.2 ⟨List.mem_range.2 (by omega), ?_⟩
      have hes : e.on < listed.size := by rw [inv.size]; omega
      simpa [hes] using hl
    have hst := step i hin oi hoi vs (heads listed n) w (fun j hj => ⟨List.mem_range.1 (List.mem_filter.1 hj).1, fun hwt => hv j hj (.inr ⟨i, hin, hwt, hui⟩)⟩) hdeps (fun hmem => (hne i (by rw [← e1]; exact hmem)).1 rfl) (List.nodup_range.filter _) ho
    refine wpOp_mono ?_ hst
    rintro a' w' ⟨v, rfl, hval, how, hinv⟩
    have hdi : oi.dst = dstOf ops i := by simp [dstOf, hoi]
    have hput : (putAll ops vs (heads listed n) a0).put oi.dst v = putAll ops (fun j => if j = i then v else vs j) (heads (listed.setIfInBounds i true) n) a0 := by
      rw [e1, e2, hdi]
      have hcongr : ∀ (l : List Nat) (b : Act), (∀ j ∈ l, j ≠ i) → putAll ops vs l b = putAll ops (fun j => if j = i then v else vs j) l b := fun l b hl =>
        putAll_congr l b fun j hj => by rw [if_neg (hl j hj)]
      have happ : ∀ (u : Nat → Value) (x y : List Nat) (b : Act), putAll ops u (x ++ y) b = putAll ops u y (putAll ops u x b) := fun u x y b => by simp [putAll, List.foldl_append]
      rw [happ, happ, hcongr l1 _ (fun j hj => (hne j (List.mem_append_left _ hj)).1), hcongr l2 _ (fun j hj => (hne j (List.mem_append_right _ hj)).1)]
      rw [putAll_commute l2 _ (fun j hj t ht hjt => by
        have hj' := hne j (List.mem_append_right _ hj)
        have h1 := List.all_eq_true.1 hdist i (List.mem_range.2 hin)
        have h2 := List.all_eq_true.1 h1 j (List.mem_range.2 hj'.2)
        rw [ht, hjt] at h2
        simp at h2
        exact hj'.1 h2.symm)]
      show _ = putAll ops _ l2 ((putAll ops _ l1 a0).put (dstOf ops i) (if i = i then v else vs i))
      rw [if_pos rfl]
    rw [hput]
    have hlen : (heads (listed.setIfInBounds i true) n).length = (heads listed n).length + 1 := by rw [e1, e2]; simp; omega
    refine ih (listed.setIfInBounds i true) (fun j => if j = i then v else vs j) w' (by omega) (inv.set hi hin) ?_ hinv
    intro j hj halive
    rw [e2] at hj
    by_cases hji : j = i
    · subst hji; simp only [if_pos]; exact hval
    · simp only [if_neg hji]
      have hjm : j ∈ heads listed n := by
        rw [e1]
        simp only [List.mem_append, List.mem_cons] at hj ⊢
        rcases hj with h | h | h
        · exact .inl h
        · exact absurd h hji
        · exact .inr h
      have hjn : j < n := List.mem_range.1 (List.mem_filter.1 hjm).1
      have hal : Alive ops n listed j ∧ ((∀ k, k < n → asks ops k j = false) ∨ ∃ k, k < n ∧ k ≠ i ∧ asks ops k j = true) := by
        rcases halive with h | ⟨k, hk, hw, hl⟩
        · exact ⟨.inl h, .inl h⟩
        · have hki : k ≠ i := by
            rintro rfl
            simp [his] at hl
          rw [getD_set_ne true (Ne.symm hki)] at hl
          exact ⟨.inr ⟨k, hk, hw, hl⟩, .inr ⟨k, hk, hki, hw⟩⟩
      exact mono i j _ _ _ hin hjn hal.2 (hv j hjm hal.1) how

/-- THE REGION, where an operation may undo what one behind it no longer asks for: each of its first n operations is walked once, in whatever world the others have left; then its last ones. -/
theorem wp_region_ext2 {id : Nat} (n : Nat) (hm : P.follows .mixedOrders = true) (Inv : World → Prop) (R : Nat → World → World → Prop) (Val : Nat → Value → World → Prop) (hinv : Inv w0.drew) (mono : ∀ i j v w w', i < n → j < n → ((∀ k, k < n → asks ops k j = false) ∨ ∃ k, k < n ∧ k ≠ i ∧ asks ops k j = true) → Val j v w → R i w w' → Val j v w') (hc : extB ops n = true)
    (hsz : ∀ i, i < n → ∀ t, dstOf ops i = some t → t < a0.tmps.size) (hgd : (List.range n).all (fun i => ((ops[i]?).bind (·.guard)).isNone) = true)
    (step : ∀ i, i < n → ∀ o, ops[i]? = some o → ∀ (vs : Nat → Value) (a : Act) (w : World), (∀ j, asks ops i j = true → Val j (vs j) w ∧ ∀ t, dstOf ops j = some t → a.eval (.tmp t) = vs j) →
      (∀ t, (List.range n).all (fun j => dstOf ops j != some t) = true → a.eval (.tmp t) = a0.eval (.tmp t)) → Inv w →
      o.wp P a w (fun a' w' => ∃ v, a' = a.put o.dst v ∧ Val i v w' ∧ R i w w' ∧ Inv w') Q)
    (fin : ∀ (vs : Nat → Value) (w : World), (∀ j, j < n → (∀ k, k < n → asks ops k j = false) → Val j (vs j) w) → Inv w → wpList P ops Q (ops.toList.drop n) (putAll ops vs (List.range n) a0) w) : (Code.region id ops true).wp P Q a0 w0 := by
  have hc' := hc
  simp only [extB, Bool.and_eq_true, decide_eq_true_eq] at hc'
  obtain ⟨⟨⟨⟨⟨hn, hsink⟩, hchain⟩, hdist⟩, hord⟩, hseq⟩ := hc'
  have hdd : ∀ i j, i < n → j < n → i ≠ j → ∀ t, dstOf ops i = some t → dstOf ops j ≠ some t := fun i j hi hj hij t ht hjt => by
    have h1 := List.all_eq_true.1 hdist i (List.mem_range.2 hi)
    have h2 := List.all_eq_true.1 h1 j (List.mem_range.2 hj)
    rw [ht, hjt] at h2
    simp at h2
    exact hij h2
  refine wp_region_any hm ?_
  have hh : heads (Array.replicate ops.size false) n = [] := by
    unfold heads
    rw [List.filter_eq_nil_iff]
    intro i hi
    have : i < ops.size := by have := List.mem_range.1 hi; omega
    simp [this]
  have h := ext_any2 (P := P) (Q := Q) (a0 := a0) Inv R Val mono hc (fun i hi o ho vs l w hl hdeps _ hnd how => by
      have hg : o.guard = none := by
        have := List.all_eq_true.1 hgd i (List.mem_range.2 hi)
        rw [ho] at this
        simpa using this
      unfold wpOp
      simp only [ho]
      rw [if_pos (by simp [Region.wanted, hg])]
      refine .inl (step i hi o ho vs _ w (fun j hj => ?_) (fun t ht => ?_) how)
      · have hjl : j ∈ l := by
          unfold asks at hj
          rw [ho] at hj
          obtain ⟨e, he, hb⟩ := Array.any_eq_true'.1 hj
          simp only [Bool.and_eq_true, beq_iff_eq] at hb
          have := hdeps e he hb.1.1
          rwa [hb.1.2] at this
        refine ⟨(hl j hjl).2 hj, fun t ht => ?_⟩
        exact eval_putAll_in ht l _ hjl hnd (fun k hk hkj => hdd j k (hl j hjl).1 (hl k hk).1 (Ne.symm hkj) t ht) (hsz j (hl j hjl).1 t ht)
      · refine eval_putAll_out l _ fun j hj => ?_
        have := List.all_eq_true.1 ht j (List.mem_range.2 (hl j hj).1)
        simpa using this) fin n (Array.replicate ops.size false) (fun _ => undef) w0.drew (by rw [hh]; simp)
    ⟨by simp, (fun j oj _ hl => by rw [getD_replicate_false] at hl; cases hl), fun t _ ht => by simp [ht]⟩ (by rw [hh]; intro j hj; cases hj) hinv
  rw [hh, show n + (ops.size - n) = ops.size from by omega] at h
  exact h
end
end Go.Azu
