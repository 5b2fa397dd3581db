/-
  A REGION THAT DRAWS ITS ORDER: its first n operations leave the world in a class (they read, they call what makes memory), whatever their guards;
  the last ones stand in one forced order. One walk in the order of the text serves all orders.
-/
import Derived.Test.YtjeeeiekabjcfaaRegion
import Derived.Lib.QuietBelow
import Derived.Test.YtjeeeiekabjcfaaAgg
namespace Go.Azu
open Go.RowKit

/-- an operation of the first n looks at no slot of another one that it does not wait for -/
def lookB (ops : Array Oper) (n : Nat) : Bool :=
  (List.range n).all fun i => match ops[i]? with
    | some o => (match o.op with | .select _ _ => false | _ => true) && (List.range n).all fun j => i == j || waits ops i j || (match dstOf ops j with | some t => !(o.looksAt ops).contains t | none => true)
    | none => false

section
variable {P : Program} {ops : Array Oper} {Q : Exit → Act → World → Prop} {a0 : Act} {n : Nat} {C : World → Prop}

theorem tmps_out {vs : Nat → Value} {t : Tmp} : ∀ (l : List Nat) (b : Act), (∀ j ∈ l, dstOf ops j ≠ some t) → (putAll ops vs l b).tmps[t]? = b.tmps[t]?
  | [], _, _ => rfl
  | j :: l, b, h => by
    show (putAll ops vs l (b.put (dstOf ops j) (vs j))).tmps[t]? = _
    rw [tmps_out l _ fun k hk => h k (.tail _ hk)]
    have := h j (.head _)
    cases hd : dstOf ops j with
    | none => rfl
    | some d =>
      have hne : d ≠ t := fun e => this (by rw [hd, e])
      simp [Act.put, Array.getElem?_setIfInBounds_ne hne]
theorem tmps_in {vs : Nat → Value} {t : Tmp} {i : Nat} (hi : dstOf ops i = some t) : ∀ (l : List Nat) (b : Act), i ∈ l → l.Nodup → (∀ j ∈ l, j ≠ i → dstOf ops j ≠ some t) →
    (putAll ops vs l b).tmps[t]? = if t < b.tmps.size then some (vs i) else none
  | j :: l, b, hm, hn, hd => by
    show (putAll ops vs l (b.put (dstOf ops j) (vs j))).tmps[t]? = _
    by_cases hji : j = i
    · subst hji
      rw [tmps_out l _ fun k hk => hd k (.tail _ hk) (fun e => by subst e; exact (List.nodup_cons.1 hn).1 hk), hi]
      simp [Act.put, Array.getElem?_setIfInBounds]
    · have := tmps_in (vs := vs) hi l (b.put (dstOf ops j) (vs j)) (by
        cases hm with
        | head => exact absurd rfl hji
        | tail _ h => exact h) (List.nodup_cons.1 hn).2 (fun k hk => hd k (.tail _ hk))
      rw [this]
      cases dstOf ops j with
      | none => rfl
      | some d => simp [Act.put]

theorem eval_of_tmps {a b : Act} {t : Tmp} (h : a.tmps[t]? = b.tmps[t]?) : a.eval (.tmp t) = b.eval (.tmp t) := by simp [Act.eval, h]

/-- what an operation does hangs on the slots that it looks at -/
theorem yields_same {o : Oper} {v : Value} {a b : Act} (hsel : ∀ cs c, o.op ≠ .select cs c) (hy : YieldsIn P ops C o v a) (h : ∀ t ∈ o.looksAt ops, b.tmps[t]? = a.tmps[t]?) : YieldsIn P ops C o v b := by
  refine hy.of_same (execOp_congr o hsel fun x hx => ?_) ?_
  · cases x with
    | tmp t => exact eval_of_tmps (h t (List.mem_append_left _ (List.mem_filterMap.2 ⟨.tmp t, by simpa using hx, rfl⟩)))
    | _ => rfl
  · unfold Region.wanted
    cases hg : o.guard with
    | none => rfl
    | some gw =>
      obtain ⟨g, want⟩ := gw
      have hyl : yielded ops b.tmps g = yielded ops a.tmps g := by
        unfold yielded
        cases ht : (ops[g]?).bind (·.dst) with
        | none => rfl
        | some t =>
          have := h t (List.mem_append_right _ (by simp [hg, ht]))
          simp [this]
      simp only [hyl]

theorem range_put (vs : Nat → Value) (k : Nat) (a0 : Act) : putAll ops vs (List.range (k + 1)) a0 = (putAll ops vs (List.range k) a0).put (dstOf ops k) (vs k) := by
  rw [List.range_succ]; simp [putAll, List.foldl_append]

theorem vals_of_quiet {Qn : Act → Prop} : ∀ (rest : List Oper) (k : Nat) (vs : Nat → Value), (∀ j, j < rest.length → ops[k + j]? = rest[j]?) → wpQuiet P ops C Qn rest (putAll ops vs (List.range k) a0) →
    ∃ vs' : Nat → Value, (∀ j, j < k → vs' j = vs j) ∧ (∀ i, k ≤ i → i < k + rest.length → ∃ o, ops[i]? = some o ∧ YieldsIn P ops C o (vs' i) (putAll ops vs' (List.range i) a0)) ∧ Qn (putAll ops vs' (List.range (k + rest.length)) a0)
  | [], k, vs, _, h => ⟨vs, fun _ _ => rfl, fun i h1 h2 => by simp at h2; omega, h⟩
  | o :: rest, k, vs, hl, h => by
    have h0 : ops[k]? = some o := by simpa using hl 0 (by simp)
    have hst : qOp P ops C k (wpQuiet P ops C Qn rest) (putAll ops vs (List.range k) a0) := by unfold qOp; simp only [h0]; exact h
    obtain ⟨v, hy, hK⟩ := yieldsIn_of_qOp h0 hst
    have hd : o.dst = dstOf ops k := by simp [dstOf, h0]
    have e1 : putAll ops (fun j => if j = k then v else vs j) (List.range k) a0 = putAll ops vs (List.range k) a0 :=
      putAll_congr _ _ fun j hj => by
        have := List.mem_range.1 hj
        rw [if_neg (by omega)]
    have e2 : putAll ops (fun j => if j = k then v else vs j) (List.range (k + 1)) a0 = (putAll ops vs (List.range k) a0).put o.dst v := by
      rw [range_put, e1, hd, if_pos rfl]
    rw [← e2] at hK
    obtain ⟨vs', g1, g2, g3⟩ := vals_of_quiet rest (k + 1) _ (fun j hj => by have := hl (j + 1) (by simpa using hj); simpa [Nat.add_assoc, Nat.add_comm 1 j] using this) hK
    have g1' : ∀ j, j < k → vs' j = vs j := fun j hj => by rw [g1 j (by omega), if_neg (by omega)]
    refine ⟨vs', g1', fun i h1 h2 => ?_, by simpa [Nat.add_assoc, Nat.add_comm 1] using g3⟩
    by_cases hik : i = k
    · subst hik
      refine ⟨o, h0, ?_⟩
      rw [g1 i (by omega), if_pos rfl]
      rw [putAll_congr (vs := vs') (vs' := vs) _ _ fun j hj => g1' j (List.mem_range.1 hj)]
      exact hy
    · exact g2 i (by omega) (by simp at h2; omega)

theorem wpOp_of_yields {i : Nat} {o : Oper} {v : Value} {a : Act} {w : World} (ho : ops[i]? = some o) (hC : C w) (hy : YieldsIn P ops C o v a) : wpOp P ops Q i (fun a' w' => a' = a.put o.dst v ∧ C w') a w :=
  wpOp_of_qOp (K := fun a' => a' = a.put o.dst v) hC (fun _ _ hc ha => ⟨ha, hc⟩) (hy.qOp ho rfl)

theorem ext_any3 (vals : Nat → Value) (hc : extB ops n = true)
    (step : ∀ i, i < n → ∀ o, ops[i]? = some o → ∀ (l : List Nat) (w : World), (∀ j ∈ l, j < n) → (∀ e ∈ o.after, Region.binds .any e = true → e.on ∈ l) → i ∉ l → l.Nodup → C w →
      wpOp P ops Q i (fun a' w' => a' = (putAll ops vals l a0).put o.dst (vals i) ∧ C w') (putAll ops vals l a0) w)
    (fin : ∀ (w : World), C w → wpList P ops Q (ops.toList.drop n) (putAll ops vals (List.range n) a0) w) :
    ∀ (d : Nat) (listed : Array Bool) (w : World), n - (heads listed n).length = d → HeadInv .any ops n listed → C w →
      wpAny P .any ops Q (d + (ops.size - n)) listed (putAll ops vals (heads listed n) a0) w := by
  simp only [extB, Bool.and_eq_true, decide_eq_true_eq] at hc
  obtain ⟨⟨⟨⟨⟨hn, hsink⟩, hchain⟩, hdist⟩, hord⟩, hseq⟩ := hc
  intro d
  induction d with
  | zero =>
    intro listed w hd inv ho
    have hle := heads_le listed n
    have hall := heads_all (n := n) (listed := listed) (by omega)
    have hh : heads listed n = List.range n := by
      unfold heads
      exact List.filter_eq_self.2 fun i hi => hall i (List.mem_range.1 hi)
    have hl : listed = (Array.replicate n true) ++ Array.replicate (ops.size - n) false := by
      apply Array.ext
      · simp [inv.size]; omega
      · intro i h1 h2
        have g1 : listed.getD i true = listed[i] := by simp [h1]
        by_cases hin : i < n
        · rw [← g1, hall i hin]
          rw [Array.getElem_append_left (by simpa using hin)]; simp
        · rw [← g1, inv.tail i (by omega) (by rw [← inv.size]; exact h1)]
          rw [Array.getElem_append_right (by simp; omega)]; simp
    rw [Nat.zero_add, hh]
    have hlen : (ops.toList.drop n).length = ops.size - n := by simp
    rw [← hlen]
    exact wpAny_of_seq _ n listed _ w (fun j => by simp [List.getElem?_drop]) (by rw [hl, hlen]; exact hseq) (fin w ho)
  | succ d ih =>
    intro listed w hd inv ho
    have hle := heads_le listed n
    obtain ⟨m, hm, hum, hmin⟩ : ∃ m, m < n ∧ listed.getD m true = false ∧ ∀ j, j < m → listed.getD j true = true := by
      have hne : ∃ m, m < n ∧ listed.getD m true = false := by
        apply Classical.byContradiction
        intro hcon
        have hall : ∀ i, i < n → listed.getD i true = true := fun i hi => by
          cases hg : listed.getD i true with
          | true => rfl
          | false => exact absurd ⟨i, hi, hg⟩ hcon
        have hh : heads listed n = List.range n := by
          unfold heads
          exact List.filter_eq_self.2 fun i hi => hall i (List.mem_range.1 hi)
        rw [hh] at hd
        simp at hd
      obtain ⟨m, hm⟩ := hne
      induction m using Nat.strongRecOn with
      | _ m ihm =>
        by_cases hx : ∃ j, j < m ∧ listed.getD j true = false
        · obtain ⟨j, hj, hjf⟩ := hx
          exact ihm j hj ⟨by omega, hjf⟩
        · refine ⟨m, hm.1, hm.2, fun j hj => ?_⟩
          cases hg : listed.getD j true with
          | true => rfl
          | false => exact absurd ⟨j, hj, hg⟩ hx
    have hord' : ∀ i, i < n → ∀ o, ops[i]? = some o → ∀ e ∈ o.after, Region.binds .any e = true → e.on < i := by
      intro i hi o ho' e he hb
      have := List.all_eq_true.1 hord i (List.mem_range.2 hi)
      rw [ho'] at this
      have := Array.all_eq_true'.1 this e he
      simpa [hb] using this
    have hmr : m ∈ Region.ready .any ops listed := by
      have hms : m < ops.size := by omega
      refine mem_ready.2 ⟨hum, ops[m], Array.getElem?_eq_getElem hms, fun e he hb => ?_⟩
      have hlt := hord' m hm _ (Array.getElem?_eq_getElem hms) e he hb
      have := hmin e.on hlt
      have hes : e.on < listed.size := by rw [inv.size]; omega
      simpa [hes] using this
    rw [show d + 1 + (ops.size - n) = (d + (ops.size - n)) + 1 from by omega]
    refine ⟨fun h => absurd hmr (by rw [h]; simp), fun i hi => ?_⟩
    have hin : i < n := by
      rcases Nat.lt_or_ge i n with h | h
      · exact h
      · exact absurd hi (tail_waits hsink hchain hn inv _ m rfl hm hum i h)
    obtain ⟨hui, oi, hoi, hall⟩ := mem_ready.1 hi
    have his : i < listed.size := by rw [inv.size]; omega
    obtain ⟨l1, l2, e1, e2, hne⟩ := heads_set hin his hui
    have hdeps : ∀ e ∈ oi.after, Region.binds .any e = true → e.on ∈ heads listed n := fun e he hb => by
      have hlt := hord' i hin oi hoi e he hb
      have hl := hall e he hb
      unfold heads
      refine List.mem_filter.2 ⟨List.mem_range.2 (by omega), ?_⟩
      have hes : e.on < listed.size := by rw [inv.size]; omega
      simpa [hes] using hl
    have hst := step i hin oi hoi (heads listed n) w (fun j hj => List.mem_range.1 (List.mem_filter.1 hj).1) hdeps (fun hmem => (hne i (by rw [← e1]; exact hmem)).1 rfl) (List.nodup_range.filter _) ho
    refine wpOp_mono ?_ hst
    rintro a' w' ⟨rfl, how⟩
    have hdi : oi.dst = dstOf ops i := by simp [dstOf, hoi]
    have hput : (putAll ops vals (heads listed n) a0).put oi.dst (vals i) = putAll ops vals (heads (listed.setIfInBounds i true) n) a0 := by
      rw [e1, e2, hdi]
      have happ : ∀ (u : Nat → Value) (x y : List Nat) (b : Act), putAll ops u (x ++ y) b = putAll ops u y (putAll ops u x b) := fun u x y b => by simp [putAll, List.foldl_append]
      rw [happ, happ]
      rw [putAll_commute l2 _ (fun j hj t ht hjt => by
        have hj' := hne j (List.mem_append_right _ hj)
        have h1 := List.all_eq_true.1 hdist i (List.mem_range.2 hin)
        have h2 := List.all_eq_true.1 h1 j (List.mem_range.2 hj'.2)
        rw [ht, hjt] at h2
        simp at h2
        exact hj'.1 h2.symm)]
      rfl
    rw [hput]
    have hlen : (heads (listed.setIfInBounds i true) n).length = (heads listed n).length + 1 := by rw [e1, e2]; simp; omega
    exact ih (listed.setIfInBounds i true) w' (by omega) (inv.set hi hin) how

/-- THE REGION: ONE WALK of its first n operations, in the order of the text, in a class of worlds; then its last ones. -/
theorem wp_region_class {id : Nat} {l : List Oper} {w0 : World} (n : Nat) (hm : P.follows .mixedOrders = true) (hB : (extB l.toArray n && lookB l.toArray n) = true) (hC : C w0.drew)
    (h : wpQuiet P l.toArray C (fun a' => ∀ w', C w' → wpList P l.toArray Q (l.drop n) a' w') (l.take n) a0) : (Code.region id l.toArray true).wp P Q a0 w0 := by
  rw [Bool.and_eq_true] at hB
  obtain ⟨hE, hL⟩ := hB
  have hE' := hE
  simp only [extB, Bool.and_eq_true, decide_eq_true_eq] at hE'
  obtain ⟨⟨⟨⟨⟨hn, _⟩, _⟩, hdist⟩, _⟩, _⟩ := hE'
  have hn' : n < l.length := by simpa using hn
  have htl : (l.take n).length = n := by simp; omega
  have hdd : ∀ i j, i < n → j < n → i ≠ j → ∀ t, dstOf l.toArray i = some t → dstOf l.toArray j ≠ some t := fun i j hi hj hij t ht hjt => by
    have h1 := List.all_eq_true.1 hdist i (List.mem_range.2 hi)
    have h2 := List.all_eq_true.1 h1 j (List.mem_range.2 hj)
    rw [ht, hjt] at h2
    simp at h2
    exact hij h2
  obtain ⟨vals, _, g2, g3⟩ := vals_of_quiet (P := P) (ops := l.toArray) (a0 := a0) (l.take n) 0 (fun _ => undef) (fun j hj => by
    have : j < n := by rw [htl] at hj; exact hj
    simp [this]) (by simpa [putAll] using h)
  rw [htl, Nat.zero_add] at g3
  refine wp_region_any hm ?_
  have hh : heads (Array.replicate l.toArray.size false) n = [] := by
    unfold heads
    rw [List.filter_eq_nil_iff]
    intro i hi
    have : i < l.length := by have := List.mem_range.1 hi; omega
    simp [this]
  have H := ext_any3 (P := P) (Q := Q) (a0 := a0) (C := C) vals hE (fun i hi o ho ls w hl hdeps hni hnd hw => by
      obtain ⟨o', ho', hy⟩ := g2 i (Nat.zero_le _) (by rw [htl]; omega)
      have : o' = o := Option.some.inj (ho'.symm.trans ho)
      subst this
      have hb := List.all_eq_true.1 hL i (List.mem_range.2 hi)
      rw [ho] at hb
      simp only [Bool.and_eq_true] at hb
      refine wpOp_of_yields ho hw (yields_same (fun cs c e => by rw [e] at hb; simp at hb) hy fun t ht => ?_)
      by_cases hx : ∃ j, j < n ∧ j ≠ i ∧ dstOf l.toArray j = some t
      · obtain ⟨j, hj, hji, hd⟩ := hx
        have h1 := List.all_eq_true.1 hb.2 j (List.mem_range.2 hj)
        rw [hd] at h1
        have hwt : waits l.toArray i j = true := by
          rcases hq : waits l.toArray i j with _ | _
          · rw [hq] at h1
            simp [Ne.symm hji, ht] at h1
          · rfl
        have hjl : j ∈ ls := by
          unfold waits at hwt
          rw [ho] at hwt
          obtain ⟨e, he, hb'⟩ := Array.any_eq_true'.1 hwt
          simp only [Bool.and_eq_true, beq_iff_eq] at hb'
          have := hdeps e he hb'.1
          rwa [hb'.2] at this
        have hji' : j < i := by
          have h2 := List.all_eq_true.1 (by assumption : ((List.range n).all fun i => match l.toArray[i]? with | some o => o.after.all fun e => !Region.binds .any e || decide (e.on < i) | none => false) = true) i (List.mem_range.2 hi)
          rw [ho] at h2
          unfold waits at hwt
          rw [ho] at hwt
          obtain ⟨e, he, hb'⟩ := Array.any_eq_true'.1 hwt
          simp only [Bool.and_eq_true, beq_iff_eq] at hb'
          have h3 := Array.all_eq_true'.1 h2 e he
          simp [hb'.1] at h3
          omega
        rw [tmps_in hd ls _ hjl hnd (fun k hk hkj => hdd j k hj (hl k hk) (Ne.symm hkj) t hd), tmps_in hd (List.range i) _ (List.mem_range.2 hji') List.nodup_range (fun k hk hkj => hdd j k hj (by have := List.mem_range.1 hk; omega) (Ne.symm hkj) t hd)]
      · have hno : ∀ j, j < n → j ≠ i → dstOf l.toArray j ≠ some t := fun j hj hji hd => hx ⟨j, hj, hji, hd⟩
        rw [tmps_out ls _ (fun j hj => hno j (hl j hj) (fun e => hni (e ▸ hj))), tmps_out (List.range i) _ (fun j hj => hno j (by have := List.mem_range.1 hj; omega) (by have := List.mem_range.1 hj; omega))])
    (fun w hw => g3 w hw) n (Array.replicate l.toArray.size false) w0.drew (by rw [hh]; simp)
    ⟨by simp, (fun j oj _ hl => by rw [getD_replicate_false] at hl; cases hl), fun t _ ht => getD_in (by simpa using ht) (getD_replicate_false _ _)⟩ hC
  rw [hh, show n + (l.toArray.size - n) = l.toArray.size from by omega] at H
  exact H

section
variable {w0 : World}
theorem ext_any4 (c : Nat) (Inv : Bool → World → Prop) (Val : Nat → Value → Prop) (hc : extB ops n = true)
    (step : ∀ i, i < n → ∀ o, ops[i]? = some o → ∀ (vs : Nat → Value) (l : List Nat) (w : World), (∀ j ∈ l, j < n ∧ Val j (vs j)) → (∀ e ∈ o.after, Region.binds .any e = true → e.on ∈ l) → i ∉ l → l.Nodup → (∀ j ∈ l, waits ops j i = false) → Inv (decide (c ∈ l)) w →
      wpOp P ops Q i (fun a' w' => ∃ v, a' = (putAll ops vs l a0).put o.dst v ∧ Val i v ∧ Inv (decide (c ∈ l) || decide (c = i)) w') (putAll ops vs l a0) w)
    (hcn : c < n) (fin : ∀ (vs : Nat → Value) (w : World), (∀ j, j < n → Val j (vs j)) → Inv true w → wpList P ops Q (ops.toList.drop n) (putAll ops vs (List.range n) a0) w) :
    ∀ (d : Nat) (listed : Array Bool) (vs : Nat → Value) (w : World), n - (heads listed n).length = d → HeadInv .any ops n listed → (∀ j ∈ heads listed n, Val j (vs j)) → Inv (decide (c ∈ heads listed n)) w →
      wpAny P .any ops Q (d + (ops.size - n)) listed (putAll ops vs (heads listed n) a0) w := by
  simp only [extB, Bool.and_eq_true, decide_eq_true_eq] at hc
  obtain ⟨⟨⟨⟨⟨hn, hsink⟩, hchain⟩, hdist⟩, hord⟩, hseq⟩ := hc
  intro d
  induction d with
  | zero =>
    intro listed vs w hd inv hv ho
    have hle := heads_le listed n
    have hall := heads_all (n := n) (listed := listed) (by omega)
    have hh : heads listed n = List.range n := by
      unfold heads
      exact List.filter_eq_self.2 fun i hi => hall i (List.mem_range.1 hi)
    have hl : listed = (Array.replicate n true) ++ Array.replicate (ops.size - n) false := by
      apply Array.ext
      · simp [inv.size]; omega
      · intro i h1 h2
        have g1 : listed.getD i true = listed[i] := by simp [h1]
        by_cases hin : i < n
        · rw [← g1, hall i hin]
          rw [Array.getElem_append_left (by simpa using hin)]; simp
        · rw [← g1, inv.tail i (by omega) (by rw [← inv.size]; exact h1)]
          rw [Array.getElem_append_right (by simp; omega)]; simp
    rw [Nat.zero_add, hh]
    have hlen : (ops.toList.drop n).length = ops.size - n := by simp
    rw [← hlen]
    refine wpAny_of_seq _ n listed _ w (fun j => by simp [List.getElem?_drop]) (by rw [hl, hlen]; exact hseq) (fin vs w (fun j hj => hv j (by rw [hh]; exact List.mem_range.2 hj)) (by
      have hcm : c ∈ heads listed n := by rw [hh]; exact List.mem_range.2 hcn
      simpa [hcm] using ho))
  | succ d ih =>
    intro listed vs w hd inv hv ho
    have hle := heads_le listed n
    -- some first one is unlisted, and the least such is ready
    obtain ⟨m, hm, hum, hmin⟩ : ∃ m, m < n ∧ listed.getD m true = false ∧ ∀ j, j < m → listed.getD j true = true := by
      have hne : ∃ m, m < n ∧ listed.getD m true = false := by
        apply Classical.byContradiction
        intro hcon
        have hall : ∀ i, i < n → listed.getD i true = true := fun i hi => by
          cases hg : listed.getD i true with
          | true => rfl
          | false => exact absurd ⟨i, hi, hg⟩ hcon
        have hh : heads listed n = List.range n := by
          unfold heads
          exact List.filter_eq_self.2 fun i hi => hall i (List.mem_range.1 hi)
        rw [hh] at hd
        simp at hd
      obtain ⟨m, hm⟩ := hne
      induction m using Nat.strongRecOn with
      | _ m ihm =>
        by_cases hx : ∃ j, j < m ∧ listed.getD j true = false
        · obtain ⟨j, hj, hjf⟩ := hx
          exact ihm j hj ⟨by omega, hjf⟩
        · refine ⟨m, hm.1, hm.2, fun j hj => ?_⟩
          cases hg : listed.getD j true with
          | true => rfl
          | false => exact absurd ⟨j, hj, hg⟩ hx
    have hord' : ∀ i, i < n → ∀ o, ops[i]? = some o → ∀ e ∈ o.after, Region.binds .any e = true → e.on < i := by
      intro i hi o ho' e he hb
      have := List.all_eq_true.1 hord i (List.mem_range.2 hi)
      rw [ho'] at this
      have := Array.all_eq_true'.1 this e he
      simpa [hb] using this
    have hmr : m ∈ Region.ready .any ops listed := by
      have hms : m < ops.size := by omega
      refine mem_ready.2 ⟨hum, ops[m], Array.getElem?_eq_getElem hms, fun e he hb => ?_⟩
      have hlt := hord' m hm _ (Array.getElem?_eq_getElem hms) e he hb
      have := hmin e.on hlt
      have hes : e.on < listed.size := by rw [inv.size]; omega
      simpa [hes] using this
    rw [show d + 1 + (ops.size - n) = (d + (ops.size - n)) + 1 from by omega]
    refine ⟨fun h => absurd hmr (by rw [h]; simp), fun i hi => ?_⟩
    have hin : i < n := by
      rcases Nat.lt_or_ge i n with h | h
      · exact h
      · exact absurd hi (tail_waits hsink hchain hn inv _ m rfl hm hum i h)
    obtain ⟨hui, oi, hoi, hall⟩ := mem_ready.1 hi
    have his : i < listed.size := by rw [inv.size]; omega
    obtain ⟨l1, l2, e1, e2, hne⟩ := heads_set hin his hui
    have hdeps : ∀ e ∈ oi.after, Region.binds .any e = true → e.on ∈ heads listed n := fun e he hb => by
      have hlt := hord' i hin oi hoi e he hb
      have hl := hall e he hb
      unfold heads
      refine List.mem_filter.2 ⟨List.mem_range.2 (by omega), ?_⟩
      have hes : e.on < listed.size := by rw [inv.size]; omega
      simpa [hes] using hl
    have hcl : ∀ j ∈ heads listed n, waits ops j i = false := fun j hj => by
      rcases hq : waits ops j i with _ | _
      · rfl
      · exfalso
        unfold waits at hq
        split at hq
        · rename_i oj hoj
          obtain ⟨e, he, hb⟩ := Array.any_eq_true'.1 hq
          simp only [Bool.and_eq_true, beq_iff_eq] at hb
          have h2 := (List.mem_filter.1 hj).2
          have hjs : j < listed.size := by have := List.mem_range.1 (List.mem_filter.1 hj).1; rw [inv.size]; omega
          have h1 := inv.closed j oj hoj (by simpa [hjs] using h2) e he hb.1
          rw [hb.2, getD_both hui] at h1
          cases h1
        · cases hq
    have hst := step i hin oi hoi vs (heads listed n) w (fun j hj => ⟨List.mem_range.1 (List.mem_filter.1 hj).1, hv j hj⟩) hdeps (fun hmem => (hne i (by rw [← e1]; exact hmem)).1 rfl) (List.nodup_range.filter _) hcl ho
    refine wpOp_mono ?_ hst
    rintro a' w' ⟨v, rfl, hval, how⟩
    have hdi : oi.dst = dstOf ops i := by simp [dstOf, hoi]
    have hput : (putAll ops vs (heads listed n) a0).put oi.dst v = putAll ops (fun j => if j = i then v else vs j) (heads (listed.setIfInBounds i true) n) a0 := by
      rw [e1, e2, hdi]
      have hcongr : ∀ (l : List Nat) (b : Act), (∀ j ∈ l, j ≠ i) → putAll ops vs l b = putAll ops (fun j => if j = i then v else vs j) l b := fun l b hl =>
        putAll_congr l b fun j hj => by rw [if_neg (hl j hj)]
      have happ : ∀ (u : Nat → Value) (x y : List Nat) (b : Act), putAll ops u (x ++ y) b = putAll ops u y (putAll ops u x b) := fun u x y b => by simp [putAll, List.foldl_append]
      rw [happ, happ, hcongr l1 _ (fun j hj => (hne j (List.mem_append_left _ hj)).1), hcongr l2 _ (fun j hj => (hne j (List.mem_append_right _ hj)).1)]
      rw [putAll_commute l2 _ (fun j hj t ht hjt => by
        have hj' := hne j (List.mem_append_right _ hj)
        have h1 := List.all_eq_true.1 hdist i (List.mem_range.2 hin)
        have h2 := List.all_eq_true.1 h1 j (List.mem_range.2 hj'.2)
        rw [ht, hjt] at h2
        simp at h2
        exact hj'.1 h2.symm)]
      show _ = putAll ops _ l2 ((putAll ops _ l1 a0).put (dstOf ops i) (if i = i then v else vs i))
      rw [if_pos rfl]
    rw [hput]
    have hlen : (heads (listed.setIfInBounds i true) n).length = (heads listed n).length + 1 := by rw [e1, e2]; simp; omega
    refine ih (listed.setIfInBounds i true) (fun j => if j = i then v else vs j) w' (by omega) (inv.set hi hin) ?_ (by
      have hcm : decide (c ∈ heads (listed.setIfInBounds i true) n) = (decide (c ∈ heads listed n) || decide (c = i)) := by
        rw [e1, e2, Bool.eq_iff_iff]
        simp only [decide_eq_true_eq, Bool.or_eq_true, List.mem_append, List.mem_cons]
        constructor
        · rintro (h | h | h)
          · exact .inl (.inl h)
          · exact .inr h
          · exact .inl (.inr h)
        · rintro ((h | h) | h)
          · exact .inl h
          · exact .inr (.inr h)
          · exact .inr (.inl h)
      rw [hcm]
      exact how)
    intro j hj
    rw [e2] at hj
    by_cases hji : j = i
    · subst hji; simp only [if_pos]; exact hval
    · simp only [if_neg hji]
      refine hv j ?_
      rw [e1]
      simp only [List.mem_append, List.mem_cons] at hj ⊢
      rcases hj with h | h | h
      · exact .inl h
      · exact absurd h hji
      · exact .inr h


/-- THE REGION, where one operation, number c, changes what the invariant says: each of its first n operations is walked once; then its last ones. -/
theorem wp_region_one {id : Nat} (n c : Nat) (hm : P.follows .mixedOrders = true) (Inv : Bool → World → Prop) (Val : Nat → Value → Prop) (hinv : Inv false w0.drew) (hc : extB ops n = true) (hcn : c < n)
    (hgd : (List.range n).all (fun i => ((ops[i]?).bind (·.guard)).isNone) = true) (hsz : ∀ i, i < n → ∀ t, dstOf ops i = some t → t < a0.tmps.size)
    (step : ∀ i, i < n → ∀ o, ops[i]? = some o → ∀ (a : Act) (w : World) (b : Bool), (i = c → b = false) → (waits ops i c = true → b = true) → (waits ops c i = true → b = false) → (∀ j, waits ops i j = true → ∀ t, dstOf ops j = some t → Val j (a.tmps[t]?.getD undef)) →
      (∀ t, (List.range n).all (fun j => dstOf ops j != some t) = true → a.tmps[t]?.getD undef = a0.tmps[t]?.getD undef) → Inv b w →
      o.wp P a w (fun a' w' => ∃ v, a' = a.put o.dst v ∧ Val i v ∧ Inv (b || decide (c = i)) w') Q)
    (fin : ∀ (vs : Nat → Value) (w : World), (∀ j, j < n → Val j (vs j)) → Inv true w → wpList P ops Q (ops.toList.drop n) (putAll ops vs (List.range n) a0) w) : (Code.region id ops true).wp P Q a0 w0 := by
  have hc' := hc
  simp only [extB, Bool.and_eq_true, decide_eq_true_eq] at hc'
  obtain ⟨⟨⟨⟨⟨hn, hsink⟩, hchain⟩, hdist⟩, hord⟩, hseq⟩ := hc'
  have hdd : ∀ i j, i < n → j < n → i ≠ j → ∀ t, dstOf ops i = some t → dstOf ops j ≠ some t := fun i j hi hj hij t ht hjt => by
    have h1 := List.all_eq_true.1 hdist i (List.mem_range.2 hi)
    have h2 := List.all_eq_true.1 h1 j (List.mem_range.2 hj)
    rw [ht, hjt] at h2
    simp at h2
    exact hij h2
  refine wp_region_any hm ?_
  have hh : heads (Array.replicate ops.size false) n = [] := by
    unfold heads
    rw [List.filter_eq_nil_iff]
    intro i hi
    have : i < ops.size := by have := List.mem_range.1 hi; omega
    simp [this]
  have h := ext_any4 (P := P) (Q := Q) (a0 := a0) c Inv Val hc (fun i hi o ho vs l w hl hdeps hni hnd hcl how => by
      have hg : o.guard = none := by
        have := List.all_eq_true.1 hgd i (List.mem_range.2 hi)
        rw [ho] at this
        simpa using this
      have hwl : ∀ j, waits ops i j = true → j ∈ l := fun j hj => by
        unfold waits at hj
        rw [ho] at hj
        obtain ⟨e, he, hb⟩ := Array.any_eq_true'.1 hj
        simp only [Bool.and_eq_true, beq_iff_eq] at hb
        have := hdeps e he hb.1
        rwa [hb.2] at this
      unfold wpOp
      simp only [ho]
      rw [if_pos (by simp [Region.wanted, hg])]
      refine .inl (step i hi o ho _ w _ (fun e => by subst e; simpa using hni) (fun hw => by simpa using hwl c hw) (fun hw => by
        rcases hq : decide (c ∈ l) with _ | _
        · rfl
        · have := hcl c (by simpa using hq)
          rw [this] at hw; cases hw) (fun j hj t ht => ?_) (fun t ht => ?_) how)
      · have hjl := hwl j hj
        have := eval_putAll_in (vs := vs) ht l a0 hjl hnd (fun k hk hkj => hdd j k (hl j hjl).1 (hl k hk).1 (Ne.symm hkj) t ht) (hsz j (hl j hjl).1 t ht)
        have h2 : (putAll ops vs l a0).tmps[t]?.getD undef = vs j := by simpa [Act.eval] using this
        rw [h2]
        exact (hl j hjl).2
      · rw [tmps_out l _ fun j hj => ?_]
        have := List.all_eq_true.1 ht j (List.mem_range.2 (hl j hj).1)
        simpa using this) hcn fin n (Array.replicate ops.size false) (fun _ => undef) w0.drew (by rw [hh]; simp)
    ⟨by simp, (fun j oj _ hl => by rw [getD_replicate_false] at hl; cases hl), fun t _ ht => by simp [ht]⟩ (by rw [hh]; intro j hj; cases hj) (by rw [hh]; simpa using hinv)
  rw [hh, show n + (ops.size - n) = ops.size from by omega] at h
  exact h
end

/-- at the class 'with some new blocks' -/
theorem wp_region_below {id : Nat} {l : List Oper} {w0 : World} (n : Nat) (hm : P.follows .mixedOrders = true) (hB : (extB l.toArray n && lookB l.toArray n) = true)
    (h : wpQuiet P l.toArray (fun w' => ∃ p : Regrown, w' = Sort.grow (redrawn w0 p.d) p.os) (fun a' => ∀ w', (∃ p : Regrown, w' = Sort.grow (redrawn w0 p.d) p.os) → wpList P l.toArray Q (l.drop n) a' w') (l.take n) a0) : (Code.region id l.toArray true).wp P Q a0 w0 :=
  wp_region_class n hm hB ⟨⟨w0.drawn + 1, #[]⟩, by rw [Sort.grow_empty]; rfl⟩ h
end

theorem only_of_regrown {w : World} (d : Nat) (os : Array Obj) : Only [] w (Sort.grow (redrawn w d) os) := Only.below (below_regrown w d os) (Nat.le_refl _)
theorem regrown_of_only {w w' : World} (h : Only [] w w') : ∃ p : Regrown, w' = Sort.grow (redrawn w p.d) p.os := regrown_of_below h.to_below
theorem Calls.regrown {P : Program} {f : FuncId} {args : Array Value} {w : World} {d : Nat} {os : Array Obj} {v : Value}
    (h : Calls P f args (Sort.grow (redrawn w d) os) fun e w' => e = .returned v ∧ Only [] (Sort.grow (redrawn w d) os) w') : Calls P f args (Sort.grow (redrawn w d) os) fun e w'' => e = .returned v ∧ ∃ p : Regrown, w'' = Sort.grow (redrawn w p.d) p.os :=
  h.mono fun _ _ ⟨he, hb⟩ => ⟨he, regrown_of_only ((only_of_regrown d os).trans hb)⟩
theorem Calls.regrown_same {P : Program} {f : FuncId} {args : Array Value} {w : World} {d : Nat} {os : Array Obj} {v : Value}
    (h : Calls P f args (Sort.grow (redrawn w d) os) fun e w' => e = .returned v ∧ Sort.grow (redrawn w d) os = w') : Calls P f args (Sort.grow (redrawn w d) os) fun e w'' => e = .returned v ∧ ∃ p : Regrown, w'' = Sort.grow (redrawn w p.d) p.os :=
  h.mono fun _ _ ⟨he, hb⟩ => ⟨he, ⟨d, os⟩, hb.symm⟩
/-- in a quiet walk: a struct or an array loaded -/
theorem wq_load {P : Program} {ops : Array Oper} {C : World → Prop} {Q : Act → Prop} {rest : List Oper} {a : Act} {dst : Option Tmp} {type ty t : TypeId} {pos : String} {after : Array Edge} {x : Operand} {g off n : Nat} {xs vs : List Value} (T : ATy P ty n)
    (hb : ∀ w, C w → Blk w g t xs.toArray) (hx : a.eval x = .pointer (some ⟨g, off, none⟩)) (hvs : (xs.drop off).take n = vs) (hn : vs.length = n)
    (h : wpQuiet P ops C Q rest (a.put dst (.agg vs.toArray))) : wpQuiet P ops C Q (⟨dst, .load ty x, type, pos, after, none⟩ :: rest) a :=
  wpQuiet_step fun K hK => by
    rw [if_pos (by simp [Region.wanted])]
    refine ⟨.agg vs.toArray, fun w hw => ?_, hK _ h⟩
    unfold Oper.quietAt execOp
    simp only [hx, Instr.loadAt, Instr.sureAddr, Sem.run_bind, Sem.run_pure, Result.andThen_ok, run_load_part T (hb w hw) hvs hn]
    exact ⟨rfl, rfl⟩
theorem Blk.regrown {w : World} {g : Nat} {t : TypeId} {cs : Array Value} (h : Blk w g t cs) (d : Nat) (os : Array Obj) (i : Nat) : (Sort.grow (redrawn w d) os).cell? ⟨g, i, none⟩ = cs[i]? := by
  rw [(below_regrown w d os).cell h.lt]; exact h.cell i
end Go.Azu
