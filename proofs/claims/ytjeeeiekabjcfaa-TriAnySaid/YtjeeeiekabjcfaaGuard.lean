/-
  A REGION THAT DRAWS ITS ORDER, with one operation that changes what the others read, and guards that all hold.
-/
import Derived.Test.YtjeeeiekabjcfaaTail
import Derived.Laws.StructEq
namespace Go.Azu
open Go.RowKit

section
variable {P : Program} {ops : Array Oper} {Q : Exit → Act → World → Prop} {a0 : Act} {n : Nat} {w0 : World}
/-- THE REGION, some of whose operations stand behind guards that all hold, where one operation, number c, changes what the invariant says: each of its first n operations is walked once; then its last ones. -/
theorem wp_region_oneg {id : Nat} (n c : Nat) (hm : P.follows .mixedOrders = true) (Inv : Bool → World → Prop) (Val : Nat → Value → Prop) (hinv : Inv false w0.drew) (hc : extB ops n = true) (hcn : c < n)
    (hgd : ∀ i, i < n → ∀ o, ops[i]? = some o → ∀ gd, o.guard = some gd → waits ops i gd.1 = true ∧ ∃ t, dstOf ops gd.1 = some t ∧ ∀ v, Val gd.1 v → v = .bool gd.2) (hsz : ∀ i, i < n → ∀ t, dstOf ops i = some t → t < a0.tmps.size)
    (step : ∀ i, i < n → ∀ o, ops[i]? = some o → ∀ (a : Act) (w : World) (b : Bool), (i = c → b = false) → (waits ops i c = true → b = true) → (waits ops c i = true → b = false) → (∀ j, waits ops i j = true → ∀ t, dstOf ops j = some t → Val j (a.tmps[t]?.getD undef)) →
      (∀ t, (List.range n).all (fun j => dstOf ops j != some t) = true → a.tmps[t]?.getD undef = a0.tmps[t]?.getD undef) → Inv b w →
      o.wp P a w (fun a' w' => ∃ v, a' = a.put o.dst v ∧ Val i v ∧ Inv (b || decide (c = i)) w') Q)
    (fin : ∀ (vs : Nat → Value) (w : World), (∀ j, j < n → Val j (vs j)) → Inv true w → wpList P ops Q (ops.toList.drop n) (putAll ops vs (List.range n) a0) w) : (Code.region id ops true).wp P Q a0 w0 := by
  have hc' := hc
  simp only [extB, Bool.and_eq_true, decide_eq_true_eq] at hc'
  obtain ⟨⟨⟨⟨⟨hn, hsink⟩, hchain⟩, hdist⟩, hord⟩, hseq⟩ := hc'
  have hdd : ∀ i j, i < n → j < n → i ≠ j → ∀ t, dstOf ops i = some t → dstOf ops j ≠ some t := fun i j hi hj hij t ht hjt => by
    have h1 := List.all_eq_true.1 hdist i (List.mem_range.2 hi)
    have h2 := List.all_eq_true.1 h1 j (List.mem_range.2 hj)
    rw [ht, hjt] at h2
    simp at h2
    exact hij h2
  refine wp_region_any hm ?_
  have hh : heads (Array.replicate ops.size false) n = [] := by
    unfold heads
    rw [List.filter_eq_nil_iff]
    intro i hi
    have : i < ops.size := by have := List.mem_range.1 hi; omega
    simp [this]
  have h := ext_any4 (P := P) (Q := Q) (a0 := a0) c Inv Val hc (fun i hi o ho vs l w hl hdeps hni hnd hcl how => by
      have hwl : ∀ j, waits ops i j = true → j ∈ l := fun j hj => by
        unfold waits at hj
        rw [ho] at hj
        obtain ⟨e, he, hb⟩ := Array.any_eq_true'.1 hj
        simp only [Bool.and_eq_true, beq_iff_eq] at hb
        have := hdeps e he hb.1
        rwa [hb.2] at this
      unfold wpOp
      simp only [ho]
      have hval : ∀ j, waits ops i j = true → ∀ t, dstOf ops j = some t → (putAll ops vs l a0).tmps[t]? = some (vs j) := fun j hj t ht => by
        have hjl := hwl j hj
        have hts := hsz j (hl j hjl).1 t ht
        have := eval_putAll_in (vs := vs) ht l a0 hjl hnd (fun k hk hkj => hdd j k (hl j hjl).1 (hl k hk).1 (Ne.symm hkj) t ht) hts
        have hsz2 : t < (putAll ops vs l a0).tmps.size := by rw [size_putAll]; exact hts
        rw [Array.getElem?_eq_getElem hsz2] at *
        simpa [Act.eval, hsz2] using this
      have hwant : Region.wanted o (yielded ops (putAll ops vs l a0).tmps) = true := by
        unfold Region.wanted
        split
        · rfl
        · rename_i j b hgo
          obtain ⟨h1, t, h2, h3⟩ := hgd i hi o ho _ hgo
          have h4 := hval j h1 t h2
          have h5 := h3 _ (hl j (hwl j h1)).2
          have h6 : (ops[j]?).bind (·.dst) = some t := h2
          simp only [yielded, h6, Option.bind_some, h4, h5]
          simp
      rw [if_pos hwant]
      refine .inl (step i hi o ho _ w _ (fun e => by subst e; simpa using hni) (fun hw => by simpa using hwl c hw) (fun hw => by
        rcases hq : decide (c ∈ l) with _ | _
        · rfl
        · have := hcl c (by simpa using hq)
          rw [this] at hw; cases hw) (fun j hj t ht => ?_) (fun t ht => ?_) how)
      · have hjl := hwl j hj
        have := eval_putAll_in (vs := vs) ht l a0 hjl hnd (fun k hk hkj => hdd j k (hl j hjl).1 (hl k hk).1 (Ne.symm hkj) t ht) (hsz j (hl j hjl).1 t ht)
        have h2 : (putAll ops vs l a0).tmps[t]?.getD undef = vs j := by simpa [Act.eval] using this
        rw [h2]
        exact (hl j hjl).2
      · rw [tmps_out l _ fun j hj => ?_]
        have := List.all_eq_true.1 ht j (List.mem_range.2 (hl j hj).1)
        simpa using this) hcn fin n (Array.replicate ops.size false) (fun _ => undef) w0.drew (by rw [hh]; simp)
    ⟨by simp, (fun j oj _ hl => by rw [getD_replicate_false] at hl; cases hl), fun t _ ht => by simp [ht]⟩ (by rw [hh]; intro j hj; cases hj) (by rw [hh]; simpa using hinv)
  rw [hh, show n + (ops.size - n) = ops.size from by omega] at h
  exact h
theorem ext_any5 (c : Nat) (S : List Nat) (Inv : Bool → World → Prop) (Val : Nat → Value → World → Prop) (mono : ∀ i j v w w', i < n → j < n → waits ops j i = false → Val j v w → Only (if i = c then S else []) w w' → Val j v w') (hc : extB ops n = true)
    (step : ∀ i, i < n → ∀ o, ops[i]? = some o → ∀ (vs : Nat → Value) (l : List Nat) (w : World), (∀ j ∈ l, j < n ∧ Val j (vs j) w) → (∀ e ∈ o.after, Region.binds .any e = true → e.on ∈ l) → i ∉ l → l.Nodup → (∀ j ∈ l, waits ops j i = false) → Inv (decide (c ∈ l)) w →
      wpOp P ops Q i (fun a' w' => ∃ v, a' = (putAll ops vs l a0).put o.dst v ∧ Val i v w' ∧ Only (if i = c then S else []) w w' ∧ Inv (decide (c ∈ l) || decide (c = i)) w') (putAll ops vs l a0) w)
    (hcn : c < n) (fin : ∀ (vs : Nat → Value) (w : World), (∀ j, j < n → Val j (vs j) w) → Inv true w → wpList P ops Q (ops.toList.drop n) (putAll ops vs (List.range n) a0) w) :
    ∀ (d : Nat) (listed : Array Bool) (vs : Nat → Value) (w : World), n - (heads listed n).length = d → HeadInv .any ops n listed → (∀ j ∈ heads listed n, Val j (vs j) w) → Inv (decide (c ∈ heads listed n)) w →
      wpAny P .any ops Q (d + (ops.size - n)) listed (putAll ops vs (heads listed n) a0) w := by
  simp only [extB, Bool.and_eq_true, decide_eq_true_eq] at hc
  obtain ⟨⟨⟨⟨⟨hn, hsink⟩, hchain⟩, hdist⟩, hord⟩, hseq⟩ := hc
  intro d
  induction d with
  | zero =>
    intro listed vs w hd inv hv ho
    have hle := heads_le listed n
    have hall := heads_all (n := n) (listed := listed) (by omega)
    have hh : heads listed n = List.range n := by
      unfold heads
      exact List.filter_eq_self.2 fun i hi => hall i (List.mem_range.1 hi)
    have hl : listed = (Array.replicate n true) ++ Array.replicate (ops.size - n) false := by
      apply Array.ext
      · simp [inv.size]; omega
      · intro i h1 h2
        have g1 : listed.getD i true = listed[i] := by simp [h1]
        by_cases hin : i < n
        · rw [← g1, hall i hin]
          rw [Array.getElem_append_left (by simpa using hin)]; simp
        · rw [← g1, inv.tail i (by omega) (by rw [← inv.size]; exact h1)]
          rw [Array.getElem_append_right (by simp; omega)]; simp
    rw [Nat.zero_add, hh]
    have hlen : (ops.toList.drop n).length = ops.size - n := by simp
    rw [← hlen]
    refine wpAny_of_seq _ n listed _ w (fun j => by simp [List.getElem?_drop]) (by rw [hl, hlen]; exact hseq) (fin vs w (fun j hj => hv j (by rw [hh]; exact List.mem_range.2 hj)) (by
      have hcm : c ∈ heads listed n := by rw [hh]; exact List.mem_range.2 hcn
      simpa [hcm] using ho))
  | succ d ih =>
    intro listed vs w hd inv hv ho
    have hle := heads_le listed n
    -- some first one is unlisted, and the least such is ready
    obtain ⟨m, hm, hum, hmin⟩ : ∃ m, m < n ∧ listed.getD m true = false ∧ ∀ j, j < m → listed.getD j true = true := by
      have hne : ∃ m, m < n ∧ listed.getD m true = false := by
        apply Classical.byContradiction
        intro hcon
        have hall : ∀ i, i < n → listed.getD i true = true := fun i hi => by
          cases hg : listed.getD i true with
          | true => rfl
          | false => exact absurd ⟨i, hi, hg⟩ hcon
        have hh : heads listed n = List.range n := by
          unfold heads
          exact List.filter_eq_self.2 fun i hi => hall i (List.mem_range.1 hi)
        rw [hh] at hd
        simp at hd
      obtain ⟨m, hm⟩ := hne
      induction m using Nat.strongRecOn with
      | _ m ihm =>
        by_cases hx : ∃ j, j < m ∧ listed.getD j true = false
        · obtain ⟨j, hj, hjf⟩ := hx
          exact ihm j hj ⟨by omega, hjf⟩
        · refine ⟨m, hm.1, hm.2, fun j hj => ?_⟩
          cases hg : listed.getD j true with
          | true => rfl
          | false => exact absurd ⟨j, hj, hg⟩ hx
    have hord' : ∀ i, i < n → ∀ o, ops[i]? = some o → ∀ e ∈ o.after, Region.binds .any e = true → e.on < i := by
      intro i hi o ho' e he hb
      have := List.all_eq_true.1 hord i (List.mem_range.2 hi)
      rw [ho'] at this
      have := Array.all_eq_true'.1 this e he
      simpa [hb] using this
    have hmr : m ∈ Region.ready .any ops listed := by
      have hms : m < ops.size := by omega
      refine mem_ready.2 ⟨hum, ops[m], Array.getElem?_eq_getElem hms, fun e he hb => ?_⟩
      have hlt := hord' m hm _ (Array.getElem?_eq_getElem hms) e he hb
      have := hmin e.on hlt
      have hes : e.on < listed.size := by rw [inv.size]; omega
      simpa [hes] using this
    rw [show d + 1 + (ops.size - n) = (d + (ops.size - n)) + 1 from by omega]
    refine ⟨fun h => absurd hmr (by rw [h]; simp), fun i hi => ?_⟩
    have hin : i < n := by
      rcases Nat.lt_or_ge i n with h | h
      · exact h
      · exact absurd hi (tail_waits hsink hchain hn inv _ m rfl hm hum i h)
    obtain ⟨hui, oi, hoi, hall⟩ := mem_ready.1 hi
    have his : i < listed.size := by rw [inv.size]; omega
    obtain ⟨l1, l2, e1, e2, hne⟩ := heads_set hin his hui
    have hdeps : ∀ e ∈ oi.after, Region.binds .any e = true → e.on ∈ heads listed n := fun e he hb => by
      have hlt := hord' i hin oi hoi e he hb
      have hl := hall e he hb
      unfold heads
      refine List.mem_filter.2 ⟨List.mem_range.2 (by omega), ?_⟩
      have hes : e.on < listed.size := by rw [inv.size]; omega
      simpa [hes] using hl
    have hcl : ∀ j ∈ heads listed n, waits ops j i = false := fun j hj => by
      rcases hq : waits ops j i with _ | _
      · rfl
      · exfalso
        unfold waits at hq
        split at hq
        · rename_i oj hoj
          obtain ⟨e, he, hb⟩ := Array.any_eq_true'.1 hq
          simp only [Bool.and_eq_true, beq_iff_eq] at hb
          have h2 := (List.mem_filter.1 hj).2
          have hjs : j < listed.size := by have := List.mem_range.1 (List.mem_filter.1 hj).1; rw [inv.size]; omega
          have h1 := inv.closed j oj hoj (by simpa [hjs] using h2) e he hb.1
          rw [hb.2, getD_both hui] at h1
          cases h1
        · cases hq
    have hst := step i hin oi hoi vs (heads listed n) w (fun j hj => ⟨List.mem_range.1 (List.mem_filter.1 hj).1, hv j hj⟩) hdeps (fun hmem => (hne i (by rw [← e1]; exact hmem)).1 rfl) (List.nodup_range.filter _) hcl ho
    refine wpOp_mono ?_ hst
    rintro a' w' ⟨v, rfl, hval, hR, how⟩
    have hdi : oi.dst = dstOf ops i := by simp [dstOf, hoi]
    have hput : (putAll ops vs (heads listed n) a0).put oi.dst v = putAll ops (fun j => if j = i then v else vs j) (heads (listed.setIfInBounds i true) n) a0 := by
      rw [e1, e2, hdi]
      have hcongr : ∀ (l : List Nat) (b : Act), (∀ j ∈ l, j ≠ i) → putAll ops vs l b = putAll ops (fun j => if j = i then v else vs j) l b := fun l b hl =>
        putAll_congr l b fun j hj => by rw [if_neg (hl j hj)]
      have happ : ∀ (u : Nat → Value) (x y : List Nat) (b : Act), putAll ops u (x ++ y) b = putAll ops u y (putAll ops u x b) := fun u x y b => by simp [putAll, List.foldl_append]
      rw [happ, happ, hcongr l1 _ (fun j hj => (hne j (List.mem_append_left _ hj)).1), hcongr l2 _ (fun j hj => (hne j (List.mem_append_right _ hj)).1)]
      rw [putAll_commute l2 _ (fun j hj t ht hjt => by
        have hj' := hne j (List.mem_append_right _ hj)
        have h1 := List.all_eq_true.1 hdist i (List.mem_range.2 hin)
        have h2 := List.all_eq_true.1 h1 j (List.mem_range.2 hj'.2)
        rw [ht, hjt] at h2
        simp at h2
        exact hj'.1 h2.symm)]
      show _ = putAll ops _ l2 ((putAll ops _ l1 a0).put (dstOf ops i) (if i = i then v else vs i))
      rw [if_pos rfl]
    rw [hput]
    have hlen : (heads (listed.setIfInBounds i true) n).length = (heads listed n).length + 1 := by rw [e1, e2]; simp; omega
    refine ih (listed.setIfInBounds i true) (fun j => if j = i then v else vs j) w' (by omega) (inv.set hi hin) ?_ (by
      have hcm : decide (c ∈ heads (listed.setIfInBounds i true) n) = (decide (c ∈ heads listed n) || decide (c = i)) := by
        rw [e1, e2, Bool.eq_iff_iff]
        simp only [decide_eq_true_eq, Bool.or_eq_true, List.mem_append, List.mem_cons]
        constructor
        · rintro (h | h | h)
          · exact .inl (.inl h)
          · exact .inr h
          · exact .inl (.inr h)
        · rintro ((h | h) | h)
          · exact .inl h
          · exact .inr (.inr h)
          · exact .inr (.inl h)
      rw [hcm]
      exact how)
    intro j hj
    rw [e2] at hj
    by_cases hji : j = i
    · subst hji; simp only [if_pos]; exact hval
    · simp only [if_neg hji]
      have hjm : j ∈ heads listed n := by
        rw [e1]
        simp only [List.mem_append, List.mem_cons] at hj ⊢
        rcases hj with h | h | h
        · exact .inl h
        · exact absurd h hji
        · exact .inr h
      exact mono i j _ _ _ hin (List.mem_range.1 (List.mem_filter.1 hjm).1) (hcl j hjm) (hv j hjm) hR


/-- THE REGION, what the operations yield may lie in memory, some of whose operations stand behind guards that all hold, where one operation, number c, changes what the invariant says: each of its first n operations is walked once; then its last ones. -/
theorem wp_region_onew {id : Nat} (n c : Nat) (S : List Nat) (hm : P.follows .mixedOrders = true) (Inv : Bool → World → Prop) (Val : Nat → Value → World → Prop) (mono : ∀ i j v w w', i < n → j < n → waits ops j i = false → Val j v w → Only (if i = c then S else []) w w' → Val j v w') (hinv : Inv false w0.drew) (hc : extB ops n = true) (hcn : c < n)
    (hgd : ∀ i, i < n → ∀ o, ops[i]? = some o → ∀ gd, o.guard = some gd → waits ops i gd.1 = true ∧ ∃ t, dstOf ops gd.1 = some t ∧ ∀ v w, Val gd.1 v w → v = .bool gd.2) (hsz : ∀ i, i < n → ∀ t, dstOf ops i = some t → t < a0.tmps.size)
    (step : ∀ i, i < n → ∀ o, ops[i]? = some o → ∀ (a : Act) (w : World) (b : Bool), (i = c → b = false) → (waits ops i c = true → b = true) → (waits ops c i = true → b = false) → (∀ j, waits ops i j = true → ∀ t, dstOf ops j = some t → Val j (a.tmps[t]?.getD undef) w) →
      (∀ t, (List.range n).all (fun j => dstOf ops j != some t) = true → a.tmps[t]?.getD undef = a0.tmps[t]?.getD undef) → Inv b w →
      o.wp P a w (fun a' w' => ∃ v, a' = a.put o.dst v ∧ Val i v w' ∧ Only (if i = c then S else []) w w' ∧ Inv (b || decide (c = i)) w') Q)
    (fin : ∀ (vs : Nat → Value) (w : World), (∀ j, j < n → Val j (vs j) w) → Inv true w → wpList P ops Q (ops.toList.drop n) (putAll ops vs (List.range n) a0) w) : (Code.region id ops true).wp P Q a0 w0 := by
  have hc' := hc
  simp only [extB, Bool.and_eq_true, decide_eq_true_eq] at hc'
  obtain ⟨⟨⟨⟨⟨hn, hsink⟩, hchain⟩, hdist⟩, hord⟩, hseq⟩ := hc'
  have hdd : ∀ i j, i < n → j < n → i ≠ j → ∀ t, dstOf ops i = some t → dstOf ops j ≠ some t := fun i j hi hj hij t ht hjt => by
    have h1 := List.all_eq_true.1 hdist i (List.mem_range.2 hi)
    have h2 := List.all_eq_true.1 h1 j (List.mem_range.2 hj)
    rw [ht, hjt] at h2
    simp at h2
    exact hij h2
  refine wp_region_any hm ?_
  have hh : heads (Array.replicate ops.size false) n = [] := by
    unfold heads
    rw [List.filter_eq_nil_iff]
    intro i hi
    have : i < ops.size := by have := List.mem_range.1 hi; omega
    simp [this]
  have h := ext_any5 (P := P) (Q := Q) (a0 := a0) c S Inv Val mono hc (fun i hi o ho vs l w hl hdeps hni hnd hcl how => by
      have hwl : ∀ j, waits ops i j = true → j ∈ l := fun j hj => by
        unfold waits at hj
        rw [ho] at hj
        obtain ⟨e, he, hb⟩ := Array.any_eq_true'.1 hj
        simp only [Bool.and_eq_true, beq_iff_eq] at hb
        have := hdeps e he hb.1
        rwa [hb.2] at this
      unfold wpOp
      simp only [ho]
      have hval : ∀ j, waits ops i j = true → ∀ t, dstOf ops j = some t → (putAll ops vs l a0).tmps[t]? = some (vs j) := fun j hj t ht => by
        have hjl := hwl j hj
        have hts := hsz j (hl j hjl).1 t ht
        have := eval_putAll_in (vs := vs) ht l a0 hjl hnd (fun k hk hkj => hdd j k (hl j hjl).1 (hl k hk).1 (Ne.symm hkj) t ht) hts
        have hsz2 : t < (putAll ops vs l a0).tmps.size := by rw [size_putAll]; exact hts
        rw [Array.getElem?_eq_getElem hsz2] at *
        simpa [Act.eval, hsz2] using this
      have hwant : Region.wanted o (yielded ops (putAll ops vs l a0).tmps) = true := by
        unfold Region.wanted
        split
        · rfl
        · rename_i j b hgo
          obtain ⟨h1, t, h2, h3⟩ := hgd i hi o ho _ hgo
          have h4 := hval j h1 t h2
          have h5 := h3 _ _ (hl j (hwl j h1)).2
          have h6 : (ops[j]?).bind (·.dst) = some t := h2
          simp only [yielded, h6, Option.bind_some, h4, h5]
          simp
      rw [if_pos hwant]
      refine .inl (step i hi o ho _ w _ (fun e => by subst e; simpa using hni) (fun hw => by simpa using hwl c hw) (fun hw => by
        rcases hq : decide (c ∈ l) with _ | _
        · rfl
        · have := hcl c (by simpa using hq)
          rw [this] at hw; cases hw) (fun j hj t ht => ?_) (fun t ht => ?_) how)
      · have hjl := hwl j hj
        have := eval_putAll_in (vs := vs) ht l a0 hjl hnd (fun k hk hkj => hdd j k (hl j hjl).1 (hl k hk).1 (Ne.symm hkj) t ht) (hsz j (hl j hjl).1 t ht)
        have h2 : (putAll ops vs l a0).tmps[t]?.getD undef = vs j := by simpa [Act.eval] using this
        rw [h2]
        exact (hl j hjl).2
      · rw [tmps_out l _ fun j hj => ?_]
        have := List.all_eq_true.1 ht j (List.mem_range.2 (hl j hj).1)
        simpa using this) hcn fin n (Array.replicate ops.size false) (fun _ => undef) w0.drew (by rw [hh]; simp)
    ⟨by simp, (fun j oj _ hl => by rw [getD_replicate_false] at hl; cases hl), fun t _ ht => by simp [ht]⟩ (by rw [hh]; intro j hj; cases hj) (by rw [hh]; simpa using hinv)
  rw [hh, show n + (ops.size - n) = ops.size from by omega] at h
  exact h
end

/-- '!=' of two aggregates: by the law of what is equal -/
theorem wl_neq {P : Program} {w : World} {ty ty2 : TypeId} {xs ys : Array Value} {v : Bool} {ops : Array Oper} {rest : List Oper} {a : Act} {Q : Exit → Act → World → Prop} {dst : Option Tmp} {type : TypeId} {pos : String} {after : Array Edge} {x y : Operand}
    (hg : P.eqGuardType P.depth ty = false) (hE : ∀ w, (Op.equalIn 10000 ty (.agg xs) (.agg ys)).run P w = .ok v w)
    (hx : a.eval x = .agg xs) (hy : a.eval y = .agg ys)
    (h : wpList P ops Q rest (a.put dst (.bool !v)) w) : wpList P ops Q (⟨dst, .binOp .neq ty x y ty2, type, pos, after, none⟩ :: rest) a w :=
  wpList_step fun _ hK => by
    rw [if_pos (by simp [Region.wanted])]
    unfold Oper.wp execOp
    have hE' : ∀ w, (Op.equal ty (.agg xs) (.agg ys)).run P w = .ok v w := hE
    simp only [hx, hy, Sem.run_bind, Sem.run_pure, Result.andThen_ok, run_eqGuard_agg _ _ _ _ _ _ _ hg, binOp, hE']
    exact hK _ _ h
end Go.Azu
