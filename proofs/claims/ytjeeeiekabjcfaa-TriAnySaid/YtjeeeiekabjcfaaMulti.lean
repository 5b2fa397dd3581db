/-
  A REGION THAT DRAWS ITS ORDER, WITH TWO STORES ('a, b = x, y'): what stands between them reckons places alone.
-/
import Derived.Test.YtjeeeiekabjcfaaTail
namespace Go.Azu
open Go.RowKit

/-- what changes no world, and is no call -/
def pureKind : Op → Bool
  | .move _ | .assign _ | .pick _ _ _ | .fieldAddr _ _ _ | .indexAddr _ _ _ | .binOp _ _ _ _ _ | .unOp _ _ _ | .convert _ _ _ | .load _ _ => true
  | _ => false

theorem no_enter {P : Program} {o : Oper} {ρ : Operand → Value} {w w' : World} {f : FuncId} {args : Array Value} (h : pureKind o.op = true) : (execOp ρ o).run P w ≠ .ok (.enter f args) w' := by
  have key : ∀ s : Sem Value, (do pure (Next.value (← s)) : Sem Next).run P w ≠ .ok (.enter f args) w' := fun s => by
    rw [Sem.run_bind]
    cases s.run P w <;> simp [Result.andThen]
  have hx : ∀ s : Sem Value, execOp ρ o = (do pure (Next.value (← s))) → (execOp ρ o).run P w ≠ .ok (.enter f args) w' := fun s e => by rw [e]; exact key s
  cases ho : o.op with
  | move x => intro hc; simp [execOp, ho] at hc
  | assign x => intro hc; simp [execOp, ho] at hc
  | pick c a b =>
    intro hc
    simp only [execOp, ho, Sem.run_bind] at hc
    cases hb : (asBool (ρ c)).run P w <;> simp [Result.andThen, hb] at hc
  | fieldAddr s x k => exact hx _ (by simp only [execOp, ho]; rfl)
  | indexAddr t x k => exact hx _ (by simp only [execOp, ho]; rfl)
  | binOp b t x y u => exact hx _ (by simp only [execOp, ho]; rfl)
  | unOp b t x => exact hx _ (by simp only [execOp, ho]; rfl)
  | convert s t x => exact hx _ (by simp only [execOp, ho]; rfl)
  | load t x => exact hx _ (by simp only [execOp, ho]; rfl)
  | _ => rw [ho] at h; cases h

/-- of the first n operations, number c yields nothing; what it waits for bears the mark 1, itself 2, what it does not wait for the mark 0: that reckons places and numbers alone -/
def multiB (ops : Array Oper) (n c : Nat) (fs : List Nat) : Bool :=
  decide (c < n) && dstOf ops c == none && decide (fs.length = n) &&
  ((List.range n).all fun i => match ops[i]? with
    | some o => if i = c then fs.getD i 9 == 2 && o.guard.isNone else if waits ops c i then fs.getD i 9 == 1 else fs.getD i 9 == 0 && pureKind o.op
    | none => false)

/-- the walk in the order of the text: what bears the mark 1, in the class C; what bears 0, in the class D, that holds behind the store, too -/
def wpFlag (P : Program) (ops : Array Oper) (C D : World → Prop) (Q : Act → Prop) : List Nat → List Oper → Act → Prop
  | f :: fs, o :: r, a => if f = 1 then wpQuiet P ops C (wpFlag P ops C D Q fs r) [o] a else if f = 0 then wpQuiet P ops D (wpFlag P ops C D Q fs r) [o] a else wpFlag P ops C D Q fs r a
  | _, _, a => Q a

section
variable {P : Program} {ops : Array Oper} {C D : World → Prop} {Q : Act → Prop} {fs : List Nat} {o : Oper} {r : List Oper} {a : Act}
theorem wpFlag_C (h : wpQuiet P ops C (wpFlag P ops C D Q fs r) [o] a) : wpFlag P ops C D Q (1 :: fs) (o :: r) a := h
theorem wpFlag_T (h : wpQuiet P ops D (wpFlag P ops C D Q fs r) [o] a) : wpFlag P ops C D Q (0 :: fs) (o :: r) a := h
theorem wpFlag_skip (h : wpFlag P ops C D Q fs r a) : wpFlag P ops C D Q (2 :: fs) (o :: r) a := h
theorem wpFlag_nil (h : Q a) : wpFlag P ops C D Q [] [] a := h
end

section
variable {P : Program} {Q : Exit → Act → World → Prop} {a0 : Act} {C D : World → Prop}

theorem YieldsIn.pure {ops : Array Oper} {o : Oper} {v : Value} {a : Act} (hk : pureKind o.op = true) (h : YieldsIn P ops D o v a) (w : World) (hD : D w) : YieldsIn P ops (fun x => x = w) o v a := by
  rcases h with ⟨h1, h2⟩ | h
  · refine .inl ⟨h1, fun w' hw => ?_⟩
    subst hw
    have h3 := h2 w' hD
    unfold Oper.quietAt at h3 ⊢
    cases hr : (execOp a.eval o).run P w' with
    | ok n w2 =>
      rw [hr] at h3
      cases n with
      | enter f args => exact absurd hr (no_enter hk)
      | value u => exact h3
      | skip => exact h3
      | _ => exact h3
    | halt x w2 => rw [hr] at h3; exact h3
  · exact .inr h

theorem vals_of_flag {ops : Array Oper} {Qn : Act → Prop} : ∀ (rest : List Oper) (fs : List Nat) (k : Nat) (vs : Nat → Value), (∀ j, j < rest.length → ops[k + j]? = rest[j]?) → fs.length = rest.length → (∀ j, j < fs.length → fs.getD j 9 = 2 → dstOf ops (k + j) = none) →
    (∀ j, j < fs.length → fs.getD j 9 = 0 ∨ fs.getD j 9 = 1 ∨ fs.getD j 9 = 2) →
    wpFlag P ops C D Qn fs rest (putAll ops vs (List.range k) a0) →
    ∃ vs' : Nat → Value, (∀ j, j < k → vs' j = vs j) ∧ (∀ i, i < fs.length → fs.getD i 9 ≠ 2 → ∃ o, ops[k + i]? = some o ∧ YieldsIn P ops (if fs.getD i 9 = 1 then C else D) o (vs' (k + i)) (putAll ops vs' (List.range (k + i)) a0)) ∧ Qn (putAll ops vs' (List.range (k + rest.length)) a0)
  | [], [], k, vs, _, _, _, _, h => ⟨vs, fun _ _ => rfl, fun i h1 => by simp at h1, h⟩
  | [], _ :: _, _, _, _, hf, _, _, _ => by cases hf
  | _ :: _, [], _, _, _, hf, _, _, _ => by cases hf
  | o :: rest, f :: fs, k, vs, hl, hf, h2, h3, h => by
    have h0 : ops[k]? = some o := by simpa using hl 0 (by simp)
    have hd : o.dst = dstOf ops k := by simp [dstOf, h0]
    -- the step: some value for number k
    obtain ⟨v, hy, hK⟩ : ∃ v, (f ≠ 2 → YieldsIn P ops (if f = 1 then C else D) o v (putAll ops vs (List.range k) a0)) ∧ wpFlag P ops C D Qn fs rest ((putAll ops vs (List.range k) a0).put o.dst v) := by
      have hcase := h3 0 (by simp)
      simp only [List.getD_cons_zero] at hcase
      rcases hcase with rfl | rfl | rfl
      · have hst : qOp P ops D k (wpFlag P ops C D Qn fs rest) (putAll ops vs (List.range k) a0) := by
          have h' : wpQuiet P ops D (wpFlag P ops C D Qn fs rest) [o] (putAll ops vs (List.range k) a0) := h
          unfold qOp; simp only [h0]; exact h'
        obtain ⟨v, hy, hK⟩ := yieldsIn_of_qOp h0 hst
        exact ⟨v, fun _ => hy, hK⟩
      · have hst : qOp P ops C k (wpFlag P ops C D Qn fs rest) (putAll ops vs (List.range k) a0) := by
          have h' : wpQuiet P ops C (wpFlag P ops C D Qn fs rest) [o] (putAll ops vs (List.range k) a0) := h
          unfold qOp; simp only [h0]; exact h'
        obtain ⟨v, hy, hK⟩ := yieldsIn_of_qOp h0 hst
        exact ⟨v, fun _ => hy, hK⟩
      · have hn : dstOf ops k = none := h2 0 (by simp) rfl
        refine ⟨undef, fun h => absurd rfl h, ?_⟩
        rw [hd, hn]
        exact h
    have e1 : putAll ops (fun j => if j = k then v else vs j) (List.range k) a0 = putAll ops vs (List.range k) a0 :=
      putAll_congr _ _ fun j hj => by
        have := List.mem_range.1 hj
        rw [if_neg (by omega)]
    have e2 : putAll ops (fun j => if j = k then v else vs j) (List.range (k + 1)) a0 = (putAll ops vs (List.range k) a0).put o.dst v := by
      rw [range_put, e1, hd, if_pos rfl]
    rw [← e2] at hK
    obtain ⟨vs', g1, g2, g3⟩ := vals_of_flag rest fs (k + 1) _ (fun j hj => by have := hl (j + 1) (by simpa using hj); simpa [Nat.add_assoc, Nat.add_comm 1 j] using this) (by simpa using hf)
      (fun j hj he => by have := h2 (j + 1) (by simpa using hj) (by simpa using he); rwa [show k + 1 + j = k + (j + 1) from by omega])
      (fun j hj => by have := h3 (j + 1) (by simpa using hj); simpa using this) hK
    have g1' : ∀ j, j < k → vs' j = vs j := fun j hj => by rw [g1 j (by omega), if_neg (by omega)]
    refine ⟨vs', g1', fun i h1 hne => ?_, by simpa [Nat.add_assoc, Nat.add_comm 1] using g3⟩
    cases i with
    | zero =>
      refine ⟨o, h0, ?_⟩
      simp only [Nat.add_zero, List.getD_cons_zero] at hne ⊢
      rw [g1 k (by omega), if_pos rfl]
      rw [putAll_congr (vs := vs') (vs' := vs) _ _ fun j hj => g1' j (List.mem_range.1 hj)]
      exact hy hne
    | succ i =>
      have := g2 i (by simpa using h1) (by simpa using hne)
      simp only [List.getD_cons_succ]
      rwa [show k + 1 + i = k + (i + 1) from by omega] at this

theorem wp_region_multi {id : Nat} {l : List Oper} {w0 : World} (n c : Nat) (fs : List Nat) (oc : Oper) (hoc : l[c]? = some oc) (hm : P.follows .mixedOrders = true) (hB : (extB l.toArray n && lookB l.toArray n && multiB l.toArray n c fs) = true) (hC : C w0.drew) (hCD : ∀ w, C w → D w)
    (h : wpFlag P l.toArray C D (fun a2 => ∀ w', C w' → ∃ w3, (execOp a2.eval oc).run P w' = .ok .skip w3 ∧ D w3 ∧ wpList P l.toArray Q (l.drop n) a2 w3) fs (l.take n) a0) :
    (Code.region id l.toArray true).wp P Q a0 w0 := by
  rw [Bool.and_eq_true, Bool.and_eq_true] at hB
  obtain ⟨⟨hE, hL⟩, hM⟩ := hB
  have hE' := hE
  simp only [extB, Bool.and_eq_true, decide_eq_true_eq] at hE'
  obtain ⟨⟨⟨⟨⟨hn, _⟩, _⟩, hdist⟩, hord⟩, _⟩ := hE'
  have hn' : n < l.length := by simpa using hn
  simp only [multiB, Bool.and_eq_true, decide_eq_true_eq, beq_iff_eq] at hM
  obtain ⟨⟨⟨hcn, hdc⟩, hfl⟩, hkind⟩ := hM
  have mark : ∀ i, i < n → ∀ o, l.toArray[i]? = some o → (i = c ∧ fs.getD i 9 = 2 ∧ o.guard = none) ∨ (i ≠ c ∧ waits l.toArray c i = true ∧ fs.getD i 9 = 1) ∨ (i ≠ c ∧ waits l.toArray c i = false ∧ fs.getD i 9 = 0 ∧ pureKind o.op = true) := by
    intro i hi o ho
    have hk := List.all_eq_true.1 hkind i (List.mem_range.2 hi)
    rw [ho] at hk
    by_cases hic : i = c
    · simp only [hic, if_true, Bool.and_eq_true, beq_iff_eq] at hk
      exact .inl ⟨hic, by rw [hic]; exact hk.1, by simpa using hk.2⟩
    · simp only [hic, if_false] at hk
      rcases hq : waits l.toArray c i with _ | _
      · rw [hq] at hk
        simp only [Bool.false_eq_true, if_false, Bool.and_eq_true, beq_iff_eq] at hk
        exact .inr (.inr ⟨hic, rfl, hk.1, hk.2⟩)
      · rw [hq] at hk
        simp only [if_true, beq_iff_eq] at hk
        exact .inr (.inl ⟨hic, rfl, hk⟩)
  have hdd : ∀ i j, i < n → j < n → i ≠ j → ∀ t, dstOf l.toArray i = some t → dstOf l.toArray j ≠ some t := fun i j hi hj hij t ht hjt => by
    have h1 := List.all_eq_true.1 hdist i (List.mem_range.2 hi)
    have h2 := List.all_eq_true.1 h1 j (List.mem_range.2 hj)
    rw [ht, hjt] at h2
    simp at h2
    exact hij h2
  have getO : ∀ i, i < n → ∃ o, l.toArray[i]? = some o := fun i hi => ⟨l[i]'(by omega), by simp⟩
  have htn : (l.take n).length = n := by simp; omega
  obtain ⟨vals, _, g4, g5⟩ := vals_of_flag (P := P) (ops := l.toArray) (a0 := a0) (l.take n) fs 0 (fun _ => undef) (fun j hj => by
      have : j < n := by rw [htn] at hj; exact hj
      simp [this]) (by rw [hfl, htn])
    (fun j hj he => by
      obtain ⟨o, ho⟩ := getO j (by omega)
      rcases mark j (by omega) o ho with ⟨hc, _, _⟩ | ⟨_, _, h1⟩ | ⟨_, _, h1, _⟩
      · rw [Nat.zero_add, hc, hdc]
      · rw [h1] at he; cases he
      · rw [h1] at he; cases he)
    (fun j hj => by
      obtain ⟨o, ho⟩ := getO j (by omega)
      rcases mark j (by omega) o ho with ⟨_, h1, _⟩ | ⟨_, _, h1⟩ | ⟨_, _, h1, _⟩ <;> rw [h1] <;> simp) (by simpa [putAll] using h)
  rw [htn, Nat.zero_add] at g5
  refine wp_region_any hm ?_
  have hh : heads (Array.replicate l.toArray.size false) n = [] := by
    unfold heads
    rw [List.filter_eq_nil_iff]
    intro i hi
    have : i < l.length := by have := List.mem_range.1 hi; omega
    simp [this]
  -- what an operation of the first n looks at is as it was in the order of the text
  have look : ∀ i, i < n → ∀ o, l.toArray[i]? = some o → ∀ (vs : Nat → Value) (ls : List Nat), (∀ j ∈ ls, j < n ∧ (j ≠ c → vs j = vals j)) → (∀ e ∈ o.after, Region.binds .any e = true → e.on ∈ ls) → i ∉ ls → ls.Nodup →
      ∀ t ∈ o.looksAt l.toArray, ∀ (m : Nat), (m = i ∨ (m = n ∧ i = c)) → (putAll l.toArray vs ls a0).tmps[t]? = (putAll l.toArray vals (List.range m) a0).tmps[t]? := by
    intro i hi o ho vs ls hl hdeps hni hnd t ht m hmi
    have hb := List.all_eq_true.1 hL i (List.mem_range.2 hi)
    rw [ho] at hb
    simp only [Bool.and_eq_true] at hb
    by_cases hx : ∃ j, j < n ∧ j ≠ i ∧ dstOf l.toArray j = some t
    · obtain ⟨j, hj, hji, hd⟩ := hx
      have h1 := List.all_eq_true.1 hb.2 j (List.mem_range.2 hj)
      rw [hd] at h1
      have hwt : waits l.toArray i j = true := by
        rcases hq : waits l.toArray i j with _ | _
        · rw [hq] at h1
          simp [Ne.symm hji, ht] at h1
        · rfl
      have hjc : j ≠ c := fun e => by rw [e, hdc] at hd; cases hd
      have hwt' := hwt
      unfold waits at hwt'
      rw [ho] at hwt'
      obtain ⟨e, he, hb'⟩ := Array.any_eq_true'.1 hwt'
      simp only [Bool.and_eq_true, beq_iff_eq] at hb'
      have hjl : j ∈ ls := by
        have := hdeps e he hb'.1
        rwa [hb'.2] at this
      have hji' : j < i := by
        have h2 := List.all_eq_true.1 hord i (List.mem_range.2 hi)
        rw [ho] at h2
        have h3 := Array.all_eq_true'.1 h2 e he
        simp [hb'.1] at h3
        omega
      rw [tmps_in hd ls _ hjl hnd (fun k hk hkj => hdd j k hj (hl k hk).1 (Ne.symm hkj) t hd), tmps_in hd (List.range m) _ (List.mem_range.2 (by omega)) List.nodup_range (fun k hk hkj => hdd j k hj (by have := List.mem_range.1 hk; omega) (Ne.symm hkj) t hd), (hl j hjl).2 hjc]
    · have hno : ∀ j, j < n → j ≠ i → dstOf l.toArray j ≠ some t := fun j hj hji hd => hx ⟨j, hj, hji, hd⟩
      rw [tmps_out ls _ (fun j hj => hno j (hl j hj).1 (fun e => hni (e ▸ hj))), tmps_out (List.range m) _ (fun j hj => by
        have hjm := List.mem_range.1 hj
        by_cases hjc : j = c
        · rw [hjc, hdc]; simp
        · exact hno j (by omega) (by omega))]
  have nosel : ∀ i, i < n → ∀ o, l.toArray[i]? = some o → ∀ cs b, o.op ≠ .select cs b := fun i hi o ho cs b e => by
    have hb := List.all_eq_true.1 hL i (List.mem_range.2 hi)
    rw [ho] at hb
    simp only [Bool.and_eq_true] at hb
    rw [e] at hb
    simp at hb
  have H := ext_any4 (P := P) (Q := Q) (a0 := a0) c (fun b w => if b = true then D w ∧ wpList P l.toArray Q (l.drop n) (putAll l.toArray vals (List.range n) a0) w else C w) (fun i v => i ≠ c → v = vals i) hE (fun i hi o ho vs ls w hl hdeps hni hnd hcl how => by
      rcases mark i hi o ho with ⟨hic, _, hg⟩ | ⟨hic, hwt, hm1⟩ | ⟨hic, _, hm0, hp⟩
      · subst hic
        have hf : decide (i ∈ ls) = false := by simpa using hni
        rw [hf] at how
        have how' : C w := by simpa using how
        have hoo : o = oc := by
          have : l.toArray[i]? = l[i]? := by simp
          rw [this, hoc] at ho
          exact (Option.some.inj ho).symm
        subst hoo
        obtain ⟨w3, hr, hD3, hlist⟩ := g5 w how'
        have hs : execOp (putAll l.toArray vs ls a0).eval o = execOp (putAll l.toArray vals (List.range n) a0).eval o :=
          execOp_congr o (nosel i hi o ho) fun x hx => by
            cases x with
            | tmp t => exact eval_of_tmps (look i hi o ho vs ls hl hdeps hni hnd t (List.mem_append_left _ (List.mem_filterMap.2 ⟨.tmp t, by simpa using hx, rfl⟩)) n (.inr ⟨rfl, rfl⟩))
            | _ => rfl
        have hdst : o.dst = none := by
          have : dstOf l.toArray i = o.dst := by unfold dstOf; rw [ho]; rfl
          rw [← this, hdc]
        unfold wpOp
        simp only [ho]
        rw [if_pos (by simp [Region.wanted, hg])]
        refine .inl ?_
        unfold Oper.wp
        rw [hs, hr, Oper.upon_skip]
        refine ⟨undef, rfl, fun h => absurd rfl h, ?_⟩
        simp
        exact ⟨hD3, hlist⟩
      · have hci : c ∉ ls := fun hmem => by
          have h1 := hcl c hmem
          rw [h1] at hwt; cases hwt
        have hf : decide (c ∈ ls) = false := by simpa using hci
        rw [hf] at how ⊢
        have how' : C w := by simpa using how
        obtain ⟨o', ho', hy⟩ := g4 i (by omega) (by omega)
        rw [Nat.zero_add] at ho' hy
        have : o' = o := Option.some.inj (ho'.symm.trans ho)
        subst this
        rw [hm1, if_pos rfl] at hy
        refine wpOp_mono ?_ (wpOp_of_yields (Q := Q) ho how' (yields_same (nosel i hi o' ho) hy fun t ht => look i hi o' ho vs ls hl hdeps hni hnd t ht i (.inl rfl)))
        rintro a' w' ⟨rfl, hw'⟩
        refine ⟨vals i, rfl, fun _ => rfl, ?_⟩
        simp [Ne.symm hic]
        exact hw'
      · obtain ⟨o', ho', hy⟩ := g4 i (by omega) (by omega)
        rw [Nat.zero_add] at ho' hy
        have : o' = o := Option.some.inj (ho'.symm.trans ho)
        subst this
        rw [hm0, if_neg (by omega)] at hy
        refine wpOp_mono ?_ (wpOp_of_yields (Q := Q) (C := fun x => x = w) ho rfl (yields_same (nosel i hi o' ho) (YieldsIn.pure hp hy w (by
          rcases hq : decide (c ∈ ls) with _ | _
          · rw [hq] at how; exact hCD w (by simpa using how)
          · rw [hq] at how; exact (by simpa using how : D w ∧ _).1)) fun t ht => look i hi o' ho vs ls hl hdeps hni hnd t ht i (.inl rfl)))
        rintro a' w' ⟨rfl, rfl⟩
        refine ⟨vals i, rfl, fun _ => rfl, ?_⟩
        simp only [Ne.symm hic, decide_false, Bool.or_false]
        exact how) hcn
    (fun vs w hv hI => by
      have hI' : wpList P l.toArray Q (l.drop n) (putAll l.toArray vals (List.range n) a0) w := (by simpa using hI : D w ∧ _).2
      have : putAll l.toArray vs (List.range n) a0 = putAll l.toArray vals (List.range n) a0 := by
        have gen : ∀ (ls : List Nat) (b : Act), (∀ j ∈ ls, j < n) → putAll l.toArray vs ls b = putAll l.toArray vals ls b := by
          intro ls
          induction ls with
          | nil => intro b _; rfl
          | cons j ls ih =>
            intro b hls
            show putAll l.toArray vs ls (b.put (dstOf l.toArray j) (vs j)) = putAll l.toArray vals ls (b.put (dstOf l.toArray j) (vals j))
            have hjn := hls j (.head _)
            by_cases hjc : j = c
            · rw [hjc, hdc]
              exact ih _ fun k hk => hls k (.tail _ hk)
            · rw [hv j hjn hjc]
              exact ih _ fun k hk => hls k (.tail _ hk)
        exact gen _ _ fun j hj => List.mem_range.1 hj
      rw [this]
      exact hI') n (Array.replicate l.toArray.size false) (fun _ => undef) w0.drew (by rw [hh]; simp)
    ⟨by simp, (fun j oj _ hl => by rw [getD_replicate_false] at hl; cases hl), fun t _ ht => getD_in (by simpa using ht) (getD_replicate_false _ _)⟩ (by rw [hh]; intro j hj; cases hj) (by rw [hh]; simpa using hC)
  rw [hh, show n + (l.toArray.size - n) = l.toArray.size from by omega] at H
  exact H
end

/-- a world behind another one, that differs from it in the blocks of S alone -/
structure Later (S : List Nat) (w : World) where
  world : World
  only : Only S w world
instance (S : List Nat) (w : World) : Nonempty (Later S w) := ⟨⟨w, Only.refl S w⟩⟩
def Then (S : List Nat) (w w' : World) : Prop := ∃ p : Later S w, w' = p.world
theorem Then.mk {S : List Nat} {w w' : World} (h : Only S w w') : Then S w w' := ⟨⟨w', h⟩, rfl⟩
theorem Then.only {S : List Nat} {w w' : World} (h : Then S w w') : Only S w w' := by obtain ⟨p, rfl⟩ := h; exact p.only
theorem Calls.then {P : Program} {f : FuncId} {args : Array Value} {S : List Nat} {w : World} {p : Later S w} {v : Value}
    (h : Calls P f args p.world fun e w' => e = .returned v ∧ Only S p.world w') : Calls P f args p.world fun e w'' => e = .returned v ∧ ∃ q : Later S w, w'' = q.world :=
  h.mono fun _ _ ⟨he, hb⟩ => ⟨he, ⟨_, p.only.trans hb⟩, rfl⟩

theorem exec_store {P : Program} {w w' : World} {ρ : Operand → Value} {dst : Option Tmp} {type ty : TypeId} {pos : String} {after : Array Edge} {gd : Option (Nat × Bool)} {x y : Operand} {ad : Addr} {v : Value} (hx : ρ x = .pointer (some ad)) (hy : ρ y = v)
    (hr : (storeVar ty ad v).run P w = .ok () w') : (execOp ρ ⟨dst, .store ty x y, type, pos, after, gd⟩).run P w = .ok .skip w' := by
  unfold execOp
  simp only [hx, hy, Instr.storeAt, Instr.sureAddr, Sem.run_bind, Sem.run_pure, Result.andThen_ok, hr]
end Go.Azu
