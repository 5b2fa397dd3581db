/-
  A RECORD TAKEN, PLAIN.
-/
import Derived.Test.YtjeeeiekabjcfaaTriP
import Derived.Test.YtjeeeiekabjcfaaTakes
namespace Tri
open Wire

/-- the q-th number, of the differences -/
def acc (D : Nat → Int) (q : Nat) : Int := D q + (if 8 ≤ q then D (q - 8) else 0) + (if 16 ≤ q then D (q - 16) else 0)
/-- which number, in the order of the bytes, lies at a place -/
def pinv (p : Nat) : Nat := if p < 6 then 8 * (p / 2) + p % 2 else if p < 9 then 8 * (p - 6) + 2 else if p < 12 then 8 * (p - 9) + 3 else 8 * ((p - 12) / 4) + 4 + (p - 12) % 4
def recOf (D : Nat → Int) (p : Nat) : Int := acc D (pinv p)

theorem pinv_pos_ : ∀ (i : Fin 3) (j : Fin 8), pinv (pos i.val j.val) = 8 * i.val + j.val := by decide
theorem pinv_pos (i j : Nat) (hi : i < 3) (hj : j < 8) : pinv (pos i j) = 8 * i + j := pinv_pos_ ⟨i, hi⟩ ⟨j, hj⟩
theorem pos_lt_ : ∀ (i : Fin 3) (j : Fin 8), pos i.val j.val < 24 := by decide
theorem pos_lt (i j : Nat) (hi : i < 3) (hj : j < 8) : pos i j < 24 := pos_lt_ ⟨i, hi⟩ ⟨j, hj⟩
theorem pos_pinv_ : ∀ p : Fin 24, pos (pinv p.val / 8) (pinv p.val % 8) = p.val := by decide
theorem pos_pinv (p : Nat) (h : p < 24) : pos (pinv p / 8) (pinv p % 8) = p := pos_pinv_ ⟨p, h⟩
theorem pinv_lt (p : Nat) (h : p < 24) : pinv p < 24 := by
  unfold pinv
  split <;> (try split) <;> (try split) <;> omega
theorem ord_recOf (D : Nat → Int) (q : Nat) (h : q < 24) : ord (recOf D) q = acc D q := by
  unfold ord recOf
  rw [pinv_pos _ _ (by omega) (by omega)]
  congr 1
  omega
theorem delta_recOf (D : Nat → Int) (q : Nat) (h : q < 24) : delta (recOf D) q = D q := by
  unfold delta
  rw [ord_recOf D q h]
  split
  · unfold acc; rw [if_neg (by omega), if_neg (by omega)]; omega
  · rw [ord_recOf D (q - 8) (by omega)]
    unfold acc
    rw [if_pos (by omega)]
    rw [show q - 8 - 8 = q - 16 from by omega]
    by_cases h16 : 16 ≤ q
    · rw [if_pos h16, if_pos (by omega), if_neg (by omega)]; omega
    · rw [if_neg h16, if_neg (by omega), if_neg (by omega)]; omega
theorem acc_delta (R : Nat → Int) (q : Nat) (h : q < 24) : acc (delta R) q = ord R q := by
  unfold acc delta
  by_cases h8 : 8 ≤ q
  · by_cases h16 : 16 ≤ q
    · rw [if_pos h8, if_pos h16, if_neg (by omega), if_neg (by omega), if_pos (by omega), show q - 8 - 8 = q - 16 from by omega]; omega
    · rw [if_pos h8, if_neg h16, if_neg (by omega), if_pos (by omega)]; omega
  · rw [if_neg h8, if_neg (show ¬ 16 ≤ q by omega), if_pos (show q < 8 by omega)]; omega
theorem recOf_delta (R : Nat → Int) (p : Nat) (h : p < 24) : recOf (delta R) p = R p := by
  unfold recOf
  rw [acc_delta R _ (pinv_lt p h), ord, pos_pinv p h]

def numF : List UInt8 → Except Int (Int × List UInt8) := withinF (-1048576) 1048576

/-- so many numbers, taken -/
inductive Dec (D : Nat → Int) : Nat → List UInt8 → List UInt8 → Prop
  | zero (b : List UInt8) : Dec D 0 b b
  | succ {q : Nat} {b r r' : List UInt8} (h : Dec D q b r) (hn : numF r = .ok (D q, r')) : Dec D (q + 1) b r'

theorem Dec.congr {D D' : Nat → Int} {q : Nat} {b r : List UInt8} (h : Dec D q b r) (he : ∀ i, i < q → D i = D' i) : Dec D' q b r := by
  induction h with
  | zero b => exact .zero b
  | succ h hn ih => exact .succ (ih fun i hi => he i (by omega)) (by rw [← he _ (Nat.lt_succ_self _)]; exact hn)
theorem Dec.det {D D' : Nat → Int} {q : Nat} {b r r' : List UInt8} (h : Dec D q b r) (h' : Dec D' q b r') : r = r' ∧ ∀ i, i < q → D i = D' i := by
  induction h generalizing r' with
  | zero b => cases h'; exact ⟨rfl, fun i hi => absurd hi (by omega)⟩
  | @succ q b r r1 h hn ih =>
    cases h' with
    | succ g gn =>
      obtain ⟨e1, e2⟩ := ih g
      subst e1
      rw [hn] at gn
      injection gn with gn
      injection gn with g1 g2
      refine ⟨g2, fun i hi => ?_⟩
      rcases (by omega : i < q ∨ i = q) with h1 | rfl
      · exact e2 i h1
      · exact g1

/-- where a reader stands behind so many numbers: all is well so far, or an elder one was none -/
structure St (b : List UInt8) (q : Nat) (D : Nat → Int) (p : Nat) (R : Rd) : Prop where
  eb : R.b = b
  le : p ≤ R.pos
  ok : R.err = 0 → Dec D q (b.drop p) (b.drop R.pos)
  bad : R.err ≠ 0 → ∃ q' r, q' < q ∧ Dec D q' (b.drop p) r ∧ numF r = .error R.err
  small : ∀ i, -1048576 ≤ D i ∧ D i ≤ 1048576

def upd (D : Nat → Int) (q : Nat) (n : Int) (i : Nat) : Int := if i = q then n else D i

theorem withinF_in {lo hi : Int} {b : List UInt8} {n : Int} {r : List UInt8} (h : withinF lo hi b = .ok (n, r)) : lo ≤ n ∧ n ≤ hi := by
  unfold withinF at h
  split at h
  · split at h
    · cases h
    · injection h with h
      injection h with h1 h2
      omega
  · cases h

theorem St.next {b : List UInt8} {q : Nat} {D : Nat → Int} {p : Nat} {R R' : Rd} {n : Int} (h : St b q D p R) (hd : Does numF R n R') : St b (q + 1) (upd D q n) p R' := by
  have hb := h.eb
  have hc : ∀ {q' : Nat} {r r' : List UInt8}, q' ≤ q → Dec D q' r r' → Dec (upd D q n) q' r r' := fun hq g => g.congr fun i hi => by rw [upd, if_neg (by omega)]
  by_cases h0 : R.err = 0
  · have g1 := h.ok h0
    cases hn : numF (R.b.drop R.pos) with
    | ok x =>
      obtain ⟨m, r⟩ := x
      obtain ⟨e1, e2, e3⟩ := hd.ok h0 m r hn
      have hin := withinF_in hn
      refine ⟨hd.b.trans hb, Nat.le_trans h.le hd.le, fun _ => ?_, fun h1 => absurd e2 h1, fun i => ?_⟩
      · rw [← hb] at g1 ⊢
        rw [hb] at g1 ⊢
        refine .succ (hc (Nat.le_refl _) g1) ?_
        rw [upd, if_pos rfl, e1, ← hb, hn, e3]
      · unfold upd
        split
        · omega
        · exact h.small i
    | error e =>
      obtain ⟨e1, e2, e3⟩ := hd.error h0 e hn
      refine ⟨hd.b.trans hb, Nat.le_trans h.le hd.le, fun h1 => absurd h1 (by rw [e2]; exact e3), fun _ => ⟨q, _, Nat.lt_succ_self _, hc (Nat.le_refl _) g1, by rw [e2, ← hb]; exact hn⟩, fun i => ?_⟩
      unfold upd
      split
      · omega
      · exact h.small i
  · obtain ⟨e1, e2⟩ := hd.bad h0
    subst e2
    obtain ⟨q', r, g1, g2, g3⟩ := h.bad h0
    refine ⟨hb, h.le, fun h1 => absurd h1 h0, fun _ => ⟨q', r, by omega, hc (by omega) g2, g3⟩, fun i => ?_⟩
    unfold upd
    split
    · omega
    · exact h.small i

theorem does_det {f : List UInt8 → Except Int (Int × List UInt8)} {R R' R'' : Rd} {n n' : Int} (h : Does f R n R') (h' : Does f R n' R'') : n = n' := by
  by_cases h0 : R.err = 0
  · cases hf : f (R.b.drop R.pos) with
    | ok x => rw [(h.ok h0 x.1 x.2 hf).1, (h'.ok h0 x.1 x.2 hf).1]
    | error e => rw [(h.error h0 e hf).1, (h'.error h0 e hf).1]
  · rw [(h.bad h0).1, (h'.bad h0).1]

theorem does_in {lo hi : Int} {R R' : Rd} {n : Int} (h : Does (withinF lo hi) R n R') (hb : lo ≤ 0 ∧ 0 ≤ hi) : lo ≤ n ∧ n ≤ hi := by
  by_cases h0 : R.err = 0
  · cases hf : withinF lo hi (R.b.drop R.pos) with
    | ok x =>
      have h1 := (h.ok h0 x.1 x.2 hf).1
      have := withinF_in hf
      omega
    | error e => have := (h.error h0 e hf).1; omega
  · have := (h.bad h0).1
    omega
end Tri
