/-
  A RECORD's BYTES AND BACK, PLAIN.
-/
import Derived.Test.YtjeeeiekabjcfaaTakeW
import Derived.Test.YtjeeeiekabjcfaaRecord
namespace Tri
open Wire

theorem decN_enc (n : Nat) (r : List UInt8) (h : n < 18446744073709551616) : decN (enc n ++ r) = .ok ((n : Int), r) := by
  unfold decN
  rw [dec_enc r n 0 (by omega) (by simpa using h) (by omega)]
theorem decN_cut (n j : Nat) (h : n < 18446744073709551616) (hj : j < (enc n).length) : decN ((enc n).take j) = .error 3 := by
  unfold decN
  rw [dec_short n 0 j (by omega) (by simpa using h) (by omega) hj]
theorem zig_in (n : Int) (h : -1048576 ≤ n ∧ n ≤ 1048576) : zig n < 18446744073709551616 := by unfold zig; split <;> omega
theorem numF_enc (n : Int) (r : List UInt8) (h : -1048576 ≤ n ∧ n ≤ 1048576) : numF (enc (zig n) ++ r) = .ok (n, r) := by
  unfold numF withinF intF
  rw [decN_enc _ r (zig_in n h)]
  simp only [Int.toNat_natCast, zag_zig]
  rw [if_neg (by omega)]
theorem numF_cut (n : Int) (j : Nat) (h : -1048576 ≤ n ∧ n ≤ 1048576) (hj : j < (enc (zig n)).length) : numF ((enc (zig n)).take j) = .error 3 := by
  unfold numF withinF intF
  rw [decN_cut _ j (zig_in n h) hj]
theorem countF_enc (n : Nat) (r : List UInt8) (h : n ≤ 63) : countF 63 (enc n ++ r) = .ok ((n : Int), r) := by
  unfold countF
  rw [decN_enc _ r (by omega)]
  simp only
  rw [if_neg (by omega)]
theorem countF_cut (n j : Nat) (h : n ≤ 63) (hj : j < (enc n).length) : countF 63 ((enc n).take j) = .error 3 := by
  unfold countF
  rw [decN_cut _ j (by omega) hj]

/-- all differences within the bounds of a reader -/
def Fits (R : Nat → Int) : Prop := ∀ q, q < 24 → -1048576 ≤ delta R q ∧ delta R q ≤ 1048576

theorem dec_encs {R : Nat → Int} (h : Fits R) : ∀ (q : Nat) (r : List UInt8), q ≤ 24 → Dec (delta R) q (encs R q ++ r) r
  | 0, r, _ => .zero r
  | q + 1, r, hq => by
    have ih := dec_encs h q (enc (zig (delta R q)) ++ r) (by omega)
    rw [encs, List.append_assoc]
    exact .succ ih (numF_enc _ r (h q (by omega)))

theorem encs_split (R : Nat → Int) : ∀ (m q : Nat), q < m → ∃ t, encs R m = encs R q ++ (enc (zig (delta R q)) ++ t)
  | 0, q, h => absurd h (by omega)
  | m + 1, q, h => by
    by_cases hq : q = m
    · subst hq
      exact ⟨[], by rw [encs]; simp⟩
    · obtain ⟨t, ht⟩ := encs_split R m q (by omega)
      refine ⟨t ++ enc (zig (delta R m)), ?_⟩
      rw [encs, ht]
      simp

theorem encs_cut (R : Nat → Int) : ∀ (m k : Nat), k < (encs R m).length → ∃ q j, q < m ∧ j < (enc (zig (delta R q))).length ∧ (encs R m).take k = encs R q ++ (enc (zig (delta R q))).take j
  | 0, k, h => by simp [encs] at h
  | m + 1, k, h => by
    by_cases hk : k < (encs R m).length
    · obtain ⟨q, j, h1, h2, h3⟩ := encs_cut R m k hk
      refine ⟨q, j, by omega, h2, ?_⟩
      rw [encs, List.take_append_of_le_length (by omega), h3]
    · refine ⟨m, k - (encs R m).length, by omega, ?_, ?_⟩
      · rw [encs, List.length_append] at h; omega
      · rw [encs, List.take_append, List.take_of_length_le (by omega)]

theorem Dec.pre {D : Nat → Int} {m : Nat} {b r : List UInt8} (h : Dec D m b r) : ∀ q, q < m → ∃ r' r'', Dec D q b r' ∧ numF r' = .ok (D q, r'') := by
  induction h with
  | zero b => intro q hq; omega
  | @succ m b r1 r2 h hn ih =>
    intro q hq
    by_cases hqm : q = m
    · subst hqm; exact ⟨_, _, h, hn⟩
    · exact ih q (by omega)

theorem recOf_congr {D D' : Nat → Int} (h : ∀ q, q < 24 → D q = D' q) (p : Nat) (hp : p < 24) : recOf D p = recOf D' p := by
  have hq := pinv_lt p hp
  unfold recOf acc
  rw [h _ hq, h (pinv p - 8) (by omega), h (pinv p - 16) (by omega)]
end Tri

namespace Go.Proofs.Ytjeeeiekabjcfaa
open Go.RowKit Go.Azu _root_.Wire

theorem badC_congr {R R' : Nat → Int} (h : ∀ p, p < 24 → R p = R' p) (k : Nat) (hk : k < 3) : badC R k = badC R' k := by
  unfold badC
  rw [h (k * 2) (by omega), h (k * 2 + 1) (by omega), h (6 + k) (by omega), h (9 + k) (by omega), h (12 + k * 4) (by omega), h (12 + k * 4 + 1) (by omega), h (12 + k * 4 + 2) (by omega), h (12 + k * 4 + 3) (by omega)]
theorem chk_congr {R R' : Nat → Int} (h : ∀ p, p < 24 → R p = R' p) : chk R = chk R' := by
  unfold chk
  rw [badC_congr h 0 (by omega), badC_congr h 1 (by omega), badC_congr h 2 (by omega), h 0 (by omega), h 1 (by omega), h 2 (by omega), h 3 (by omega), h 4 (by omega), h 5 (by omega)]

theorem head_lt {d : Nat} (s : Bool) (hd : d < 32) : Tri.head d s ≤ 63 := by unfold Tri.head; split <;> omega

/-- a record's bytes, others behind them: the record, the others left -/
theorem take_bytes {d : Nat} {s : Bool} {R : Nat → Int} {more : List UInt8} (hd : d < 32) (hf : s = true → Tri.Fits R ∧ chk R = 0) (h0 : s = false → R = fun _ => 0) {e : Int} {d' : Nat} {s' : Bool} {R' : Nat → Int} {rest : List UInt8}
    (h : TakeR (Tri.bytes d s R ++ more) e d' s' R' rest) : e = 0 ∧ d' = d ∧ s' = s ∧ (∀ p, p < 24 → R' p = R p) ∧ rest = more := by
  have hc := Tri.countF_enc (Tri.head d s) ((if s then Tri.encs R 24 else []) ++ more) (head_lt s hd)
  rw [← List.append_assoc] at hc
  change Wire.countF 63 (Tri.bytes d s R ++ more) = _ at hc
  cases s with
  | false =>
    have hR := h0 rfl
    subst hR
    simp only [Tri.head, Bool.false_eq_true, if_false, List.nil_append] at hc
    cases h with
    | none h1 h2 =>
      rw [hc] at h1
      injection h1 with h1
      injection h1 with h3 h4
      exact ⟨rfl, by omega, rfl, fun _ _ => rfl, h4.symm⟩
    | tri h1 h2 =>
      rw [hc] at h1; injection h1 with h1; injection h1 with h3 h4; omega
    | count h1 he => rw [hc] at h1; cases h1
    | num h1 h2 =>
      rw [hc] at h1; injection h1 with h1; injection h1 with h3 h4; omega
    | chk h1 h2 =>
      rw [hc] at h1; injection h1 with h1; injection h1 with h3 h4; omega
  | true =>
    obtain ⟨hfit, hchk⟩ := hf rfl
    simp only [Tri.head, if_true] at hc
    have hdec := Tri.dec_encs hfit 24 more (by omega)
    cases h with
    | none h1 h2 =>
      rw [hc] at h1; injection h1 with h1; injection h1 with h3 h4; omega
    | tri h1 h2 h5 h6 =>
      rw [hc] at h1
      injection h1 with h1
      injection h1 with h3 h4
      subst h4
      obtain ⟨e1, e2⟩ := h5.det hdec
      refine ⟨rfl, by omega, rfl, fun p hp => ?_, e1⟩
      rw [Tri.recOf_congr e2 p hp, Tri.recOf_delta R p hp]
    | count h1 he => rw [hc] at h1; cases h1
    | num h1 h2 h5 h6 h7 h8 =>
      rename_i q _ r2
      rw [hc] at h1
      injection h1 with h1
      injection h1 with h3 h4
      subst h4
      obtain ⟨t, ht⟩ := Tri.encs_split R 24 q h6
      have hd2 := Tri.dec_encs hfit q (enc (zig (Tri.delta R q)) ++ (t ++ more)) (by omega)
      rw [← List.append_assoc, ← List.append_assoc, List.append_assoc (Tri.encs R q), ← ht] at hd2
      obtain ⟨e1, -⟩ := h5.det hd2
      rw [e1, Tri.numF_enc _ _ (hfit q h6)] at h7
      cases h7
    | chk h1 h2 h5 h6 =>
      rw [hc] at h1
      injection h1 with h1
      injection h1 with h3 h4
      subst h4
      obtain ⟨-, e2⟩ := h5.det hdec
      exact absurd ((chk_congr fun p hp => by rw [Tri.recOf_congr e2 p hp, Tri.recOf_delta R p hp]).trans hchk) h6

/-- a record's bytes, cut anywhere: none -/
theorem take_cut {d : Nat} {s : Bool} {R : Nat → Int} {k : Nat} (hd : d < 32) (hf : s = true → Tri.Fits R) (hk : k < (Tri.bytes d s R).length) {e : Int} {d' : Nat} {s' : Bool} {R' : Nat → Int} {rest : List UInt8}
    (h : TakeR ((Tri.bytes d s R).take k) e d' s' R' rest) : e = 3 ∧ d' = 0 ∧ s' = false ∧ R' = fun _ => 0 := by
  by_cases hh : k < (enc (Tri.head d s)).length
  · have hc := Tri.countF_cut (Tri.head d s) k (head_lt s hd) hh
    have hb : (Tri.bytes d s R).take k = (enc (Tri.head d s)).take k := by unfold Tri.bytes; rw [List.take_append_of_le_length (by omega)]
    rw [hb] at h
    cases h with
    | none h1 _ => rw [hc] at h1; cases h1
    | tri h1 _ _ _ => rw [hc] at h1; cases h1
    | count h1 he => rw [hc] at h1; injection h1 with h1; exact ⟨h1.symm, rfl, rfl, rfl⟩
    | num h1 _ _ _ _ _ => rw [hc] at h1; cases h1
    | chk h1 _ _ _ => rw [hc] at h1; cases h1
  · cases s with
    | false =>
      unfold Tri.bytes at hk
      simp at hk
      omega
    | true =>
      have hfit := hf rfl
      have hk2 : k - (enc (Tri.head d true)).length < (Tri.encs R 24).length := by
        unfold Tri.bytes at hk
        rw [List.length_append] at hk
        simp only [if_true] at hk
        omega
      obtain ⟨q, j, hq, hj, hcut⟩ := Tri.encs_cut R 24 _ hk2
      have hb : (Tri.bytes d true R).take k = enc (Tri.head d true) ++ (Tri.encs R q ++ (enc (zig (Tri.delta R q))).take j) := by
        unfold Tri.bytes
        rw [List.take_append, List.take_of_length_le (by omega), if_pos rfl, hcut]
      have hc := Tri.countF_enc (Tri.head d true) (Tri.encs R q ++ (enc (zig (Tri.delta R q))).take j) (head_lt true hd)
      have hdec := Tri.dec_encs hfit q ((enc (zig (Tri.delta R q))).take j) (by omega)
      have hbad := Tri.numF_cut _ j (hfit q hq) hj
      rw [hb] at h
      have hodd : ((Tri.head d true : Nat) : Int) % 2 = 1 := by simp only [Tri.head, if_true]; omega
      cases h with
      | none h1 h2 => rw [hc] at h1; injection h1 with h1; injection h1 with h3 h4; omega
      | tri h1 h2 h5 h6 =>
        rw [hc] at h1; injection h1 with h1; injection h1 with h3 h4
        subst h4
        obtain ⟨r', r'', g1, g2⟩ := h5.pre q hq
        obtain ⟨e1, -⟩ := g1.det hdec
        rw [e1, hbad] at g2; cases g2
      | count h1 he => rw [hc] at h1; cases h1
      | num h1 h2 h5 h6 h7 h8 =>
        rename_i q' _ r2
        rw [hc] at h1; injection h1 with h1; injection h1 with h3 h4
        subst h4
        rcases Nat.lt_trichotomy q' q with hlt | heq | hgt
        · obtain ⟨r', r'', g1, g2⟩ := hdec.pre q' hlt
          obtain ⟨e1, -⟩ := h5.det g1
          rw [e1, g2] at h7; cases h7
        · subst heq
          obtain ⟨e1, -⟩ := h5.det hdec
          rw [e1, hbad] at h7
          injection h7 with h7
          exact ⟨h7.symm, rfl, rfl, rfl⟩
        · obtain ⟨r', r'', g1, g2⟩ := h5.pre q hgt
          obtain ⟨e1, -⟩ := g1.det hdec
          rw [e1, hbad] at g2; cases g2
      | chk h1 h2 h5 h6 =>
        rw [hc] at h1; injection h1 with h1; injection h1 with h3 h4
        subst h4
        obtain ⟨r', r'', g1, g2⟩ := h5.pre q hq
        obtain ⟨e1, -⟩ := g1.det hdec
        rw [e1, hbad] at g2; cases g2

theorem nice_ord {R : Nat → Int} (h : Nice R) (q : Nat) (hq : q < 24) : -100000 ≤ Tri.ord R q ∧ Tri.ord R q ≤ 100000 := by
  unfold Tri.ord
  have hp := Tri.pos_lt (q / 8) (q % 8) (by omega) (by omega)
  generalize Tri.pos (q / 8) (q % 8) = p at *
  rcases (by omega : p < 6 ∨ (6 ≤ p ∧ p < 9) ∨ (9 ≤ p ∧ p < 12) ∨ 12 ≤ p) with g | ⟨g1, g2⟩ | ⟨g1, g2⟩ | g
  · have := h.pts p g; omega
  · have := h.depth p g1 g2; omega
  · have := h.near p g1 g2; omega
  · have := h.colour p g hp; omega
theorem nice_fits {R : Nat → Int} (h : Nice R) : Tri.Fits R := fun q hq => by
  have h1 := nice_ord h q hq
  have h2 := nice_ord h (q - 8) (by omega)
  unfold Tri.delta
  split <;> omega
end Go.Proofs.Ytjeeeiekabjcfaa
