/-
  A RECORD TAKEN: the walk.
-/
import Derived.Test.YtjeeeiekabjcfaaTakeP
import Derived.Test.YtjeeeiekabjcfaaFresh
import Derived.Test.YtjeeeiekabjcfaaRec
namespace Go.Azu
theorem tab_splice {n off m : Nat} (F G : Nat → Value) (h : off + m ≤ n) : splice (tab n F) off (tab m G) = tab n (fun k => if off ≤ k ∧ k < off + m then G (k - off) else F k) := by
  apply List.ext_getElem?
  intro k
  unfold splice
  rw [tab_length]
  by_cases hk : k < n
  · rw [tab_get _ hk]
    by_cases h1 : k < off
    · rw [if_neg (by omega), List.append_assoc, List.getElem?_append_left (by simp [tab]; omega), List.getElem?_take, if_pos h1, tab_get _ hk]
    · by_cases h2 : k < off + m
      · rw [if_pos (by omega), List.getElem?_append_left (by simp [tab]; omega), List.getElem?_append_right (by simp [tab]; omega)]
        rw [show k - (List.take off (tab n F)).length = k - off from by simp [tab]; omega, tab_get _ (by omega)]
      · rw [if_neg (by omega), List.getElem?_append_right (by simp [tab]; omega), List.getElem?_drop]
        rw [show off + m + (k - (List.take off (tab n F) ++ tab m G).length) = k from by simp [tab]; omega, tab_get _ hk]
  · rw [List.getElem?_eq_none (by simp [tab]; omega), List.getElem?_eq_none (by simp [tab]; omega)]
end Go.Azu

namespace Tri
theorem place_ : ∀ (i : Fin 3) (p : Fin 24), (p.val = 2 * i.val ↔ pinv p.val = 8 * i.val) ∧ (p.val = 2 * i.val + 1 ↔ pinv p.val = 8 * i.val + 1) ∧ (p.val = 6 + i.val ↔ pinv p.val = 8 * i.val + 2) ∧ (p.val = 9 + i.val ↔ pinv p.val = 8 * i.val + 3) ∧
    ((12 + 4 * i.val ≤ p.val ∧ p.val < 12 + 4 * i.val + 4) ↔ (8 * i.val + 4 ≤ pinv p.val ∧ pinv p.val < 8 * i.val + 8)) ∧ ((12 + 4 * i.val ≤ p.val ∧ p.val < 12 + 4 * i.val + 4) → pinv p.val = 8 * i.val + 4 + (p.val - (12 + 4 * i.val))) := by decide
theorem acc_step (D : Nat → Int) (q : Nat) (n : Int) (h : q < 24) : acc (upd D q n) q = (if q < 8 then 0 else acc D (q - 8)) + n := by
  unfold acc upd
  rw [if_pos rfl]
  by_cases h8 : 8 ≤ q
  · rw [if_pos h8, if_neg (show ¬ q - 8 = q by omega), if_neg (show ¬ q < 8 by omega), if_neg (show ¬ 16 ≤ q - 8 by omega)]
    by_cases h16 : 16 ≤ q
    · rw [if_pos h16, if_pos (show 8 ≤ q - 8 by omega), if_neg (show ¬ q - 16 = q by omega), show q - 8 - 8 = q - 16 from by omega]; omega
    · rw [if_neg h16, if_neg (show ¬ 8 ≤ q - 8 by omega)]; omega
  · rw [if_neg h8, if_pos (show q < 8 by omega), if_neg (show ¬ 16 ≤ q by omega)]; omega
theorem acc_old (D : Nat → Int) (q q' : Nat) (n : Int) (h : q' < q) : acc (upd D q n) q' = acc D q' := by
  unfold acc upd
  rw [if_neg (show ¬ q' = q by omega), if_neg (show ¬ q' - 8 = q by omega), if_neg (show ¬ q' - 16 = q by omega)]
theorem acc_small {D : Nat → Int} (h : ∀ i, -1048576 ≤ D i ∧ D i ≤ 1048576) (q : Nat) : -3145728 ≤ acc D q ∧ acc D q ≤ 3145728 := by
  have h1 := h q
  have h2 := h (q - 8)
  have h3 := h (q - 16)
  unfold acc
  split <;> split <;> omega
end Tri

namespace Go.Proofs.Ytjeeeiekabjcfaa
open Go.RowKit Go.Azu

theorem ReaderAt.far {w w' : World} {g gb : Nat} {R : Wire.Rd} {t : TypeId} {cs : Array Value} (h : ReaderAt w g R) (hb : Blk w gb t cs) (ht : t ≠ 76 ∧ t ≠ 5) (ho : Only [gb] w w') : ReaderAt w' g R := by
  obtain ⟨A, c, h1, h2, h3⟩ := h.at_
  have hne := Blk.ne_ h1 hb (Ne.symm ht.1)
  exact ⟨⟨A, c, h1.only ho (by simpa using hne), ownsRow_only h2 ho (fun k hk hm => by
    simp at hm
    subst hm
    exact ownsRow_ne_blk h2 hb (Ne.symm ht.2) hk), h3⟩, h.small⟩
theorem ReaderAt.off {w : World} {g gb : Nat} {R : Wire.Rd} {t : TypeId} {cs : Array Value} (h : ReaderAt w g R) (hb : Blk w gb t cs) (ht : t ≠ 76) : gb ∉ [g] := by
  obtain ⟨A, c, h1, h2, h3⟩ := h.at_
  simp
  exact Blk.ne_ hb h1 ht
theorem ReaderAt.same {w w' : World} {g : Nat} {R : Wire.Rd} (h : ReaderAt w g R) (ho : Only [] w w') : ReaderAt w' g R := h.only ho (by simp) (by simp)

/-- what a record's bytes come to -/
inductive TakeR (b : List UInt8) : Int → Nat → Bool → (Nat → Int) → List UInt8 → Prop
  | none {m : Int} {r : List UInt8} (hc : Wire.countF 63 b = .ok (m, r)) (h2 : m % 2 = 0) : TakeR b 0 (m / 2).toNat false (fun _ => 0) r
  | tri {m : Int} {D : Nat → Int} {r r2 : List UInt8} (hc : Wire.countF 63 b = .ok (m, r)) (h2 : m % 2 = 1) (hd : Tri.Dec D 24 r r2) (hk : chk (Tri.recOf D) = 0) : TakeR b 0 (m / 2).toNat true (Tri.recOf D) r2
  | count {e : Int} (hc : Wire.countF 63 b = .error e) (he : e ≠ 0) : TakeR b e 0 false (fun _ => 0) []
  | num {m e : Int} {D : Nat → Int} {q : Nat} {r r2 : List UInt8} (hc : Wire.countF 63 b = .ok (m, r)) (h2 : m % 2 = 1) (hd : Tri.Dec D q r r2) (hq : q < 24) (hn : Tri.numF r2 = .error e) (he : e ≠ 0) : TakeR b e 0 false (fun _ => 0) []
  | chk {m : Int} {D : Nat → Int} {r r2 : List UInt8} (hc : Wire.countF 63 b = .ok (m, r)) (h2 : m % 2 = 1) (hd : Tri.Dec D 24 r r2) (hk : chk (Tri.recOf D) ≠ 0) : TakeR b (chk (Tri.recOf D)) 0 false (fun _ => 0) []

/-- so many corners laid -/
def rowsR (D : Nat → Int) (i : Nat) (p : Nat) : Int := if Tri.pinv p < 8 * i then Tri.recOf D p else 0
theorem rows_next (d : Int) (D : Nat → Int) (i : Nat) (hi : i < 3) :
    splice (((((recC d true (rowsR D i)).set (2 + i * 2) (.int .i64 (Tri.acc D (8 * i)))).set (2 + i * 2 + 1) (.int .i64 (Tri.acc D (8 * i + 1)))).set (8 + i) (.int .i64 (Tri.acc D (8 * i + 2)))).set (11 + i) (.int .i64 (Tri.acc D (8 * i + 3)))) (14 + i * 4) (tab 4 fun j => .int .i64 (Tri.acc D (8 * i + (4 + j)))) = recC d true (rowsR D (i + 1)) := by
  rw [recC_tab, recC_tab, tab_set, tab_set, tab_set, tab_set, tab_splice _ _ (by omega)]
  apply tab_congr
  intro k hk
  by_cases h0 : k = 0
  · subst h0; rw [if_neg (by omega), if_neg (by omega), if_neg (by omega), if_neg (by omega), if_neg (by omega), if_pos rfl, if_pos rfl]
  by_cases h1 : k = 1
  · subst h1; rw [if_neg (by omega), if_neg (by omega), if_neg (by omega), if_neg (by omega), if_neg (by omega), if_neg (by omega), if_pos rfl, if_neg (by omega), if_pos rfl]
  obtain ⟨p, rfl⟩ : ∃ p, k = p + 2 := ⟨k - 2, by omega⟩
  obtain ⟨g1, g2, g3, g4, g5, g6⟩ := Tri.place_ ⟨i, hi⟩ ⟨p, by omega⟩
  simp only at g1 g2 g3 g4 g5 g6
  have hpi : Tri.recOf D p = Tri.acc D (Tri.pinv p) := rfl
  rw [if_neg h0, if_neg h1, if_neg h0, if_neg h1]
  unfold rowsR
  rw [show p + 2 - 2 = p from rfl, hpi]
  by_cases c5 : 12 + 4 * i ≤ p ∧ p < 12 + 4 * i + 4
  · have := g6 c5
    rw [if_pos (by omega), if_pos (by omega), this, show 8 * i + (4 + (p + 2 - (14 + i * 4))) = 8 * i + 4 + (p - (12 + 4 * i)) from by omega]
  · rw [if_neg (by omega)]
    by_cases c4 : p = 9 + i
    · rw [if_pos (by omega), if_pos (by omega), g4.1 c4]
    · rw [if_neg (by omega)]
      by_cases c3 : p = 6 + i
      · rw [if_pos (by omega), if_pos (by omega), g3.1 c3]
      · rw [if_neg (by omega)]
        by_cases c2 : p = 2 * i + 1
        · rw [if_pos (by omega), if_pos (by omega), g2.1 c2]
        · rw [if_neg (by omega)]
          by_cases c1 : p = 2 * i
          · rw [if_pos (by omega), if_pos (by omega), g1.1 c1]
          · rw [if_neg (by omega)]
            by_cases c : Tri.pinv p < 8 * i
            · rw [if_pos c, if_pos (by omega)]
            · rw [if_neg c, if_neg (by omega)]

/-- the numbers of a corner, so many of them new -/
def lastD (D : Nat → Int) (i j : Nat) : List Value := tab 8 fun k => .int .i64 (if k < j then Tri.acc D (8 * i + k) else if i = 0 then 0 else Tri.acc D (8 * (i - 1) + k))
theorem lastD_row (D : Nat → Int) (i : Nat) : lastD D i 8 = lastD D (i + 1) 0 := tab_congr fun k hk => by rw [if_pos hk, if_neg (by omega), if_neg (by omega)]; rfl
theorem lastD_next (D : Nat → Int) (i j : Nat) (n : Int) (hi : i < 3) (hj : j < 8) :
    (lastD D i j).set j (.int .i64 ((if i = 0 then 0 else Tri.acc D (8 * (i - 1) + j)) + n)) = lastD (Tri.upd D (8 * i + j) n) i (j + 1) := by
  unfold lastD
  rw [tab_set]
  apply tab_congr
  intro k hk
  by_cases hkj : k = j
  · subst hkj
    rw [if_pos rfl, if_pos (show k < k + 1 by omega), Tri.acc_step D _ n (by omega)]
    by_cases hi0 : i = 0
    · rw [if_pos hi0, if_pos (show 8 * i + k < 8 by omega)]
    · rw [if_neg hi0, if_neg (show ¬ 8 * i + k < 8 by omega), show 8 * i + k - 8 = 8 * (i - 1) + k from by omega]
  · rw [if_neg hkj]
    by_cases hlt : k < j
    · rw [if_pos hlt, if_pos (show k < j + 1 by omega), Tri.acc_old D _ _ n (by omega)]
    · rw [if_neg hlt, if_neg (show ¬ k < j + 1 by omega)]
      by_cases hi0 : i = 0
      · rw [if_pos hi0, if_pos hi0]
      · rw [if_neg hi0, if_neg hi0, Tri.acc_old D _ _ n (by omega)]
theorem rowsR_upd (D : Nat → Int) (i q : Nat) (n : Int) (h : 8 * i ≤ q) (p : Nat) : rowsR (Tri.upd D q n) i p = rowsR D i p := by
  unfold rowsR Tri.recOf
  split
  · rw [Tri.acc_old D _ _ n (by omega)]
  · rfl
end Go.Proofs.Ytjeeeiekabjcfaa
