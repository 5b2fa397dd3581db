/-
  CELLS THAT CAME IN, by what the input's type says of them: a number; a small triangle.
-/
import Derived.Test.YtjeeeiekabjcfaaSmall
import Derived.Test.YtjeeeiekabjcfaaRow
namespace Go.Proofs.Ytjeeeiekabjcfaa
open Go.RowKit Go.Azu Go.WideShapes Go.ChangeShapes

theorem cell_int {P : Program} {w : World} {r : Reach} {base : Nat} {t : TypeId} {v : Value} {k : IntKind} (ht : P.underlying t = some (.int k)) (h : Cell.okWide P w r base t v) : ∃ n, v = .int k n ∧ k.has n := by
  unfold Cell.okWide at h
  rw [ht] at h
  cases v <;> simp [Cell.ok, ht] at h
  obtain ⟨rfl, h⟩ := h
  exact ⟨_, rfl, h⟩
theorem value_int {P : Program} {w : World} {r : Reach} {base : Nat} {t : TypeId} {v : Value} {k : IntKind} (ht : P.underlying t = some (.int k)) (h : Value.okWide P w r base t v) : ∃ n, v = .int k n ∧ k.has n := by
  unfold Value.okWide at h
  rw [ht] at h
  exact cell_int ht h
theorem value_bool {P : Program} {w : World} {r : Reach} {base : Nat} {t : TypeId} {v : Value} (ht : P.underlying t = some .bool) (h : Value.okWide P w r base t v) : ∃ b, v = .bool b := by
  unfold Value.okWide at h
  rw [ht] at h
  unfold Cell.okWide at h
  simp only [ht] at h
  cases v <;> simp [Cell.ok, ht] at h
  exact ⟨_, rfl⟩

def smallTs : List TypeId := List.replicate 6 30 ++ List.replicate 18 34 ++ [5]
theorem smallTs_at : ∀ i, i < 25 → smallTs[i % 25]? = some (if i < 6 then 30 else if i < 24 then 34 else 5) := by decide
theorem small_open {W : World} {r : Reach} {b0 : Nat} {v : Value} (h : Value.okWide Try.prog W r b0 39 v) : ∃ S, SmallIn S ∧ v = .agg (smallV S).toArray := by
  unfold Value.okWide at h
  rw [Try.underlying39] at h
  obtain ⟨cs, rfl, hsz, ts, hts, -, hc⟩ := h
  rw [show Try.prog.cellsOf 39 = 25 from by kernel_rfl] at hsz
  obtain rfl : smallTs = ts := Option.some.inj ((show some smallTs = Try.prog.cellTypes Try.prog.depth 39 from by kernel_rfl).trans hts)
  have key : ∀ i, i < 25 → ∃ k n, cs[i]? = some (.int k n) ∧ k.has n ∧ k = (if i < 6 then IntKind.i8 else if i < 24 then .u16 else .u8) := by
    intro i hi
    obtain ⟨x, hx⟩ : ∃ x, cs[i]? = some x := ⟨cs[i]'(by omega), by simp [show i < cs.size from by omega]⟩
    obtain ⟨u, hu, hcell⟩ := hc i x hx
    rw [show smallTs.length = 25 from rfl, smallTs_at i hi] at hu
    injection hu with hu
    subst hu
    by_cases h6 : i < 6
    · rw [if_pos h6] at hcell ⊢
      obtain ⟨n, rfl, hn⟩ := cell_int Try.underlying30 hcell
      exact ⟨_, n, hx, hn, rfl⟩
    · rw [if_neg h6] at hcell ⊢
      by_cases h24 : i < 24
      · rw [if_pos h24] at hcell ⊢
        obtain ⟨n, rfl, hn⟩ := cell_int Try.underlying34 hcell
        exact ⟨_, n, hx, hn, rfl⟩
      · rw [if_neg h24] at hcell ⊢
        obtain ⟨n, rfl, hn⟩ := cell_int Try.underlying5 hcell
        exact ⟨_, n, hx, hn, rfl⟩
  refine ⟨fun i => match cs[i]? with | some (.int _ n) => n | _ => 0, ⟨fun p hp => ?_, fun p h1 h2 => ?_, ?_⟩, ?_⟩
  · obtain ⟨k, n, e, hn, rfl⟩ := key p (by omega)
    rw [if_pos hp] at hn
    simp only [e]
    exact hn
  · obtain ⟨k, n, e, hn, rfl⟩ := key p (by omega)
    rw [if_neg (by omega), if_pos h2] at hn
    simp only [e]
    exact hn
  · obtain ⟨k, n, e, hn, rfl⟩ := key 24 (by omega)
    rw [if_neg (by omega), if_neg (by omega)] at hn
    simp only [e]
    exact hn
  · congr 1
    apply Array.ext'
    apply List.ext_getElem?
    intro i
    by_cases hi : i < 25
    · obtain ⟨k, n, e, hn, rfl⟩ := key i hi
      rw [show (smallV _) = tab 25 _ from rfl, tab_get _ hi]
      simp only [Array.getElem?_toList, e]
      split
      · rfl
      · split <;> rfl
    · rw [List.getElem?_eq_none (by simp; omega), List.getElem?_eq_none (by rw [show (smallV _) = tab 25 _ from rfl, tab_length]; omega)]
end Go.Proofs.Ytjeeeiekabjcfaa
