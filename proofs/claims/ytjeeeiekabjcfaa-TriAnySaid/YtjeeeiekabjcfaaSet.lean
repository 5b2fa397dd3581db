/-
  A BYTE OF ONE'S OWN SLICE, read and changed.
-/
import Derived.Test.YtjeeeiekabjcfaaRef
namespace Go.Proofs.Ytjeeeiekabjcfaa
open Go.RowKit Go.Azu

theorem Mine.at_ {w : World} {B g n c : Nat} {l : List UInt8} (h : Mine w B (.slice (some ⟨g, 0, none⟩) n c) l) :
    ∃ cur, Blk w g 5 cur ∧ n = l.length ∧ l.length ≤ c ∧ c ≤ maxLen ∧ B ≤ g ∧ cur.size = c ∧ cur.toList.take l.length = bytesV l := by
  rcases h.2 with ⟨e, _⟩ | ⟨g', cap, cur, e, hB, hh, h1, h2, h3, h4⟩
  · cases e
  · injection e with e1 e2 e3
    injection e1 with e1
    injection e1 with e1 _ _
    subst e1 e2 e3
    exact ⟨cur, hh, rfl, h1, h2, hB, by simpa using h3, by simpa using h4⟩
theorem Mine.cellAt {w : World} {B g n c k : Nat} {l : List UInt8} (h : Mine w B (.slice (some ⟨g, 0, none⟩) n c) l) (hk : k < l.length) :
    w.cell? ⟨g, k, none⟩ = some (.int .u8 (l[k].toNat : Int)) ∧ w.frozen? ⟨g, k, none⟩ = false := by
  obtain ⟨cur, hb, -, h1, h2, h3, h4, h5⟩ := h.at_
  refine ⟨?_, hb.frozen k⟩
  rw [hb.cell, ← Array.getElem?_toList]
  have := congrArg (·[k]?) h5
  simp only [List.getElem?_take, if_pos hk] at this
  rw [this]
  simp [bytesV, byteV, hk]
theorem Mine.set {w : World} {B g n c k : Nat} {l : List UInt8} (h : Mine w B (.slice (some ⟨g, 0, none⟩) n c) l) (u : UInt8) :
    Mine (w.setCell ⟨g, k, none⟩ (.int .u8 (u.toNat : Int))) B (.slice (some ⟨g, 0, none⟩) n c) (l.set k u) := by
  obtain ⟨cur, hb, rfl, h1, h2, h3, h4, h5⟩ := h.at_
  have := hb.set_ k (.int .u8 (u.toNat : Int))
  refine ⟨by simp [bytesV], .inr ⟨g, c, _, by simp, h3, this, by simpa using h1, h2, by simpa using h4, ?_⟩⟩
  rw [Array.toList_setIfInBounds, List.length_set, Nat.mul_one, List.take_set, h5]
  simp [bytesV, byteV, List.map_set]
end Go.Proofs.Ytjeeeiekabjcfaa
