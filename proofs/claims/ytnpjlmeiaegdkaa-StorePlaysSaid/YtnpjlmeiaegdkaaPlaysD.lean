/-
  THE LAW's OWN MAP OF BLOCKS, beside the device.
-/
import Derived.Test.YtnpjlmeiaegdkaaTells
import Derived.Test.YtnpjlmeiaegdkaaBlock
namespace Go.Proofs.Ytnpjlmeiaegdkaa
open Go.RowKit Go.Azu

/-- the law's map is block g: it holds blocks of 64 bytes -/
structure LawAt (w : World) (base g : Nat) (mb : Int → Option (List UInt8)) (n : Nat) : Prop where
  at_ : ∃ fm, MapIs w g fm n ∧ (∀ k, (fm k).isSome = (mb k).isSome) ∧
    ∀ k v b, fm k = some v → mb k = some b → (∃ r cap, v = .slice (some ⟨r, 0, none⟩) 64 cap) ∧ w.ownsRow base 5 1 v 64 (bytesV b)
  based : base ≤ g
  small : ∀ k b, mb k = some b → b.length = 64

theorem LawAt.keep {w w' : World} {base g : Nat} {mb : Int → Option (List UInt8)} {n : Nat} {S : List Nat} (h : LawAt w base g mb n) (ho : Only S w w') (hg : g ∉ S) (hS : ∀ {v : Value} {m : Nat} {xs : List Value}, w.ownsRow base 5 1 v m xs → ∀ k, v.ownBlock = some k → k ∉ S) : LawAt w' base g mb n := by
  obtain ⟨fm, h1, h2, h3⟩ := h.at_
  exact ⟨⟨fm, h1.only ho hg, h2, fun k v b hv hb => ⟨(h3 k v b hv hb).1, ownsRow_only (h3 k v b hv hb).2 ho (hS (h3 k v b hv hb).2)⟩⟩, h.based, h.small⟩

theorem LawAt.lt {w : World} {base g : Nat} {mb : Int → Option (List UInt8)} {n : Nat} (h : LawAt w base g mb n) : g < w.heap.size := by
  obtain ⟨fm, h1, -⟩ := h.at_
  exact h1.lt

theorem LawAt.only {w w' : World} {base g : Nat} {mb : Int → Option (List UInt8)} {n : Nat} {S : List Nat} (h : LawAt w base g mb n) (ho : Only S w w') (hS : ∀ x ∈ S, x < base ∨ w.heap.size ≤ x) : LawAt w' base g mb n := by
  have hlt := h.lt
  have hb := h.based
  refine h.keep ho (fun hm => by rcases hS _ hm with h | h <;> omega) fun hr k hk hm => ?_
  have := hr.lt k hk
  rcases hS _ hm with h | h <;> omega

/-- the device's calls leave the law's map -/
theorem LawAt.dev {w w' : World} {base gd gm gb g : Nat} {D : Store.Dev} {mb : Int → Option (List UInt8)} {n : Nat} (h : LawAt w base g mb n) (hD : DevAt w base gd gm gb D) (hgm : g ≠ gm) (ho : Only [gd, gm] w w') : LawAt w' base g mb n := by
  obtain ⟨vF, vG, fm, fb, nb, h1, h2, -⟩ := hD.at_
  obtain ⟨fl, l1, -⟩ := h.at_
  have hgd : g ≠ gd := l1.ne_blk h1
  refine h.keep ho (by simp; exact ⟨hgd, hgm⟩) fun hr k hk hm => ?_
  have q1 := h2.ne_own hr
  have q2 := ownsRow_ne_blk hr h1 (by decide)
  simp at hm
  rcases hm with rfl | rfl
  · exact q2 hk
  · exact q1 hk

/-- a store into the law's map leaves the device -/
theorem DevAt.law {w w' : World} {base gd gm gb g : Nat} {D : Store.Dev} {f : Int → Option Value} {n : Nat} (h : DevAt w base gd gm gb D) (hg : MapIs w g f n) (hgm : g ≠ gm) (hgb : g ≠ gb) (ho : Only [g] w w') : DevAt w' base gd gm gb D := by
  obtain ⟨vF, vG, fm, fb, nb, h1, h2, h3, h4, h5, h6, h7, h8, h9, h10⟩ := h.at_
  have hgd : g ≠ gd := hg.ne_blk h1
  have own : ∀ {e : TypeId} {n : Nat} {v : Value} {xs : List Value}, w.ownsRow base e 1 v n xs → w'.ownsRow base e 1 v n xs := fun hrow =>
    ownsRow_only hrow ho fun k hk hmem => by
      have hk' := hg.ne_own hrow
      simp at hmem
      subst hmem
      exact hk' hk
  exact ⟨⟨vF, vG, fm, fb, nb, h1.only ho (by simpa using Ne.symm hgd), h2.only ho (by simpa using Ne.symm hgm), h3, fun k v b hk hb => ⟨(h4 k v b hk hb).1, own (h4 k v b hk hb).2⟩, h5, own h6, h7, own h8, h9.only ho (by simpa using Ne.symm hgb), h10⟩, h.based, h.apart, h.small⟩

theorem LawAt.put {w : World} {base g : Nat} {mb : Int → Option (List UInt8)} {n : Nat} (h : LawAt w base g mb n) (k : Int) (b : List UInt8) (r cap : Nat) (hb : b.length = 64) (hown : w.ownsRow base 5 1 (.slice (some ⟨r, 0, none⟩) 64 cap) 64 (bytesV b)) :
    ∃ w', (Instr.mapUpdate 42 (.map (some g)) (.int .i64 k) (.slice (some ⟨r, 0, none⟩) 64 cap)).run Try.prog w = .ok () w' ∧ LawAt w' base g (Store.set mb k (some b)) (if (mb k).isSome then n else n + 1) ∧ Only [g] w w' ∧ w'.heap.size = w.heap.size := by
  obtain ⟨fm, h1, h2, h3⟩ := h.at_
  obtain ⟨w', hrun, hm', ho, hs⟩ := h1.update Try.underlying42 Try.underlying3 k (.slice (some ⟨r, 0, none⟩) 64 cap)
  have own : ∀ {v : Value} {m : Nat} {xs : List Value}, w.ownsRow base 5 1 v m xs → w'.ownsRow base 5 1 v m xs := fun hr =>
    ownsRow_only hr ho fun k hk hmem => by
      have hk' := h1.ne_own hr
      simp at hmem
      subst hmem
      exact hk' hk
  refine ⟨w', hrun, ⟨⟨_, by rw [← h2]; exact hm', ?_, ?_⟩, h.based, ?_⟩, ho, hs⟩
  · intro j
    simp only [Upd, Store.set]
    split
    · rfl
    · exact h2 j
  · intro j v b' hv hb'
    simp only [Upd] at hv
    simp only [Store.set] at hb'
    split at hv
    · rename_i hj
      rw [if_pos hj] at hb'
      injection hv with hv
      injection hb' with hb'
      subst hv; subst hb'
      exact ⟨⟨r, cap, rfl⟩, own hown⟩
    · rename_i hj
      rw [if_neg hj] at hb'
      exact ⟨(h3 j v b' hv hb').1, own (h3 j v b' hv hb').2⟩
  · intro j b' hb'
    simp only [Store.set] at hb'
    split at hb'
    · injection hb' with hb'; subst hb'; exact hb
    · exact h.small j b' hb'

theorem LawAt.delete {w : World} {base g : Nat} {mb : Int → Option (List UInt8)} {n : Nat} (h : LawAt w base g mb n) (k : Int) (ty : TypeId) :
    ∃ w', (Builtin.delete_ #[42, 3] ty #[.map (some g), .int .i64 k]).run Try.prog w = .ok (.tuple #[]) w' ∧ LawAt w' base g (Store.set mb k none) (if (mb k).isSome then n - 1 else n) ∧ Only [g] w w' ∧ w'.heap.size = w.heap.size := by
  obtain ⟨fm, h1, h2, h3⟩ := h.at_
  obtain ⟨w', hrun, hm', ho, hs⟩ := h1.delete Try.underlying42 Try.underlying3 ty k
  have own : ∀ {v : Value} {m : Nat} {xs : List Value}, w.ownsRow base 5 1 v m xs → w'.ownsRow base 5 1 v m xs := fun hr =>
    ownsRow_only hr ho fun k hk hmem => by
      have hk' := h1.ne_own hr
      simp at hmem
      subst hmem
      exact hk' hk
  refine ⟨w', hrun, ⟨⟨_, by rw [← h2]; exact hm', ?_, ?_⟩, h.based, ?_⟩, ho, hs⟩
  · intro j
    simp only [Upd, Store.set]
    split
    · rfl
    · exact h2 j
  · intro j v b' hv hb'
    simp only [Upd] at hv
    simp only [Store.set] at hb'
    split at hv
    · cases hv
    · rename_i hj
      rw [if_neg hj] at hb'
      exact ⟨(h3 j v b' hv hb').1, own (h3 j v b' hv hb').2⟩
  · intro j b' hb'
    simp only [Store.set] at hb'
    split at hb'
    · cases hb'
    · exact h.small j b' hb'

theorem LawAt.look {w : World} {base g : Nat} {mb : Int → Option (List UInt8)} {n : Nat} (h : LawAt w base g mb n) (k : Int) :
    (mb k = none ∧ (Instr.lookup 42 (.map (some g)) (.int .i64 k) true).run Try.prog w = .ok (.tuple #[.slice none 0 0, .bool false]) w) ∨
    ∃ b r cap, mb k = some b ∧ b.length = 64 ∧ w.ownsRow base 5 1 (.slice (some ⟨r, 0, none⟩) 64 cap) 64 (bytesV b) ∧
      (Instr.lookup 42 (.map (some g)) (.int .i64 k) true).run Try.prog w = .ok (.tuple #[.slice (some ⟨r, 0, none⟩) 64 cap, .bool true]) w := by
  obtain ⟨fm, h1, h2, h3⟩ := h.at_
  have hl := h1.lookup Try.underlying42 Try.underlying3 (z := .slice none 0 0) (by kernel_rfl) k
  cases hb : mb k with
  | none =>
    left
    have : fm k = none := by
      have := h2 k
      rw [hb] at this
      cases hf : fm k with
      | none => rfl
      | some v => rw [hf] at this; cases this
    rw [this] at hl
    exact ⟨rfl, hl⟩
  | some b =>
    right
    obtain ⟨v, hf⟩ : ∃ v, fm k = some v := by
      have := h2 k
      rw [hb] at this
      cases hf : fm k with
      | none => rw [hf] at this; cases this
      | some v => exact ⟨v, rfl⟩
    obtain ⟨⟨r, cap, rfl⟩, hown⟩ := h3 k v b hf hb
    rw [hf] at hl
    exact ⟨b, r, cap, rfl, h.small k b hb, hown, hl⟩

theorem LawAt.len {w : World} {base g : Nat} {mb : Int → Option (List UInt8)} {n : Nat} (h : LawAt w base g mb n) (ty : TypeId) : (Builtin.len_ #[42] ty #[.map (some g)]).run Try.prog w = .ok (.int .i64 n) w := by
  obtain ⟨fm, h1, -⟩ := h.at_
  obtain ⟨es, clock, hmap, hn⟩ := h1.size_
  exact MapIs.len Try.underlying42 ty hn _ hmap

theorem LawAt.map {w : World} {base g : Nat} {mb : Int → Option (List UInt8)} {n : Nat} (h : LawAt w base g mb n) : ∃ f, MapIs w g f n := by
  obtain ⟨fm, h1, -⟩ := h.at_
  exact ⟨fm, h1⟩

/-- what law and device agree on -/
structure Agree (D : Store.Dev) (mb : Int → Option (List UInt8)) (m room : Nat) (lF lG : List Int) (fB : Int → Option (Int × BitVec 32)) : Prop where
  same : ∀ k, D.blocks k = (mb k).map Crc.put
  room_ : D.room = room
  full_ : D.full = lF
  fail_ : D.fail = lG
  bends_ : D.bends = fB
  most_ : D.count ≤ D.most
  small : D.puts ≤ m ∧ D.takes ≤ m ∧ D.next ≤ m ∧ m ≤ 60

/-- a put that is taken -/
theorem Agree.put_ok {D : Store.Dev} {mb : Int → Option (List UInt8)} {m room : Nat} {lF lG : List Int} {fB : Int → Option (Int × BitVec 32)} (h : Agree D mb m room lF lG fB) (hm : m + 1 ≤ 60) (b : List UInt8) :
    Agree (D.p.n.b ((D.next : Int) + 1) (Crc.put b)).m (Store.set mb ((D.next : Int) + 1) (some b)) (m + 1) room lF lG fB ∧
    (D.p.n.b ((D.next : Int) + 1) (Crc.put b)).m.count = (if (mb ((D.next : Int) + 1)).isSome then D.count else D.count + 1) ∧
    (D.p.n.b ((D.next : Int) + 1) (Crc.put b)).m.most = max D.most (D.p.n.b ((D.next : Int) + 1) (Crc.put b)).m.count := by
  obtain ⟨h1, h2, h3, h4, h5, h6, s1, s2, s3, s4⟩ := h
  have hc : (D.p.n.b ((D.next : Int) + 1) (Crc.put b)).m.count = (if (mb ((D.next : Int) + 1)).isSome then D.count else D.count + 1) := by
    have := h1 ((D.next : Int) + 1)
    show (if (D.blocks ((D.next : Int) + 1)).isSome then D.count else D.count + 1) = _
    rw [this]
    simp
  refine ⟨⟨fun k => ?_, h2, h3, h4, h5, ?_, ?_, Nat.le_trans s2 (by omega), ?_, hm⟩, hc, rfl⟩
  · show Store.set D.blocks ((D.next : Int) + 1) (some (Crc.put b)) k = _
    simp only [Store.set]
    split
    · rfl
    · exact h1 k
  · exact Nat.le_max_right _ _
  · show D.puts + 1 ≤ m + 1; omega
  · show D.next + 1 ≤ m + 1; omega

theorem Agree.more {D : Store.Dev} {mb : Int → Option (List UInt8)} {m room : Nat} {lF lG : List Int} {fB : Int → Option (Int × BitVec 32)} (h : Agree D mb m room lF lG fB) (hm : m + 1 ≤ 60) : Agree D mb (m + 1) room lF lG fB :=
  ⟨h.same, h.room_, h.full_, h.fail_, h.bends_, h.most_, by have := h.small; omega, by have := h.small; omega, by have := h.small; omega, hm⟩
theorem Agree.put_full {D : Store.Dev} {mb : Int → Option (List UInt8)} {m room : Nat} {lF lG : List Int} {fB : Int → Option (Int × BitVec 32)} (h : Agree D mb m room lF lG fB) (hm : m + 1 ≤ 60) : Agree D.p mb (m + 1) room lF lG fB := by
  obtain ⟨h1, h2, h3, h4, h5, h6, s1, s2, s3, s4⟩ := h
  exact ⟨h1, h2, h3, h4, h5, h6, by show D.puts + 1 ≤ _; omega, by show D.takes ≤ _; omega, by show D.next ≤ _; omega, hm⟩

/-- a number's block gone -/
theorem Agree.gone {D : Store.Dev} {mb : Int → Option (List UInt8)} {m room : Nat} {lF lG : List Int} {fB : Int → Option (Int × BitVec 32)} (h : Agree D mb m room lF lG fB) (hm : m + 1 ≤ 60) (k : Int) :
    Agree (D.gone k) (Store.set mb k none) (m + 1) room lF lG fB ∧ Agree (D.gone k).t (Store.set mb k none) (m + 1) room lF lG fB := by
  obtain ⟨h1, h2, h3, h4, h5, h6, s1, s2, s3, s4⟩ := h
  have hs : ∀ j, (D.gone k).blocks j = (Store.set mb k none j).map Crc.put := fun j => by
    show Store.set D.blocks k none j = _
    simp only [Store.set]
    split
    · rfl
    · exact h1 j
  have hc : (D.gone k).count ≤ (D.gone k).most := by show D.count - 1 ≤ D.most; omega
  exact ⟨⟨hs, h2, h3, h4, h5, hc, by show D.puts ≤ _; omega, by show D.takes ≤ _; omega, by show D.next ≤ _; omega, hm⟩, ⟨hs, h2, h3, h4, h5, hc, by show D.puts ≤ _; omega, by show D.takes + 1 ≤ _; omega, by show D.next ≤ _; omega, hm⟩⟩

/-- a number that is not there stays gone -/
theorem Agree.none_ {D : Store.Dev} {mb : Int → Option (List UInt8)} {m room : Nat} {lF lG : List Int} {fB : Int → Option (Int × BitVec 32)} (h : Agree D mb m room lF lG fB) (hm : m + 1 ≤ 60) (k : Int) (hk : mb k = none) : Agree D (Store.set mb k none) (m + 1) room lF lG fB := by
  have e : Store.set mb k none = mb := by
    funext j
    simp only [Store.set]
    split
    · rename_i hj; rw [hj, hk]
    · rfl
  rw [e]
  exact h.more hm

/-- what a take hands out, by the law's words -/
theorem take_law {D : Store.Dev} {mb : Int → Option (List UInt8)} {m room : Nat} {lF lG : List Int} {fB : Int → Option (Int × BitVec 32)} (h : Agree D mb m room lF lG fB) (k : Int) {b : List UInt8} (hb : mb k = some b) (hl : b.length = 64) :
    (∀ x s, fB D.takes = some (x, s) → D.take k = if Store.among D.takes lG = true ∨ Crc.right (Crc.bend x s (Crc.put b)) = false then ([], 10, (D.gone k).t) else (b, 0, (D.gone k).t)) ∧
    (fB D.takes = none → D.take k = if Store.among D.takes lG = true then ([], 10, (D.gone k).t) else (b, 0, (D.gone k).t)) := by
  have hbl : D.blocks k = some (Crc.put b) := by rw [h.same, hb]; rfl
  constructor
  · intro x s hx
    have hf : D.found (Crc.put b) = Crc.bend x s (Crc.put b) := by unfold Store.Dev.found; rw [h.bends_, hx]
    unfold Store.Dev.take
    rw [hbl, h.fail_]
    simp only [hf]
    by_cases h1 : Store.among D.takes lG = true
    · rw [if_pos h1, if_pos (.inl h1)]
    · rw [if_neg h1]
      by_cases h2 : Crc.right (Crc.bend x s (Crc.put b)) = true
      · rw [if_pos h2, if_neg (by rw [h2]; simp [h1]), Crc.bend_right _ _ _ (Crc.right_put b) h2, Crc.put_take b hl]
      · rw [if_neg h2, if_pos (.inr (by simpa using h2))]
  · intro hx
    have hf : D.found (Crc.put b) = Crc.put b := by unfold Store.Dev.found; rw [h.bends_, hx]
    unfold Store.Dev.take
    rw [hbl, h.fail_]
    simp only [hf]
    by_cases h1 : Store.among D.takes lG = true
    · rw [if_pos h1, if_pos h1]
    · rw [if_neg h1, if_neg h1, if_pos (Crc.right_put b), Crc.put_take b hl]
end Go.Proofs.Ytnpjlmeiaegdkaa
