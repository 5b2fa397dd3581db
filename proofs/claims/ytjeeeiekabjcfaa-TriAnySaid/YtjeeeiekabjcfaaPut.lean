/-
  A RECORD's BYTES, PUT: the walk.
-/
import Derived.Test.YtjeeeiekabjcfaaNums
import Derived.Test.YtjeeeiekabjcfaaReader
namespace Go.Proofs.Ytjeeeiekabjcfaa
open Go.RowKit Go.Azu

theorem WriterAt.only {w w' : World} {g : Nat} {v : Value} {l : List UInt8} {S : List Nat} (h : WriterAt w g v l) (ho : Only S w w') (hg : g ∉ S) (hv : ∀ k, v.ownBlock = some k → k ∉ S) : WriterAt w' g v l :=
  ⟨h.blk.only ho hg, ownsRow_only h.own ho hv⟩
/-- a block of another kind is none of the writer's -/
theorem WriterAt.off {w : World} {g gb : Nat} {v : Value} {l : List UInt8} {t : TypeId} {cs : Array Value} (h : WriterAt w g v l) (hb : Blk w gb t cs) (ht : t ≠ 28 ∧ t ≠ 5) : gb ∉ wb g v := by
  intro hm
  simp only [wb, List.mem_cons, Option.mem_toList] at hm
  rcases hm with rfl | hm
  · exact Blk.ne_ hb h.blk ht.1 rfl
  · exact ownsRow_ne_blk h.own hb (Ne.symm ht.2) hm
theorem WriterAt.far {w w' : World} {g gb : Nat} {v : Value} {l : List UInt8} {t : TypeId} {cs : Array Value} (h : WriterAt w g v l) (hb : Blk w gb t cs) (ht : t ≠ 28 ∧ t ≠ 5) (ho : Only [gb] w w') : WriterAt w' g v l := by
  have hn := h.off hb ht
  simp only [wb, List.mem_cons, Option.mem_toList, not_or] at hn
  refine h.only ho (by simp; exact fun e => hn.1 e.symm) fun k hk hm => ?_
  simp at hm
  subst hm
  exact hn.2 hk

/-- the numbers of the corner ahead -/
def lastV (R : Nat → Int) (k : Nat) : List Value := tab 8 fun j => .int .i64 (if k = 0 then 0 else Tri.ord R (8 * (k - 1) + j))
def rowV (R : Nat → Int) (k : Nat) : List Value := tab 8 fun j => .int .i64 (Tri.ord R (8 * k + j))
theorem lastV_next (R : Nat → Int) (k : Nat) : lastV R (k + 1) = rowV R k := tab_congr fun j _ => by rw [if_neg (by omega)]; rfl

/-- a writer that has these bytes now, from a world on -/
def Wrote (g : Nat) (v : Value) (w : World) (l : List UInt8) (wr : World) : Prop := ∃ u, WriterAt wr g u l ∧ Moved w v u ∧ Only (wb g v) w wr

theorem Wrote.len {g : Nat} {v : Value} {w wr : World} {l : List UInt8} (h : Wrote g v w l wr) : w.heap.size ≤ wr.heap.size := by obtain ⟨u, _, _, ho⟩ := h; exact ho.size
/-- what is new since w changes -/
theorem Wrote.far {g gb : Nat} {v : Value} {w w1 w2 : World} {l : List UInt8} {t : TypeId} {cs : Array Value} (h : Wrote g v w l w1) (hb : Blk w1 gb t cs) (ht : t ≠ 28 ∧ t ≠ 5) (hn : w.heap.size ≤ gb) (ho : Only [gb] w1 w2) : Wrote g v w l w2 := by
  obtain ⟨u, h1, h2, h3⟩ := h
  exact ⟨u, h1.far hb ht ho, h2, h3.next ho (by simp; exact .inr hn)⟩
theorem Wrote.same {g : Nat} {v : Value} {w w1 w2 : World} {l : List UInt8} (h : Wrote g v w l w1) (ho : Only [] w1 w2) : Wrote g v w l w2 := by
  obtain ⟨u, h1, h2, h3⟩ := h
  exact ⟨u, h1.only ho (by simp) (by simp), h2, h3.trans_new ho⟩
theorem Wrote.refl {g : Nat} {v : Value} {w : World} {l : List UInt8} (h : WriterAt w g v l) : Wrote g v w l w := ⟨v, h, .inl rfl, Only.refl _ _⟩

/-- one step of the writer: what it keeps of another block -/
theorem Wrote.int {g : Nat} {v : Value} {w w1 : World} {l : List UInt8} (n : Int) (h : Wrote g v w l w1) (hl : l.length + (Wire.enc (Wire.zig n)).length ≤ 1000000) (hn : -1000000000 ≤ n ∧ n ≤ 1000000000) :
    Calls Try.prog 23 #[.pointer (some ⟨g, 0, none⟩), .int .i64 n] w1 fun e w' => e = .returned (.tuple #[]) ∧ Wrote g v w (l ++ Wire.enc (Wire.zig n)) w' ∧ ∀ gb t cs, Blk w1 gb t cs → t ≠ 28 ∧ t ≠ 5 → Blk w' gb t cs := by
  obtain ⟨u, h1, h2, h3⟩ := h
  refine (wInt_any n w1 h1 hl hn).mono ?_
  rintro e w2 ⟨u2, rfl, g1, g2, g3⟩
  exact ⟨rfl, ⟨u2, g1, h2.next g2 h3.size, h2.only h3 g3⟩, fun gb t cs hb ht => hb.only g3 (h1.off hb ht)⟩
theorem Wrote.count {g : Nat} {v : Value} {w w1 : World} {l : List UInt8} (n : Nat) (h : Wrote g v w l w1) (hl : l.length + (Wire.enc n).length ≤ 1000000) (hn : n ≤ 9223372036854775807) :
    Calls Try.prog 21 #[.pointer (some ⟨g, 0, none⟩), .int .i64 n] w1 fun e w' => e = .returned (.tuple #[]) ∧ Wrote g v w (l ++ Wire.enc n) w' ∧ ∀ gb t cs, Blk w1 gb t cs → t ≠ 28 ∧ t ≠ 5 → Blk w' gb t cs := by
  obtain ⟨u, h1, h2, h3⟩ := h
  refine (wCount_any n w1 h1 hl hn).mono ?_
  rintro e w2 ⟨u2, rfl, g1, g2, g3⟩
  exact ⟨rfl, ⟨u2, g1, h2.next g2 h3.size, h2.only h3 g3⟩, fun gb t cs hb ht => hb.only g3 (h1.off hb ht)⟩

theorem badC_bounds {R : Nat → Int} {k : Nat} (h : badC R k = false) : (-16384 ≤ R (k * 2) ∧ R (k * 2) ≤ 16384) ∧ (-16384 ≤ R (k * 2 + 1) ∧ R (k * 2 + 1) ≤ 16384) ∧ (0 ≤ R (6 + k) ∧ R (6 + k) ≤ 65535) ∧ (1 ≤ R (9 + k) ∧ R (9 + k) ≤ 1024) ∧
    (0 ≤ R (12 + k * 4) ∧ R (12 + k * 4) ≤ 65536) ∧ (0 ≤ R (12 + k * 4 + 1) ∧ R (12 + k * 4 + 1) ≤ 65536) ∧ (0 ≤ R (12 + k * 4 + 2) ∧ R (12 + k * 4 + 2) ≤ 65536) ∧ (0 ≤ R (12 + k * 4 + 3) ∧ R (12 + k * 4 + 3) ≤ 65536) := by
  simp only [badC, Bool.or_eq_false_iff, bne_eq_false_iff_eq, decide_eq_false_iff_not, Bool.not_eq_false', beq_iff_eq, List.cons.injEq, and_true] at h
  obtain ⟨⟨⟨⟨⟨⟨h1, h2⟩, h3⟩, h4⟩, h5⟩, h6⟩, h7, h8, h9, h10⟩ := h
  have n1 := near1_in (R (k * 2)) 16384 (by omega)
  have n2 := near1_in (R (k * 2 + 1)) 16384 (by omega)
  unfold clampC at h7 h8 h9 h10
  refine ⟨by omega, by omega, by omega, by omega, by omega, by omega, by omega, by omega⟩

theorem chk_ok {R : Nat → Int} (h : chk R = 0) : ∀ k, k < 3 → badC R k = false := by
  intro k hk
  rcases Bool.eq_false_or_eq_true (badC R k) with hb | hb
  · have := chk_bad R k hk hb
    omega
  · exact hb
theorem ord_bounds {R : Nat → Int} (h : chk R = 0) (q : Nat) (hq : q < 24) : -16384 ≤ Tri.ord R q ∧ Tri.ord R q ≤ 65536 := by
  obtain ⟨a0, a1, a2, a3, a4, a5, a6, a7⟩ := badC_bounds (chk_ok h (q / 8) (by omega))
  unfold Tri.ord Tri.pos
  generalize q / 8 = k at *
  rcases (by omega : q % 8 = 0 ∨ q % 8 = 1 ∨ q % 8 = 2 ∨ q % 8 = 3 ∨ q % 8 = 4 ∨ q % 8 = 5 ∨ q % 8 = 6 ∨ q % 8 = 7) with e | e | e | e | e | e | e | e <;> rw [e] <;> simp <;> (try rw [Nat.mul_comm 2 k]) <;> (try rw [Nat.mul_comm 4 k]) <;> omega
theorem delta_bounds {R : Nat → Int} (h : chk R = 0) (q : Nat) (hq : q < 24) : -1000000000 ≤ Tri.delta R q ∧ Tri.delta R q ≤ 1000000000 := by
  have h1 := ord_bounds h q hq
  have h2 := ord_bounds h (q - 8) (by omega)
  unfold Tri.delta
  split <;> omega
end Go.Proofs.Ytjeeeiekabjcfaa
