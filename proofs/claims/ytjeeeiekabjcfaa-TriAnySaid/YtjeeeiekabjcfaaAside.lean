/-
  TWO RECORDS COMPARED; what a reader's change leaves. (The same lemmas stand in TriCut: never import both.)
-/
import Derived.Test.YtjeeeiekabjcfaaTriLaw
import Derived.Test.YtjeeeiekabjcfaaTakeB
import Derived.Test.YtjeeeiekabjcfaaBytes
namespace Go.Proofs.Ytjeeeiekabjcfaa
open Go.RowKit Go.Azu

theorem boolCell : (∀ w, (isAgg 4).run Try.prog w = .ok false w) ∧ (∀ w, (sizeOf 4).run Try.prog w = .ok 1 w) := ⟨fun _ => by kernel_rfl, fun _ => by kernel_rfl⟩
theorem part_rec0 (d : Int) (s : Bool) (R : Nat → Int) (w : World) : (part 3 (recC d s R).toArray 0).run Try.prog w = .ok (.int .i64 d) w := by
  simp [part, Sem.run_bind, intCell.1, recC]
theorem part_rec1 (d : Int) (s : Bool) (R : Nat → Int) (w : World) : (part 4 (recC d s R).toArray 1).run Try.prog w = .ok (.bool s) w := by
  simp [part, Sem.run_bind, boolCell.1, recC]
theorem part_rec2 (d : Int) (s : Bool) (R : Nat → Int) (w : World) : (part 49 (recC d s R).toArray 2).run Try.prog w = .ok (.agg (triV R).toArray) w := by
  have h := recC_tri d s R
  simp [part, Sem.run_bind, triTy.agg, triTy.size, h]
theorem recEq (d d' : Int) (s s' : Bool) (R R' : Nat → Int) (w : World) : (Op.equalIn 10000 51 (.agg (recC d s R).toArray) (.agg (recC d' s' R').toArray)).run Try.prog w = .ok (d == d' && s == s' && num24 R == num24 R') w := by
  have hf : ((Try.prog.fieldsOf 51).toList.map fun f => (f.name != "_", f.type, f.offset)) = [(true, 3, 0), (true, 4, 1), (true, 49, 2)] := by kernel_rfl
  rw [show (10000 : Nat) = 9999 + 1 from rfl, run_equalIn_struct w 9999 51 _ _ (by kernel_rfl) (by kernel_rfl)]
  match hl : (Try.prog.fieldsOf 51).toList with
  | [f0, f1, f2] =>
    rw [hl] at hf
    simp only [List.map_cons, List.map_nil, List.cons.injEq, Prod.mk.injEq, bne_iff_ne, ne_eq, and_true] at hf
    obtain ⟨⟨n0, t0, o0⟩, ⟨n1, t1, o1⟩, n2, t2, o2⟩ := hf
    have e0 := fun w => run_equalIn_int (P := Try.prog) w 9998 3 .i64 .i64 d d' Try.underlying3
    have e1 := fun w => run_equalIn_bool' (P := Try.prog) w 9998 4 s s' Try.underlying4
    have e2 : ∀ w, (Op.equalIn 9999 49 (.agg (triV R).toArray) (.agg (triV R').toArray)).run Try.prog w = .ok (num24 R == num24 R') w := fun w => by
      rw [triV_ints, triV_ints]
      exact eqTri 9995 _ _ w (num24_len _) (num24_len _)
    generalize (d == d') = x at *
    generalize (s == s') = y at *
    generalize (num24 R == num24 R') = z at *
    cases x <;> cases y <;> cases z <;> simp [Op.eqFields, n0, n1, n2, t0, t1, t2, o0, o1, o2, Sem.run_bind, part_rec0, part_rec1, part_rec2, e0, e1, e2]
  | [] => rw [hl] at hf; simp at hf
  | [_] => rw [hl] at hf; simp at hf
  | [_, _] => rw [hl] at hf; simp at hf
  | _ :: _ :: _ :: _ :: _ => rw [hl] at hf; simp at hf

theorem Mine.reader {w w' : World} {B g : Nat} {v : Value} {l : List UInt8} {R : Wire.Rd} (h : Mine w B v l) (hr : ReaderAt w g R) (ho : Only [g] w w') : Mine w' B v l := by
  obtain ⟨A, c, h1, h2, h3⟩ := hr.at_
  exact h.only ho fun k hk hm => by
    simp at hm
    subst hm
    exact ownsRow_ne_blk h h1 (by decide) hk
theorem Mine.far {w w' : World} {B gb : Nat} {v : Value} {l : List UInt8} {t : TypeId} {cs : Array Value} (h : Mine w B v l) (hb : Blk w gb t cs) (ht : t ≠ 5) (ho : Only [gb] w w') : Mine w' B v l :=
  h.only ho fun k hk hm => by
    simp at hm
    subst hm
    exact ownsRow_ne_blk h hb (Ne.symm ht) hk
theorem Blk.reader {w w' : World} {gb g : Nat} {t : TypeId} {cs : Array Value} {R : Wire.Rd} (hb : Blk w gb t cs) (hr : ReaderAt w g R) (ht : t ≠ 76) (ho : Only [g] w w') : Blk w' gb t cs := hb.only ho (hr.off hb ht)
theorem ReaderAt.reader {w w' : World} {g g' : Nat} {R R' : Wire.Rd} (h : ReaderAt w g R) (hr : ReaderAt w g' R') (hne : g ≠ g') (ho : Only [g'] w w') : ReaderAt w' g R := by
  obtain ⟨A, c, h1, h2, h3⟩ := hr.at_
  exact h.only ho (by simpa using hne) fun h4 k hk hm => by
    simp at hm
    subst hm
    exact ownsRow_ne_blk h4 h1 (by decide) hk
end Go.Proofs.Ytjeeeiekabjcfaa
