/-
  PROVED: StoreTells: whatever the input, it returns true and leaves the input as it was. No condition.
-/
import Derived.Test.YtnpjlmeiaegdkaaTells
import Derived.Test.YtnpjlmeiaegdkaaRow
namespace Go.Proofs.Ytnpjlmeiaegdkaa
open Go.RowKit Go.Azu Go.WideShapes Go.ChangeShapes

theorem own : ownKnob Try.prog.godebug = none := by kernel_rfl
theorem laidOut : laidOutB Try.prog = true := by kernel_rfl

set_option maxRecDepth 100000 in
theorem tells_lifted (os : Os) (started : os.Started) (H : Type) (enc : TypeId × Value → H) :
    ReturnsInHanded {} Try.checked os 3 .any (Rows.storeTellsSpec.pre6 enc Try.prog Try.f3 Rows.storeTellsRow.domain false) (Rows.storeTellsSpec.post enc Try.prog Try.f3 false true false false) := by
  refine returnsInHanded_of_change (C := Try.checked) own started (by kernel_rfl) Try.func3
    (ChangeSpec.witness6 (enc := enc) (C := Try.checked) false ⟨#[], #[.slice none 0 0, .agg #[.int .i64 0, .int .u32 0], .bool false], []⟩ 8 (by kernel_rfl) (by kernel_rfl) (by kernel_rfl) (by kernel_rfl)) ?_
  intro W base args ds gs before hval0 hW hcnd0 _
  have hval : ∀ (j : Nat) t v, Try.f3.params[j]? = some t → args[j]? = some v → Value.okWide Try.prog W .any base t v := hval0
  have hW' := hW
  obtain ⟨p, q, hA0, hV, rfl, hfz, _⟩ := hW
  have hA : DataW.TrodAll enc Try.prog W 0 (fun _ => true) true Try.f3.params.toList args.toList ds p := hA0
  rw [Try.params3] at hA hval
  obtain ⟨v0, v1, v2, d0, d1, d2, p0, p1, p2, rfl, rfl, rfl, h0, h1, h2⟩ := trodAll_three hA
  obtain ⟨rfl, rfl⟩ := trodVars_none hV
  obtain ⟨a0, len, cap, rfl⟩ := okWide_slice Try.underlying22 (hval 0 22 v0 rfl rfl)
  obtain ⟨fl, rfl, rfl, rfl⟩ := open_bool Try.underlying4 (hval 2 4 v2 rfl rfl) h2
  obtain ⟨b0, b1, y0, y1, m, rfl, rfl, rfl, g0, g1⟩ := Go.Joins.open_agg2 Try.underlying25 (by kernel_rfl) (by kernel_rfl) (hval 1 25 v1 rfl rfl) h1
  obtain ⟨from_, e0, ex0, w0⟩ := DataW.trod_int Try.underlying3 g0
  obtain ⟨mk, e1, ex1, w1⟩ := DataW.trod_int Try.underlying23 g1
  obtain rfl : b0 = .int .i64 from_ := by simpa using e0
  obtain rfl : b1 = .int .u32 mk := by simpa using e1
  obtain ⟨fuel, hf⟩ := h0
  obtain ⟨l, hr, hlc, hcm, hfz0⟩ := open_byts Try.underlying22 Try.underlying5 (by kernel_rfl) (by simpa [Value.cells] using hf) (fun b off hb => hfz b off (by simp; exact .inl hb))
  have hb0 := bounds_i64 w0
  have hb1 := bounds_u32 w1
  obtain ⟨mask, hmask⟩ : ∃ mask : BitVec 32, (mask.toNat : Int) = mk := ⟨BitVec.ofNat 32 mk.toNat, by simp; omega⟩
  subst hmask
  refine (tells_any a0 len cap l from_ mask fl W hr hb0 hfz0 (by omega)).mono fun e W' ⟨he, ho⟩ => ?_
  subst he
  exact ⟨_, rfl, law_post laidOut rfl (by kernel_rfl) (by kernel_rfl) Try.underlying4 hW' rfl rfl rfl ho.to_below⟩

theorem storeTells : Rows.StoreTellsSaid :=
  OpenClaim.holds_of_wide 3 Try.f3 rfl rfl rfl rfl rfl rfl rfl ⟨rfl, rfl, rfl, rfl, rfl⟩ rfl rfl rfl rfl rfl (by kernel_rfl) Try.func3 (by kernel_rfl)
    (of_decide_eq_true (by kernel_rfl)) (by unfold Func.isWrapper; first | (rw [if_pos (by decide +kernel)]; kernel_rfl) | (rw [if_neg (by decide +kernel)]; exact ⟨rfl, rfl⟩))
    (fun os started H enc _ => tells_lifted os started H enc)
#print axioms storeTells
end Go.Proofs.Ytnpjlmeiaegdkaa
