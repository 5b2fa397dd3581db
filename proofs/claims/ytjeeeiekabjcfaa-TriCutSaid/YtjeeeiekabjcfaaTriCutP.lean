/-
  PROVED: TriCut: whatever the input, it returns true and leaves the input as it was. No condition.
-/
import Derived.Test.YtjeeeiekabjcfaaTriCut
import Derived.Test.YtjeeeiekabjcfaaOpens
namespace Go.Proofs.Ytjeeeiekabjcfaa
open Go.RowKit Go.Azu Go.WideShapes Go.ChangeShapes

theorem own : ownKnob Try.prog.godebug = none := by kernel_rfl
theorem laidOut : laidOutB Try.prog = true := by kernel_rfl

set_option maxRecDepth 100000 in
theorem triCut_lifted (os : Os) (started : os.Started) (H : Type) (enc : TypeId × Value → H) :
    ReturnsInHanded {} Try.checked os 5 .any (Rows.triCutSpec.pre6 enc Try.prog Try.f5 Rows.triCutRow.domain false) (Rows.triCutSpec.post enc Try.prog Try.f5 false true false false) := by
  refine returnsInHanded_of_change (C := Try.checked) own started (by kernel_rfl) Try.func5
    (ChangeSpec.witness6 (enc := enc) (C := Try.checked) false ⟨#[], #[.agg (smallV fun _ => 0).toArray, .int .u8 0, .int .u8 0, .slice none 0 0], []⟩ 8 (by kernel_rfl) (by kernel_rfl) (by kernel_rfl) (by kernel_rfl)) ?_
  intro W base args ds gs before hval0 hW hcnd0 _
  have hval : ∀ (j : Nat) t v, Try.f5.params[j]? = some t → args[j]? = some v → Value.okWide Try.prog W .any base t v := hval0
  have hW' := hW
  obtain ⟨p, q, hA0, hV, rfl, hfz, _⟩ := hW
  have hA : DataW.TrodAll enc Try.prog W 0 (fun _ => true) true Try.f5.params.toList args.toList ds p := hA0
  rw [Try.params5] at hA hval
  obtain ⟨v0, v1, v2, v3, d0, d1, d2, d3, p0, p1, p2, p3, rfl, rfl, rfl, h0, h1, h2, h3⟩ := trodAll_four hA
  obtain ⟨rfl, rfl⟩ := trodVars_none hV
  obtain ⟨S, hS, rfl⟩ := small_open (hval 0 39 v0 rfl rfl)
  obtain ⟨dr, rfl, hdr⟩ := value_int Try.underlying5 (hval 1 5 v1 rfl rfl)
  obtain ⟨at_, rfl, hat⟩ := value_int Try.underlying5 (hval 2 5 v2 rfl rfl)
  obtain ⟨a0, len, cap, rfl⟩ := okWide_slice Try.underlying23 (hval 3 23 v3 rfl rfl)
  obtain ⟨fuel, hf⟩ := h3
  obtain ⟨l, hr, hlc, hcm, -⟩ := open_byts Try.underlying23 Try.underlying5 (by kernel_rfl) (by simpa [Value.cells] using hf) (fun b off hb => hfz b off (by simp; exact .inr (.inr (.inr hb))))
  have hdr' : 0 ≤ dr ∧ dr ≤ 255 := hdr
  have hat' : 0 ≤ at_ ∧ at_ ≤ 255 := hat
  refine (triCut_any S hS dr at_ hdr' hat' a0 len cap l W hr (by simp only [maxLen] at hcm; omega)).mono fun e W' ⟨he, ho⟩ => ?_
  subst he
  exact ⟨_, rfl, law_post laidOut rfl (by kernel_rfl) (by kernel_rfl) Try.underlying4 hW' rfl rfl rfl ho.to_below⟩

theorem triCut : Rows.TriCutSaid :=
  OpenClaim.holds_of_wide 5 Try.f5 rfl rfl rfl rfl rfl rfl rfl ⟨rfl, rfl, rfl, rfl, rfl⟩ rfl rfl rfl rfl rfl (by kernel_rfl) Try.func5 (by kernel_rfl)
    (of_decide_eq_true (by kernel_rfl)) (by unfold Func.isWrapper; first | (rw [if_pos (by decide +kernel)]; kernel_rfl) | (rw [if_neg (by decide +kernel)]; exact ⟨rfl, rfl⟩))
    (fun os started H enc _ => triCut_lifted os started H enc)
#print axioms triCut
end Go.Proofs.Ytjeeeiekabjcfaa
