/-
  PROVED: TriAny: whatever the input, it returns true and leaves the input as it was. No condition.
-/
import Derived.Test.YtjeeeiekabjcfaaTriAny
import Derived.Test.YtjeeeiekabjcfaaOpens
namespace Go.Proofs.Ytjeeeiekabjcfaa
open Go.RowKit Go.Azu Go.WideShapes Go.ChangeShapes

theorem trodAll_five {H : Type} {enc : TypeId × Value → H} {P : Program} {w : World} {base : Nat} {spare : Nat → Bool} {held : Bool} {t0 t1 t2 t3 t4 : TypeId} {args : Array Value} {ds : List (DataW H)} {ps : List MemPlace} (h : DataW.TrodAll enc P w base spare held [t0, t1, t2, t3, t4] args.toList ds ps) :
    ∃ v0 v1 v2 v3 v4 d0 d1 d2 d3 d4 p0 p1 p2 p3 p4, args = #[v0, v1, v2, v3, v4] ∧ ds = [d0, d1, d2, d3, d4] ∧ ps = p0 ++ p1 ++ p2 ++ p3 ++ p4 ∧ DataW.Trod enc P w base spare held t0 v0 d0 p0 ∧ DataW.Trod enc P w base spare held t1 v1 d1 p1 ∧ DataW.Trod enc P w base spare held t2 v2 d2 p2 ∧ DataW.Trod enc P w base spare held t3 v3 d3 p3 ∧ DataW.Trod enc P w base spare held t4 v4 d4 p4 := by
  obtain ⟨v0, r0, d0, e0, p0, q0, hargs, rfl, rfl, h0, g0⟩ := trodAll_cons h
  obtain ⟨v1, r1, d1, e1, p1, q1, rfl, rfl, rfl, h1, g1⟩ := trodAll_cons g0
  obtain ⟨v2, r2, d2, e2, p2, q2, rfl, rfl, rfl, h2, g2⟩ := trodAll_cons g1
  obtain ⟨v3, r3, d3, e3, p3, q3, rfl, rfl, rfl, h3, g3⟩ := trodAll_cons g2
  obtain ⟨v4, r4, d4, e4, p4, q4, rfl, rfl, rfl, h4, g4⟩ := trodAll_cons g3
  obtain ⟨rfl, rfl, rfl⟩ := trodAll_nil g4
  exact ⟨v0, v1, v2, v3, v4, d0, d1, d2, d3, d4, p0, p1, p2, p3, p4, by cases args; simp_all, rfl, by simp, h0, h1, h2, h3, h4⟩

theorem own : ownKnob Try.prog.godebug = none := by kernel_rfl
theorem laidOut : laidOutB Try.prog = true := by kernel_rfl

set_option maxRecDepth 100000 in
theorem triAny_lifted (os : Os) (started : os.Started) (H : Type) (enc : TypeId × Value → H) :
    ReturnsInHanded {} Try.checked os 4 .any (Rows.triAnySpec.pre6 enc Try.prog Try.f4 Rows.triAnyRow.domain false) (Rows.triAnySpec.post enc Try.prog Try.f4 false true false false) := by
  refine returnsInHanded_of_change (C := Try.checked) own started (by kernel_rfl) Try.func4
    (ChangeSpec.witness6 (enc := enc) (C := Try.checked) false ⟨#[], #[.slice none 0 0, .agg (smallV fun _ => 0).toArray, .int .u8 0, .int .u8 0, .int .u8 0], []⟩ 8 (by kernel_rfl) (by kernel_rfl) (by kernel_rfl) (by kernel_rfl)) ?_
  intro W base args ds gs before hval0 hW hcnd0 _
  have hval : ∀ (j : Nat) t v, Try.f4.params[j]? = some t → args[j]? = some v → Value.okWide Try.prog W .any base t v := hval0
  have hW' := hW
  obtain ⟨p, q, hA0, hV, rfl, hfz, _⟩ := hW
  have hA : DataW.TrodAll enc Try.prog W 0 (fun _ => true) true Try.f4.params.toList args.toList ds p := hA0
  rw [Try.params4] at hA hval
  obtain ⟨v0, v1, v2, v3, v4, d0, d1, d2, d3, d4, p0, p1, p2, p3, p4, rfl, rfl, rfl, h0, h1, h2, h3, h4⟩ := trodAll_five hA
  obtain ⟨rfl, rfl⟩ := trodVars_none hV
  obtain ⟨a0, len, cap, rfl⟩ := okWide_slice Try.underlying23 (hval 0 23 v0 rfl rfl)
  obtain ⟨S, hS, rfl⟩ := small_open (hval 1 39 v1 rfl rfl)
  obtain ⟨dr, rfl, hdr⟩ := value_int Try.underlying5 (hval 2 5 v2 rfl rfl)
  obtain ⟨at_, rfl, hat⟩ := value_int Try.underlying5 (hval 3 5 v3 rfl rfl)
  obtain ⟨by_, rfl, -⟩ := value_int Try.underlying5 (hval 4 5 v4 rfl rfl)
  obtain ⟨fuel, hf⟩ := h0
  obtain ⟨l, hr, hlc, hcm, -⟩ := open_byts Try.underlying23 Try.underlying5 (by kernel_rfl) (by simpa [Value.cells] using hf) (fun b off hb => hfz b off (by simp; exact .inl hb))
  have hdr' : 0 ≤ dr ∧ dr ≤ 255 := hdr
  have hat' : 0 ≤ at_ ∧ at_ ≤ 255 := hat
  refine (triAny_any S hS dr at_ by_ hdr' hat' a0 len cap l W hr (by simp only [maxLen] at hcm; omega) hlc).mono fun e W' ⟨he, ho⟩ => ?_
  subst he
  exact ⟨_, rfl, law_post laidOut rfl (by kernel_rfl) (by kernel_rfl) Try.underlying4 hW' rfl rfl rfl ho.to_below⟩

theorem triAny : Rows.TriAnySaid :=
  OpenClaim.holds_of_wide 4 Try.f4 rfl rfl rfl rfl rfl rfl rfl ⟨rfl, rfl, rfl, rfl, rfl⟩ rfl rfl rfl rfl rfl (by kernel_rfl) Try.func4 (by kernel_rfl)
    (of_decide_eq_true (by kernel_rfl)) (by unfold Func.isWrapper; first | (rw [if_pos (by decide +kernel)]; kernel_rfl) | (rw [if_neg (by decide +kernel)]; exact ⟨rfl, rfl⟩))
    (fun os started H enc _ => triAny_lifted os started H enc)
#print axioms triAny
end Go.Proofs.Ytjeeeiekabjcfaa
