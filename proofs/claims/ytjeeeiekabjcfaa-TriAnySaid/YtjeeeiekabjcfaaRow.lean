/-
  A LAW's ROW OUT OF ITS WALK: the law returns true and leaves all that was there as it was.
-/
import Derived.Test.YtjeeeiekabjcfaaRows
import Derived.Test.YtjeeeiekabjcfaaWords
import Derived.ProofKit
import Derived.OpenShut
import Derived.Below
import Derived.ChangeSame
import Derived.Carry
import Derived.ChangeSlices
import Derived.Lib.SmallJoins
namespace Go.Azu
open Go.RowKit Go.WideShapes Go.ChangeShapes

section
variable {H : Type} {enc : TypeId × Value → H} {P : Program}
theorem post_of_below {f : Func} {s : ChangeSpec} {apart fresh handsOn again : Bool} {W W' : World} {args : Array Value} {v : Value} {ds gs : List (DataW H)} {before pa pv : List MemPlace}
    (hW : DataW.Whole enc P f.params.toList s.vars apart W args.toList ds gs before)
    (hres : ∀ (b : Nat) (sp : Nat → Bool) (hd : Bool), DataW.TrodAll enc P W' b sp hd f.resultTypes.toList (v.resultList f.resultTypes.size) (s.fn H (ds ++ gs)).results [])
    (hargs : ∀ sp : Nat → Bool, (∀ p ∈ before, sp p.block = true) → DataW.TrodAll enc P W' 0 sp true f.params.toList args.toList (s.fn H (ds ++ gs)).args pa)
    (hvars : ∀ sp : Nat → Bool, (∀ p ∈ before, sp p.block = true) → DataW.TrodVars enc P W' sp s.vars (s.fn H (ds ++ gs)).vars pv)
    (hps : before = pa ++ pv) (hb : Below W.heap.size W W')
    (hok : ∀ (j : Nat) (t : TypeId) (r : Value), f.resultTypes[j]? = some t → (v.resultList f.resultTypes.size)[j]? = some r → Value.okWide P W' .any 0 t r) :
    s.post enc P f apart fresh handsOn again W args v W' := by
  have hlt : ∀ p ∈ before, p.block < W.heap.size := fun p hp => hW.lt p hp
  have hold : ∀ p ∈ before, (fun b => decide (b < W.heap.size)) p.block = true := fun p hp => by simpa using hlt p hp
  refine ⟨ds, gs, before, [], pa, pv, hW, hres _ _ _, hargs _ hold, hvars _ hold, World.keptBut_mono (fun p hp => ⟨hp, ?_⟩) (hb.frame (· ∈ before)), fun _ => ?_⟩
  · rw [hps, List.mem_append] at hp
    exact Or.inr hp
  · obtain ⟨_, _, _, _, _, hz, hn⟩ := hW
    refine ⟨hok, _, _, ([] ++ pa) ++ pv, ⟨[] ++ pa, pv, trodAll_append (hargs _ (fun _ _ => rfl)) (hres _ _ _), hvars _ (fun _ _ => rfl), rfl, ?_, ?_⟩, ?_⟩
    · intro b off hp
      have hin : MemPlace.cell b off ∈ before := by rw [hps]; simpa using hp
      rw [hb.frozen (hlt _ hin)]
      exact hz b off hin
    · intro ha
      have := hn ha
      rw [hps] at this
      simpa using this
    · intro p hp _
      rw [hps]
      simpa using hp
end

section
variable {H : Type} {enc : TypeId × Value → H} {P : Program}
theorem trodAll_stays (hl : laidOutB P = true) {W W' : World} {sp : Nat → Bool} (hb : Below W.heap.size W W') :
    ∀ {ts : List TypeId} {vs : List Value} {ds : List (DataW H)} {p : List MemPlace}, (ts.all fun t => P.readableRec t && decide (t < P.types.size)) = true → DataW.TrodAll enc P W 0 (fun _ => true) true ts vs ds p →
      (∀ x ∈ p, x.block < W.heap.size) → (∀ x ∈ p, sp x.block = true) → DataW.TrodAll enc P W' 0 sp true ts vs ds p
  | [], _, _, _, _, h, _, _ => by
    obtain ⟨rfl, rfl, rfl⟩ := trodAll_nil h
    rfl
  | t :: ts, _, _, _, ht, h, hlt, hsp => by
    obtain ⟨v, vs1, d, ds1, a, b, rfl, rfl, rfl, h1, h2⟩ := trodAll_cons h
    simp only [List.all_cons, Bool.and_eq_true, decide_eq_true_eq] at ht
    have ha : ∀ x ∈ a, x ∈ a ++ b := fun x hx => List.mem_append_left _ hx
    have hb' : ∀ x ∈ b, x ∈ a ++ b := fun x hx => List.mem_append_right _ hx
    exact ⟨a, b, WideElems.Trod_stays hl ht.1.1 ht.1.2 h1 (fun x hx => hb.same (hlt x (ha x hx))) (fun x hx => hsp x (ha x hx)),
      trodAll_stays hl hb ht.2 h2 (fun x hx => hlt x (hb' x hx)) (fun x hx => hsp x (hb' x hx)), rfl⟩

/-- THE LAW's LAST STEP -/
theorem law_post {f : Func} {s : ChangeSpec} {W W' : World} {args : Array Value} {ds : List (DataW H)} {before : List MemPlace} {tb : TypeId} (hl : laidOutB P = true) (hv : s.vars = [])
    (ht : (f.params.toList.all fun t => P.readableRec t && decide (t < P.types.size)) = true) (hr : f.resultTypes = #[tb]) (hub : P.underlying tb = some .bool)
    (hW : DataW.Whole enc P f.params.toList s.vars false W args.toList ds [] before) (hs : (s.fn H (ds ++ [])).results = [.lit (.bool true)]) (ha : (s.fn H (ds ++ [])).args = ds) (hvs : (s.fn H (ds ++ [])).vars = [])
    (hb : Below W.heap.size W W') : s.post enc P f false true false false W args (.bool true) W' := by
  have hW' := hW
  obtain ⟨p, q, hA, hV, rfl, _, _⟩ := hW
  rw [hv] at hV
  obtain ⟨-, rfl⟩ := trodVars_none hV
  have hlt : ∀ x ∈ p, x.block < W.heap.size := fun x hx => hW'.lt x (List.mem_append_left _ hx)
  refine post_of_below (pa := p) (pv := []) hW' ?_ ?_ ?_ rfl hb ?_
  · intro b sp hd
    rw [hr, hs]
    exact trodAll_mk1 (shut_bool hub true)
  · intro sp hsp
    rw [ha]
    exact trodAll_stays hl hb ht hA hlt (fun x hx => hsp x (List.mem_append_left _ hx))
  · intro sp _
    rw [hvs, hv]
    rfl
  · exact ok_one hr rfl (okWide_bool_mk hub true)

/-- a slice of bytes that came in -/
theorem open_byts {t e : TypeId} {W : World} {a0 : Option Addr} {len cap fuel : Nat} {x : DataW H × List MemPlace} (ht : P.underlying t = some (.slice e)) (he : P.underlying e = some (.int .u8)) (hc : P.cellsOf e = 1)
    (h : DataW.trod enc P W 0 (fun _ => true) true fuel t [.slice a0 len cap] = some x) (hfz : ∀ b off, MemPlace.cell b off ∈ x.2 → W.frozen? ⟨b, off, none⟩ = false) :
    ∃ l : List UInt8, Byts W W.heap.size a0 len l ∧ len ≤ cap ∧ cap ≤ maxLen ∧ (0 < len → ∀ ad, a0 = some ad → W.frozen? ad = false) := by
  rcases open_ints ht he hc h with ⟨hcs, hx⟩ | ⟨a, len', cap', zs, hcs, _, hlc, hm, hz, hx, hcell, hwz⟩
  · simp at hcs
    obtain ⟨rfl, rfl, rfl⟩ := hcs
    exact ⟨[], Reads.none_, Nat.le_refl _, by simp [maxLen], fun h => absurd h (by omega)⟩
  · simp at hcs
    obtain ⟨rfl, rfl, rfl⟩ := hcs
    simp at hz
    refine ⟨(zs.take len).map fun n => UInt8.ofNat n.toNat, ?_, hlc, hm, ?_⟩
    · refine ⟨by simp [bytesV]; omega, fun h0 => ⟨a, rfl, ?_, fun j u hu => ?_⟩⟩
      · have h1 := hcell 0 (by omega)
        rw [show a.add 0 = a from rfl] at h1
        unfold World.cell? at h1
        cases hh : W.heap[a.block]? with
        | none => rw [hh] at h1; cases h1
        | some o => exact (Array.getElem?_eq_some_iff.1 hh).1
      · have hj : j < len := by
          have := (List.getElem?_eq_some_iff.1 hu).1
          simp [bytesV] at this
          omega
        rw [hcell j (by omega)]
        have hw := hwz (zs.getD j 0) (by
          rw [List.getD, List.getElem?_eq_getElem (by omega)]
          simp)
        have hbd := bounds_u8 hw
        simp [bytesV, byteV, hj, show j < zs.length from by omega] at hu
        rw [← hu]
        simp only [List.getD, List.getElem?_eq_getElem (show j < zs.length from by omega), Option.getD_some] at hbd ⊢
        congr 2
        omega
    · intro h0 ad had
      injection had with had
      subst had
      have h1 := hcell 0 (by omega)
      rw [show a.add 0 = a from rfl] at h1
      have hsp : a.spot = none := by
        unfold World.cell? at h1
        cases hh : W.heap[a.block]? with
        | none => rw [hh] at h1; cases h1
        | some o =>
          rw [hh] at h1
          cases o with
          | cells cs el fz =>
            simp only at h1
            split at h1
            · cases h1
            · rename_i hs; simpa using hs
          | _ => cases h1
      have h2 := hfz a.block a.off (by
        rw [hx]
        simp only [MemPlace.row]
        refine List.mem_map.2 ⟨0, List.mem_range.2 (by omega), by simp⟩)
      rw [show a = ⟨a.block, a.off, none⟩ from by cases a; simp at hsp; rw [hsp]]
      exact h2
end
end Go.Azu
