/-
  THE READER: its walks.
-/
import Derived.Test.YtjeeeiekabjcfaaWire
namespace Wire

/-- a reader -/
structure Rd where
  b : List UInt8
  pos : Nat
  err : Int

def Rd.fail (R : Rd) (e : Int) : Rd := if R.err = 0 then { R with err := e } else R
def Rd.left (R : Rd) : Nat := if R.err = 0 then R.b.length - R.pos else 0
def Rd.byte (R : Rd) : UInt8 × Rd := if R.left = 0 then (0, R.fail 3) else (R.b.getD R.pos 0, { R with pos := R.pos + 1 })
end Wire

namespace Go.Proofs.Ytjeeeiekabjcfaa
open Go.RowKit Go.Azu

/-- a reader is block g -/
structure ReaderAt (w : World) (g : Nat) (R : Wire.Rd) : Prop where
  at_ : ∃ A c, Blk w g 76 #[.slice A R.b.length c, .int .i64 R.pos, .int .i64 R.err] ∧ w.ownsRow 0 5 1 (.slice A R.b.length c) R.b.length (bytesV R.b) ∧ R.b.length ≤ c
  small : R.pos ≤ R.b.length ∧ R.b.length ≤ 1000000

theorem ReaderAt.lt {w : World} {g : Nat} {R : Wire.Rd} (h : ReaderAt w g R) : g < w.heap.size := by
  obtain ⟨A, c, h1, -⟩ := h.at_
  exact h1.lt

/-- a store into the reader's struct -/
theorem ReaderAt.touch {w : World} {g : Nat} {R R' : Wire.Rd} (h : ReaderAt w g R) (i : Nat) (u : Value) (hb : R'.b = R.b)
    (hc : ∀ A c, (#[.slice A R.b.length c, .int .i64 R.pos, .int .i64 R.err] : Array Value).setIfInBounds i u = #[.slice A R'.b.length c, .int .i64 R'.pos, .int .i64 R'.err]) (hp : R'.pos ≤ R'.b.length) : ReaderAt (w.setCell ⟨g, i, none⟩ u) g R' := by
  obtain ⟨A, c, h1, h2, h3⟩ := h.at_
  have hne := ownsRow_ne_blk h2 h1 (by decide)
  refine ⟨⟨A, c, ?_, ?_, by rw [hb]; exact h3⟩, hp, by rw [hb]; exact h.small.2⟩
  · rw [← hc A c]; exact h1.set_ i u
  · rw [hb]
    exact ownsRow_only h2 ((Only.refl [g] w).setCell (.inl (by simp)) _) (fun k hk hm => by simp at hm; subst hm; exact hne hk)

set_option maxHeartbeats 400000 in
theorem rFail_any {g : Nat} {R : Wire.Rd} (e : Int) (w : World) (h : ReaderAt w g R) :
    Calls Try.prog 26 #[.pointer (some ⟨g, 0, none⟩), .int .i64 e] w fun x w' => x = .returned (.tuple #[]) ∧ ReaderAt w' g (R.fail e) ∧ Only [g] w w' := by
  have c2 : w.cell? ⟨g, 2, none⟩ = some (.int .i64 R.err) := by obtain ⟨A, c, h1, -⟩ := h.at_; exact h1.cell 2
  have f2 : w.frozen? ⟨g, 2, none⟩ = false := by obtain ⟨A, c, h1, -⟩ := h.at_; exact h1.frozen 2
  by_cases h0 : R.err = 0
  · have hf : R.fail e = { R with err := e } := by simp [Wire.Rd.fail, h0]
    have HF := Lib.hid hf
    clear hf
    go_enter Try.func26, Try.ntmps26
    go_wp2
    go_end0
    exact ⟨rfl, by rw [HF.out]; exact h.touch 2 _ rfl (fun _ _ => by simp) h.small.1, (Only.refl [g] w).setCell (.inl (by simp)) _⟩
  · have hf : R.fail e = R := by simp [Wire.Rd.fail, h0]
    have HF := Lib.hid hf
    clear hf
    have hd : (R.err == 0) = false := by simpa using h0
    go_enter Try.func26, Try.ntmps26
    go_wp2
    go_end0
    exact ⟨rfl, by rw [HF.out]; exact h, Only.refl [g] w⟩

set_option maxHeartbeats 400000 in
theorem rErr_any {g : Nat} {R : Wire.Rd} (w : World) (h : ReaderAt w g R) :
    Calls Try.prog 15 #[.pointer (some ⟨g, 0, none⟩)] w fun x w' => x = .returned (.int .i64 R.err) ∧ w = w' := by
  have c2 : w.cell? ⟨g, 2, none⟩ = some (.int .i64 R.err) := by obtain ⟨A, c, h1, -⟩ := h.at_; exact h1.cell 2
  go_enter Try.func15, Try.ntmps15
  go_wp2
  go_ret
  exact ⟨rfl, rfl⟩

set_option maxHeartbeats 400000 in
theorem rAt_any {g : Nat} {R : Wire.Rd} (w : World) (h : ReaderAt w g R) :
    Calls Try.prog 16 #[.pointer (some ⟨g, 0, none⟩)] w fun x w' => x = .returned (.int .i64 R.pos) ∧ w = w' := by
  have c1 : w.cell? ⟨g, 1, none⟩ = some (.int .i64 R.pos) := by obtain ⟨A, c, h1, -⟩ := h.at_; exact h1.cell 1
  go_enter Try.func16, Try.ntmps16
  go_wp2
  go_ret
  exact ⟨rfl, rfl⟩

theorem ret_congr {v v' : Value} (h : v = v') : Ending.returned v = Ending.returned v' := congrArg _ h

set_option maxHeartbeats 800000 in
theorem rLeft_any {g : Nat} {R : Wire.Rd} (w : World) (h : ReaderAt w g R) :
    Calls Try.prog 38 #[.pointer (some ⟨g, 0, none⟩)] w fun x w' => x = .returned (.int .i64 R.left) ∧ ∃ k, w' = w.drewN k := by
  obtain ⟨A, c, h1, h2, h3⟩ := h.at_
  have c0 : w.cell? ⟨g, 0, none⟩ = some (.slice A R.b.length c) := h1.cell 0
  have c1 : w.cell? ⟨g, 1, none⟩ = some (.int .i64 R.pos) := h1.cell 1
  have c2 : w.cell? ⟨g, 2, none⟩ = some (.int .i64 R.err) := h1.cell 2
  have hs := h.small
  by_cases h0 : R.err = 0
  · have hf : R.left = R.b.length - R.pos := by simp [Wire.Rd.left, h0]
    have HF := Lib.hid hf
    clear hf
    generalize R.b.length = n at *
    rw [h0] at c2
    go_enter Try.func38, Try.ntmps38
    go_wp2_with fail
    go_region
    go_wp2
    go_ret
    exact ⟨by rw [HF.out]; exact ret_congr (congrArg (Value.int .i64) (by omega)), 1, rfl⟩
  · have hf : R.left = 0 := by simp [Wire.Rd.left, h0]
    have HF := Lib.hid hf
    clear hf
    have hd : (R.err != 0) = true := by simpa using h0
    go_enter Try.func38, Try.ntmps38
    go_wp2
    go_ret
    exact ⟨by rw [HF.out]; rfl, 0, rfl⟩

theorem ReaderAt.only {w w' : World} {g : Nat} {R : Wire.Rd} {S : List Nat} (h : ReaderAt w g R) (ho : Only S w w') (hg : g ∉ S) (hS : ∀ {v : Value} {m : Nat} {xs : List Value}, w.ownsRow 0 5 1 v m xs → ∀ k, v.ownBlock = some k → k ∉ S) : ReaderAt w' g R := by
  obtain ⟨A, c, h1, h2, h3⟩ := h.at_
  exact ⟨⟨A, c, h1.only ho hg, ownsRow_only h2 ho (hS h2), h3⟩, h.small⟩
theorem ReaderAt.drewN {w : World} {g : Nat} {R : Wire.Rd} (h : ReaderAt w g R) (k : Nat) : ReaderAt (w.drewN k) g R := h.only ((Only.refl [] w).drewN k) (by simp) (by simp)

set_option maxHeartbeats 800000 in
theorem rByte_any {g : Nat} {R : Wire.Rd} (w : World) (h : ReaderAt w g R) :
    Calls Try.prog 36 #[.pointer (some ⟨g, 0, none⟩)] w fun x w' => x = .returned (.int .u8 R.byte.1.toNat) ∧ ReaderAt w' g R.byte.2 ∧ Only [g] w w' := by
  have hs := h.small
  by_cases h0 : R.left = 0
  · have HF := Lib.hid (show R.byte = (0, R.fail 3) by simp [Wire.Rd.byte, h0])
    go_enter Try.func36, Try.ntmps36
    go_wp2_with fail
    refine (rLeft_any w h).mono ?_
    rw [h0]
    rintro e w1 ⟨rfl, k, rfl⟩
    go_wp2_with fail
    refine (rFail_any 3 _ (h.drewN k)).mono ?_
    rintro e w2 ⟨rfl, hr2, ho2⟩
    go_wp2
    go_ret
    exact ⟨by rw [HF.out]; rfl, by rw [HF.out]; exact hr2, ((Only.refl [g] w).drewN k).trans ho2⟩
  · have HF := Lib.hid (show R.byte = (R.b.getD R.pos 0, { R with pos := R.pos + 1 }) by simp [Wire.Rd.byte, h0])
    have hlt : R.pos < R.b.length := by simp [Wire.Rd.left] at h0; omega
    have hdl : ((R.left : Int) == 0) = false := by simpa using h0
    go_enter Try.func36, Try.ntmps36
    go_wp2_with fail
    refine (rLeft_any w h).mono ?_
    rintro e w1 ⟨rfl, k, rfl⟩
    have hr1 := h.drewN k
    have ho1 := (Only.refl [g] w).drewN k
    generalize w.drewN k = w1 at *
    have c1 : w1.cell? ⟨g, 1, none⟩ = some (.int .i64 R.pos) := by obtain ⟨A, c, h1, -⟩ := hr1.at_; exact h1.cell 1
    have f1 : w1.frozen? ⟨g, 1, none⟩ = false := by obtain ⟨A, c, h1, -⟩ := hr1.at_; exact h1.frozen 1
    go_wp2_with fail
    have hr2 : ReaderAt (w1.setCell ⟨g, 1, none⟩ (.int .i64 ((R.pos : Int) + 1))) g { R with pos := R.pos + 1 } := hr1.touch 1 _ rfl (fun _ _ => by simp) (by show R.pos + 1 ≤ R.b.length; omega)
    have ho2 : Only [g] w (w1.setCell ⟨g, 1, none⟩ (.int .i64 ((R.pos : Int) + 1))) := ho1.setCell (.inl (by simp)) _
    generalize w1.setCell ⟨g, 1, none⟩ (.int .i64 ((R.pos : Int) + 1)) = w2 at *
    obtain ⟨ch, hch⟩ : ∃ ch, R.b[R.pos]? = some ch := ⟨_, List.getElem?_eq_getElem hlt⟩
    have HCH := Lib.hid (show R.b.getD R.pos 0 = ch by simp [List.getD, hch])
    obtain ⟨ga, c, q0, q1, qc⟩ : ∃ ga c, w2.cell? ⟨g, 0, none⟩ = some (.slice (some ⟨ga, 0, none⟩) R.b.length c) ∧ w2.cell? ⟨g, 1, none⟩ = some (.int .i64 ((R.pos : Int) + 1)) ∧ w2.cell? ⟨ga, R.pos, none⟩ = some (.int .u8 ch.toNat) := by
      obtain ⟨A, c, h1, h2, h3⟩ := hr2.at_
      have h2' : w2.ownsRow 0 5 1 (.slice A R.b.length c) R.b.length (bytesV R.b) := h2
      obtain ⟨ga, ca, e, -⟩ := h2'.form (by omega)
      injection e with e1 e2 e3
      subst e1
      refine ⟨ga, c, h1.cell 0, h1.cell 1, ?_⟩
      rw [h2'.cellAt _ (by omega)]
      simp [bytesV, hch, byteV]
    have hp1 : (R.pos : Int) + 1 - 1 = R.pos := by omega
    clear hch h hr1 ho1 c1 f1 h0 hdl
    generalize R.b.length = n at *
    go_region
    go_wp2
    go_ret
    exact ⟨by rw [HF.out]; simp only; rw [HCH.out]; rfl, by rw [HF.out]; exact hr2.drewN 1, ho2.drewN 1⟩
end Go.Proofs.Ytjeeeiekabjcfaa
