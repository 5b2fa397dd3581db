/-
  THE DOCUMENT's BYTES OF A NUMBER: the walks.
-/
import Derived.Test.YtjeeeiekabjcfaaWire
import Derived.Test.YtjeeeiekabjcfaaTriP
namespace Go.Proofs.Ytjeeeiekabjcfaa
open Go.RowKit Go.Azu

/-- a slice of the call's own that holds these bytes -/
def Mine (w : World) (B : Nat) (v : Value) (l : List UInt8) : Prop := w.ownsRow B 5 1 v l.length (bytesV l)
theorem Mine.nil (w : World) (B : Nat) : Mine w B (.slice none 0 0) [] := ⟨rfl, .inl ⟨rfl, rfl⟩⟩
theorem Mine.only {w w' : World} {B : Nat} {v : Value} {l : List UInt8} {S : List Nat} (h : Mine w B v l) (ho : Only S w w') (hn : ∀ k, v.ownBlock = some k → k ∉ S) : Mine w' B v l := ownsRow_only h ho hn
theorem Mine.same {w w' : World} {B : Nat} {v : Value} {l : List UInt8} (h : Mine w B v l) (ho : Only [] w w') : Mine w' B v l := h.only ho (by simp)
theorem Mine.slice {w : World} {B : Nat} {v : Value} {l : List UInt8} (h : Mine w B v l) : ∃ A c, v = .slice A l.length c ∧ l.length ≤ c ∧ (∀ g, A = some g → ∃ k, g = ⟨k, 0, none⟩ ∧ B ≤ k ∧ k < w.heap.size) := by
  rcases h.2 with ⟨rfl, hx⟩ | ⟨g, cap, cur, rfl, hB, hh, hc, _⟩
  · have : l = [] := List.eq_nil_of_length_eq_zero hx
    subst this
    exact ⟨none, 0, rfl, Nat.le_refl _, fun g hg => by cases hg⟩
  · exact ⟨some ⟨g, 0, none⟩, cap, rfl, hc, fun a ha => by injection ha with ha; exact ⟨g, ha.symm, hB, (Array.getElem?_eq_some_iff.1 hh).1⟩⟩
theorem Mine.reads {w : World} {B n c : Nat} {A : Option Addr} {l : List UInt8} (h : Mine w B (.slice A n c) l) : Byts w w.heap.size A l.length l := by
  obtain ⟨A', c', e, _⟩ := h.slice
  injection e with e1 e2 e3
  subst e1 e2 e3
  exact Reads.of_own h
theorem Mine.low {w : World} {B B' : Nat} {v : Value} {l : List UInt8} (h : Mine w B v l) (hb : B' ≤ B) : Mine w B' v l := ownsRow_low h hb
/-- an append onto it leaves what was there before it began -/
theorem Mine.grow {w0 w w' : World} {v v' : Value} {l l' : List UInt8} (h : Mine w w0.heap.size v l) (ho : Only [] w0 w) (hg : w.grownBy w' v.ownBlock) (_ : Mine w' w0.heap.size v' l') : Only [] w0 w' :=
  ho.grow hg fun k hk => by
    obtain ⟨A, c, e, _, hA⟩ := h.slice
    subst e
    cases A with
    | none => cases hk
    | some a =>
      obtain ⟨k', e, hB, _⟩ := hA a rfl
      subst e
      simp [Value.ownBlock] at hk
      exact .inr (by omega)

theorem Mine.app {l : List UInt8} {n : Nat} {ys : List Value} {w : World} {B : Nat} {v : Value} {m : List UInt8} (h : w.ownsRow B 5 1 v (l.length + n) (bytesV l ++ ys)) (hy : ys = bytesV m) (hn : n = m.length) : Mine w B v (l ++ m) := by
  subst hy hn
  unfold Mine
  rw [List.length_append, bytesV_append]
  exact h

set_option maxRecDepth 10000 in
set_option maxHeartbeats 1600000 in
theorem refCount_any (n : Nat) (w : World) (hn : n < 18446744073709551616) :
    Calls Try.prog 18 #[.int .u64 n] w fun x w' => ∃ v, x = .returned v ∧ Mine w' w.heap.size v (Wire.enc n) ∧ Only [] w w' := by
  have hlen := Tri.enc_len 9 n (by simp; omega)
  go_enter Try.func18, Try.ntmps18
  go_wp2_with fail
  go_loopw [0, 3] (fun x y wr => ∃ (m : Nat) (l : List UInt8), x = .int .u64 m ∧ m ≤ n ∧ l ++ Wire.enc m = Wire.enc n ∧ Mine wr w.heap.size y l ∧ Only [] w wr) (fun x _ _ => (intOf x).toNat)
  case atStart => exact ⟨n, [], rfl, Nat.le_refl _, rfl, Mine.nil _ _, Only.refl _ _⟩
  case round =>
    obtain ⟨m, l, rfl, hm, he, hmi, ho⟩ := hrel
    have hll : l.length + (Wire.enc m).length ≤ 10 := by
      have := congrArg List.length he
      rw [List.length_append] at this
      omega
    by_cases hlt : m < 128
    · rw [Wire.enc_low hlt] at he hll
      have HE := Lib.hid he
      simp only [List.length_singleton] at hll
      clear he
      have hmx : l.length + 1 ≤ maxLen := by simp only [maxLen]; omega
      have hby : (l.length + 1) * 1 ≤ 140737488355328 := by omega
      have hone : ∀ u ∈ [Value.int .u8 m], u.oneCell' = true := by intro u hu; simp at hu; subst hu; rfl
      go_wp2_with (at_builtin
                   refine wpList_append_st bytesTy (.tmp 15) (.tmp 18) rfl rfl (hmi.same ((Only.refl [] wr).alloc _)) rfl (reads_blk (Blk.new wr _ _) (xs := [.int .u8 m]) rfl) rfl hone hmx hby (Nat.le_trans ho.size (by simp)) ?_
                   intro v' w2 hown hgrow hat)
      have hM : Mine w2 w.heap.size v' (l ++ [UInt8.ofNat m]) := Mine.app hown (by simp [bytesV, byteV]; omega) rfl
      go_ret
      exact ⟨v', rfl, by rw [← HE.out]; exact hM, (hmi.same ((Only.refl [] wr).alloc _)).grow (ho.alloc _) hgrow hM⟩
    · rw [Wire.enc_high hlt] at he hll
      have HE := Lib.hid he
      simp only [List.length_cons] at hll
      clear he
      have hmx : l.length + 1 ≤ maxLen := by simp only [maxLen]; omega
      have hby : (l.length + 1) * 1 ≤ 140737488355328 := by omega
      have hone : ∀ u ∈ [Value.int .u8 ((m : Int) % 128 + 128)], u.oneCell' = true := by intro u hu; simp at hu; subst hu; rfl
      go_wp2_with (at_builtin
                   refine wpList_append_st bytesTy (.tmp 6) (.tmp 11) rfl rfl (hmi.same ((Only.refl [] wr).alloc _)) rfl (reads_blk (Blk.new wr _ _) (xs := [.int .u8 ((m : Int) % 128 + 128)]) rfl) rfl hone hmx hby (Nat.le_trans ho.size (by simp)) ?_
                   intro v' w2 hown hgrow hat)
      have hM : Mine w2 w.heap.size v' (l ++ [UInt8.ofNat (m % 128 + 128)]) := Mine.app hown (by simp only [bytesV, byteV, List.map_cons, List.map_nil]; rw [Wire.nat_of _ (by omega)]; simp) rfl
      have hO := (hmi.same ((Only.refl [] wr).alloc _)).grow (ho.alloc _) hgrow hM
      exact ⟨⟨m / 128, _, by simp, by omega, by rw [← HE.out]; simp, hM, hO⟩, by simp [intOf]; omega⟩

set_option maxHeartbeats 1600000 in
theorem refInt_any (n : Int) (w : World) (hn : -1000000000 ≤ n ∧ n ≤ 1000000000) :
    Calls Try.prog 19 #[.int .i64 n] w fun x w' => ∃ v, x = .returned v ∧ Mine w' w.heap.size v (Wire.enc (Wire.zig n)) ∧ Only [] w w' := by
  by_cases h0 : n < 0
  · have hz : ((Wire.zig n : Nat) : Int) = -(n + 1) * 2 + 1 := by unfold Wire.zig; rw [if_neg (by omega)]; omega
    have hc := fun w => refCount_any (Wire.zig n) w (by omega)
    rw [hz] at hc
    have HC := Lib.hid hc
    clear hc hz
    go_enter Try.func19, Try.ntmps19
    go_wp2_with fail
    refine (HC.out _).mono ?_
    rintro e w2 ⟨v, rfl, hM, hO⟩
    go_wp2
    go_ret
    exact ⟨v, rfl, hM, hO⟩
  · have hz : ((Wire.zig n : Nat) : Int) = n * 2 := by unfold Wire.zig; rw [if_pos (by omega)]; omega
    have hc := fun w => refCount_any (Wire.zig n) w (by omega)
    rw [hz] at hc
    have HC := Lib.hid hc
    clear hc hz
    go_enter Try.func19, Try.ntmps19
    go_wp2_with fail
    refine (HC.out _).mono ?_
    rintro e w2 ⟨v, rfl, hM, hO⟩
    go_wp2
    go_ret
    exact ⟨v, rfl, hM, hO⟩
end Go.Proofs.Ytjeeeiekabjcfaa
