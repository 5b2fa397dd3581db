/-
  SMALL TRIANGLES: the walks of what makes a record.
-/
import Derived.Test.YtjeeeiekabjcfaaRec
import Derived.Test.YtjeeeiekabjcfaaTakeP
namespace Go.Proofs.Ytjeeeiekabjcfaa
open Go.RowKit Go.Azu

theorem pairTy : ATy Try.prog 31 2 := ⟨fun _ => by kernel_rfl, fun _ => by kernel_rfl⟩

set_option maxRecDepth 10000 in
set_option maxHeartbeats 2000000 in
theorem pts_any (a b c d e f : Int) (w : World) (ha : -128 ≤ a ∧ a ≤ 127) (hb : -128 ≤ b ∧ b ≤ 127) (hc : -128 ≤ c ∧ c ≤ 127) (hd : -128 ≤ d ∧ d ≤ 127) (he : -128 ≤ e ∧ e ≤ 127) (hf : -128 ≤ f ∧ f ≤ 127) :
    Calls Try.prog 27 #[.agg #[.int .i8 a, .int .i8 b, .int .i8 c, .int .i8 d, .int .i8 e, .int .i8 f]] w fun x w' => x = .returned (.agg (ints [a, b, c, d, e, f]).toArray) ∧ Only [] w w' := by
  go_enter Try.func27, Try.ntmps27
  go_wp2_with fail
  refine wp_loop_rounds 4 ?_
  rw [rounds_succ]; go_wp2_with (refine wl_indexN Try.underlying33 pairTy rfl rfl (by omega) (by omega) rfl ?_)
  rw [rounds_succ]; go_wp2_with (refine wl_indexN Try.underlying33 pairTy rfl rfl (by omega) (by omega) rfl ?_)
  rw [rounds_succ]; go_wp2_with (refine wl_indexN Try.underlying33 pairTy rfl rfl (by omega) (by omega) rfl ?_)
  rw [rounds_succ]; go_wp2
  refine bodyPost_ret (results_agg triTy6 rfl _ rfl (((((Blk.new1 ..).alloc _).alloc _).alloc _).alloc _) rfl) rfl ⟨rfl, ?_⟩
  exact ((((((Only.refl [] w).alloc _).alloc _).alloc _).alloc _).alloc _).alloc _

namespace Small
/-- the numbers of a small triangle, as they come, and as they are told -/
def told (S : Nat → Int) (p : Nat) : Int := if p < 6 then S p * (1 + S 24 % 4) + 100 else if p < 9 then S p else if p < 12 then 1 + S p % 1024 else S p
def init (S : Nat → Int) (p : Nat) : Int := if p < 6 then S p else 0
/-- so many told -/
def upto (S : Nat → Int) (q p : Nat) : Int := if Tri.pinv p < q then told S p else init S p
end Small

def smallV (S : Nat → Int) : List Value := tab 25 fun k => if k < 6 then .int .i8 (S k) else if k < 24 then .int .u16 (S k) else .int .u8 (S k)
structure SmallIn (S : Nat → Int) : Prop where
  pts : ∀ p, p < 6 → -128 ≤ S p ∧ S p ≤ 127
  mid : ∀ p, 6 ≤ p → p < 24 → 0 ≤ S p ∧ S p ≤ 65535
  size : 0 ≤ S 24 ∧ S 24 ≤ 255
/-- what a small triangle comes to -/
structure Nice (T : Nat → Int) : Prop where
  pts : ∀ p, p < 6 → -700 ≤ T p ∧ T p ≤ 700
  depth : ∀ p, 6 ≤ p → p < 9 → 0 ≤ T p ∧ T p ≤ 65535
  near : ∀ p, 9 ≤ p → p < 12 → 1 ≤ T p ∧ T p ≤ 1024
  colour : ∀ p, 12 ≤ p → p < 24 → 0 ≤ T p ∧ T p ≤ 65535

theorem nice_told {S : Nat → Int} (h : SmallIn S) : Nice (Small.told S) := by
  refine ⟨fun p hp => ?_, fun p h1 h2 => ?_, fun p h1 h2 => ?_, fun p h1 h2 => ?_⟩
  · have h1 := h.pts p hp
    have h2 : 0 ≤ S 24 % 4 ∧ S 24 % 4 ≤ 3 := by omega
    unfold Small.told
    rw [if_pos hp]
    generalize S 24 % 4 = z at *
    rcases (by omega : z = 0 ∨ z = 1 ∨ z = 2 ∨ z = 3) with rfl | rfl | rfl | rfl <;> omega
  · have := h.mid p (by omega) (by omega)
    unfold Small.told
    rw [if_neg (by omega), if_pos h2]; exact this
  · unfold Small.told
    rw [if_neg (by omega), if_neg (by omega), if_pos h2]; omega
  · have := h.mid p (by omega) (by omega)
    unfold Small.told
    rw [if_neg (by omega), if_neg (by omega), if_neg (by omega)]; exact this

theorem upto_next (S : Nat → Int) (q p0 : Nat) (hq : q < 24) (hp : Tri.pos (q / 8) (q % 8) = p0) : (triV (Small.upto S q)).set p0 (.int .i64 (Small.told S p0)) = triV (Small.upto S (q + 1)) := by
  unfold triV
  rw [tab_set]
  apply tab_congr
  intro k hk
  have h1 : k = p0 ↔ Tri.pinv k = q := by
    subst hp
    constructor
    · rintro rfl
      rw [Tri.pinv_pos _ _ (by omega) (by omega)]
      omega
    · intro e
      rw [← e, Tri.pos_pinv k hk]
  by_cases hkp : k = p0
  · rw [if_pos hkp]
    unfold Small.upto
    rw [if_pos (by have := h1.1 hkp; omega), hkp]
  · rw [if_neg hkp]
    have : Tri.pinv k ≠ q := fun e => hkp (h1.2 e)
    unfold Small.upto
    by_cases hlt : Tri.pinv k < q
    · rw [if_pos hlt, if_pos (by omega)]
    · rw [if_neg hlt, if_neg (by omega)]
theorem upto_all (S : Nat → Int) : triV (Small.upto S 24) = triV (Small.told S) := tab_congr fun k hk => by
  unfold Small.upto
  rw [if_pos (Tri.pinv_lt k hk)]
theorem upto_zero (S : Nat → Int) : triV (Small.upto S 0) = triV (Small.init S) := tab_congr fun k hk => by
  unfold Small.upto
  rw [if_neg (by omega)]
end Go.Proofs.Ytjeeeiekabjcfaa
