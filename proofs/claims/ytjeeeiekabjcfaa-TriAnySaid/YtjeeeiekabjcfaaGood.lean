/-
  A RECORD TAKEN WITHOUT FAULT, PLAIN: its own bytes stand there, and its check is well.
-/
import Derived.Test.YtjeeeiekabjcfaaTriLaw
import Derived.Test.YtjeeeiekabjcfaaTakeA
namespace Tri
open Wire

theorem decN_ok {b : List UInt8} {m : Int} {r : List UInt8} (h : decN b = .ok (m, r)) : ∃ n : Nat, m = n ∧ b = enc n ++ r := by
  unfold decN at h
  split at h
  · rename_i n r' hd
    injection h with h
    injection h with h1 h2
    subst h2
    exact ⟨n, h1.symm, (dec_ok b 0 n r' (by omega) hd).1⟩
  · cases h
  · cases h
theorem countF_ok {k : Int} {b : List UInt8} {m : Int} {r : List UInt8} (h : countF k b = .ok (m, r)) : ∃ n : Nat, m = n ∧ b = enc n ++ r := by
  unfold countF at h
  split at h
  · rename_i m' r' hd
    split at h
    · cases h
    · injection h with h
      injection h with h1 h2
      subst h1 h2
      exact decN_ok hd
  · cases h
theorem numF_ok {b : List UInt8} {m : Int} {r : List UInt8} (h : numF b = .ok (m, r)) : b = enc (zig m) ++ r := by
  unfold numF withinF at h
  split at h
  · rename_i m' r' hd
    split at h
    · cases h
    · injection h with h
      injection h with h1 h2
      subst h1 h2
      unfold intF at hd
      split at hd
      · rename_i m2 r2 hd2
        injection hd with hd
        injection hd with h1 h2
        subst h1 h2
        obtain ⟨n, rfl, hb⟩ := decN_ok hd2
        rw [Int.toNat_natCast, zig_zag]
        exact hb
      · cases hd
  · cases h
theorem encs_dec {D : Nat → Int} {q : Nat} {b r : List UInt8} (h : Dec D q b r) : q ≤ 24 → b = encs (recOf D) q ++ r := by
  induction h with
  | zero b => intro _; rfl
  | @succ q b r r' h hn ih =>
    intro hq
    rw [ih (by omega), encs, List.append_assoc, delta_recOf D q (by omega)]
    congr 1
    exact numF_ok hn
end Tri

namespace Go.Proofs.Ytjeeeiekabjcfaa
open Go.RowKit Go.Azu _root_.Wire

theorem take_good {b : List UInt8} {d : Nat} {s : Bool} {R : Nat → Int} {rest : List UInt8} (h : TakeR b 0 d s R rest) : d < 32 ∧ chkRec d s R = 0 ∧ b = Tri.bytes d s R ++ rest := by
  have key : ∀ {m : Int} {r : List UInt8}, Wire.countF 63 b = .ok (m, r) → (m / 2).toNat < 32 ∧ b = enc m.toNat ++ r := fun {m r} hc => by
    obtain ⟨n, rfl, hb⟩ := Tri.countF_ok hc
    have := countF_in hc
    exact ⟨by omega, by simpa using hb⟩
  generalize he : (0 : Int) = e at h
  cases h with
  | @none m _ hc h2 =>
    obtain ⟨h1, hb⟩ := key hc
    have hm := countF_in hc
    refine ⟨h1, ?_, ?_⟩
    · unfold chkRec
      rw [if_neg (by simp; omega)]
      simp
    · rw [hb]
      unfold Tri.bytes Tri.head
      simp only [Bool.false_eq_true, if_false, List.append_nil]
      congr 2
      omega
  | @tri m D r _ hc h2 hd hk =>
    obtain ⟨h1, hb⟩ := key hc
    have hm := countF_in hc
    refine ⟨h1, ?_, ?_⟩
    · unfold chkRec
      rw [if_neg (by simp; omega), if_pos rfl]
      exact hk
    · rw [hb, Tri.encs_dec hd (Nat.le_refl _)]
      unfold Tri.bytes Tri.head
      simp only [if_true, List.append_assoc]
      congr 2
      omega
  | count hc hne => exact absurd he.symm hne
  | num hc h2 hd hq hn hne => exact absurd he.symm hne
  | chk hc h2 hd hk => exact absurd he.symm hk

theorem take_bad {b : List UInt8} {e : Int} {d : Nat} {s : Bool} {R : Nat → Int} {rest : List UInt8} (h : TakeR b e d s R rest) (hne : e ≠ 0) : d = 0 ∧ s = false ∧ R = fun _ => 0 := by
  cases h with
  | none => exact absurd rfl hne
  | tri => exact absurd rfl hne
  | count => exact ⟨rfl, rfl, rfl⟩
  | num => exact ⟨rfl, rfl, rfl⟩
  | chk => exact ⟨rfl, rfl, rfl⟩
end Go.Proofs.Ytjeeeiekabjcfaa
