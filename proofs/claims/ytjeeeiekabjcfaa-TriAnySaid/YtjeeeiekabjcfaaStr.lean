/-
  BYTES AS A STRING.
-/
import Derived.Test.YtjeeeiekabjcfaaAgg
import Derived.Laws.BytesString
import Derived.WalkKit
import Derived.Laws.StructEq
namespace Go.Azu
open Go.RowKit

theorem fold_push : ∀ (l : List UInt8) (b : ByteArray), (l.map fun c => (c.toNat : Int)).foldl (fun r n => r.push (UInt8.ofNat n.toNat)) b = ⟨b.data ++ l.toArray⟩
  | [], b => by simp
  | c :: l, b => by
    rw [List.map_cons, List.foldl_cons, fold_push l]
    have hc : UInt8.ofNat ((c.toNat : Int)).toNat = c := by simp
    rw [hc]
    congr 1
    apply Array.ext'
    simp [ByteArray.push]

theorem run_str {P : Program} {w : World} {B n c : Nat} {A : Option Addr} {l : List UInt8} {src dst e : TypeId} (h : Byts w B A n l) (hs : P.underlying src = some (.slice e)) (hd : P.underlying dst = some .string) (he : P.underlying e = some (.int .u8)) :
    (convert src dst (.slice A n c)).run P w = .ok (.string ⟨l.toArray⟩) w := by
  have hl := h.len
  rw [run_convert_bytes_string w src dst e A n c hs he hd]
  cases A with
  | none =>
    have h0 : n = 0 := by
      rcases Nat.eq_zero_or_pos n with h0 | h0
      · exact h0
      · obtain ⟨ad, e, _⟩ := h.2 h0
        cases e
    have : l = [] := List.eq_nil_of_length_eq_zero (by omega)
    subst this
    simp [Conv.bytesToString]
    rfl
  | some ad =>
    have hcells : ∀ j v, (bytesV l)[j]? = some v → w.cell? (ad.add j) = some v := fun j v hv => by
      have hn : 0 < n := by
        have := (List.getElem?_eq_some_iff.1 hv).1
        simp [bytesV] at this
        omega
      obtain ⟨ad', e, _, hc⟩ := h.2 hn
      injection e with e
      subst e
      exact hc j v hv
    have hload := run_loadCells_list (P := P) w ad (bytesV l) hcells
    rw [bytesV_length, hl] at hload
    have := run_bytesToString (P := P) w ad n c (l.map fun c => (c.toNat : Int)) (by rw [hload]; simp [bytesV, byteV])
    rw [this, fold_push]
    simp

/-- the whole block, behind a guard that holds -/
theorem wl_loadg {P : Program} {w : World} {g n : Nat} {t ty : TypeId} {xs : List Value} {ops : Array Oper} {rest : List Oper} {a : Act} {Q : Exit → Act → World → Prop} {dst : Option Tmp} {type : TypeId} {pos : String} {after : Array Edge} {x : Operand} {gd : Nat × Bool} (T : ATy P ty n) (hb : Blk w g t xs.toArray)
    (hw : (yielded ops a.tmps gd.1 == some gd.2) = true) (hx : a.eval x = .pointer (some ⟨g, 0, none⟩)) (hn : xs.length = n)
    (h : wpList P ops Q rest (a.put dst (.agg xs.toArray)) w) : wpList P ops Q (⟨dst, .load ty x, type, pos, after, some gd⟩ :: rest) a w :=
  wpList_step fun _ hK => by
    rw [if_pos (by simpa [Region.wanted] using hw)]
    unfold Oper.wp execOp
    simp only [hx, Instr.loadAt, Instr.sureAddr, Sem.run_bind, Sem.run_pure, Result.andThen_ok, run_load_part (off := 0) (vs := xs) T hb (by simp [← hn]) hn]
    exact hK _ _ h

/-- '==' of two aggregates, behind a guard that holds: by the law of what is equal -/
theorem wl_eqg {P : Program} {w : World} {ty ty2 : TypeId} {xs ys : Array Value} {v : Bool} {ops : Array Oper} {rest : List Oper} {a : Act} {Q : Exit → Act → World → Prop} {dst : Option Tmp} {type : TypeId} {pos : String} {after : Array Edge} {x y : Operand} {gd : Nat × Bool}
    (hg : P.eqGuardType P.depth ty = false) (hE : ∀ w, (Op.equalIn 10000 ty (.agg xs) (.agg ys)).run P w = .ok v w)
    (hw : (yielded ops a.tmps gd.1 == some gd.2) = true) (hx : a.eval x = .agg xs) (hy : a.eval y = .agg ys)
    (h : wpList P ops Q rest (a.put dst (.bool v)) w) : wpList P ops Q (⟨dst, .binOp .eql ty x y ty2, type, pos, after, some gd⟩ :: rest) a w :=
  wpList_step fun _ hK => by
    rw [if_pos (by simpa [Region.wanted] using hw)]
    unfold Oper.wp execOp
    have hE' : ∀ w, (Op.equal ty (.agg xs) (.agg ys)).run P w = .ok v w := hE
    simp only [hx, hy, Sem.run_bind, Sem.run_pure, Result.andThen_ok, run_eqGuard_agg _ _ _ _ _ _ _ hg, binOp, hE']
    exact hK _ _ h
end Go.Azu
