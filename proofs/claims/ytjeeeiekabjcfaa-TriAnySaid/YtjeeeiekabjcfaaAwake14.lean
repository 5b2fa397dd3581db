/-
  LAYER 14's FIXED FACT.
-/
import Derived.Test.YtjeeeiekabjcfaaPutW
import Derived.Test.YtjeeeiekabjcfaaFresh
import Derived.Test.YtjeeeiekabjcfaaStr
namespace Go.Proofs.Ytjeeeiekabjcfaa
open Go.RowKit Go.Azu

theorem zeroRec14 (d : Int) (s : Bool) : (recC d s fun _ => 0).toArray = #[.int .i64 d, .bool s, .int .i64 0, .int .i64 0, .int .i64 0, .int .i64 0, .int .i64 0, .int .i64 0, .int .i64 0, .int .i64 0, .int .i64 0, .int .i64 0, .int .i64 0, .int .i64 0, .int .i64 0, .int .i64 0, .int .i64 0, .int .i64 0, .int .i64 0, .int .i64 0, .int .i64 0, .int .i64 0, .int .i64 0, .int .i64 0, .int .i64 0, .int .i64 0] := rfl
theorem newWriter (w : World) : WriterAt (w.alloc (.cells #[.slice none 0 0] 28)) w.heap.size (.slice none 0 0) [] := ⟨Blk.new .., rfl, .inl ⟨rfl, rfl⟩⟩

set_option maxRecDepth 100000 in
set_option maxHeartbeats 4000000 in
theorem awake14_any (w : World) : Calls Try.prog 6 #[] w fun e w' => e = .returned (.bool true) ∧ Only [] w w' := by
  have hput := put_any 3 false (fun _ => 0) _ (newWriter w) (by simp) (by simp [chkRec])
  simp only [zeroRec14] at hput
  go_enter Try.func6, Try.ntmps6
  go_wp2_with fail
  refine hput.mono ?_
  rintro e w2 ⟨rfl, v, hW, hmv, ho⟩
  have hby : ([] : List UInt8) ++ Tri.bytes 3 false (fun _ => 0) = [6] := by
    simp only [Tri.bytes, Tri.head, List.nil_append, Bool.false_eq_true, if_false, List.append_nil]
    rw [Wire.enc_low (by omega)]
    rfl
  rw [hby] at hW
  have o2 : Only [] w w2 := ((Only.refl [] w).alloc _).next ho (by
    intro x hx
    simp only [wb, List.mem_cons, Option.mem_toList, Value.ownBlock] at hx
    rcases hx with rfl | hx
    · exact .inr (Nat.le_refl _)
    · cases hx)
  clear hby hput hmv ho
  go_wp2_with fail
  refine (wBytes_any w2 hW (by simp)).mono ?_
  rintro e w3 ⟨ga, cap, rfl, hB, hga, hcap, o3⟩
  have hcv : ∀ c, (convert 23 9 (.slice (some ⟨ga, 0, none⟩) 1 c)).run Try.prog w3 = .ok (.string ⟨#[6]⟩) w3 := fun c => run_str (c := c) hB Try.underlying23 Try.underlying9 Try.underlying5 (P := Try.prog)
  go_wp2_with fail
  go_ret
  exact ⟨rfl, o2.trans o3⟩
end Go.Proofs.Ytjeeeiekabjcfaa
