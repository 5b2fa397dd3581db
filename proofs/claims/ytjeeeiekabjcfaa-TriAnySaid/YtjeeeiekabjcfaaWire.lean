/-
  THE WRITER: its walks.
-/
import Derived.Test.YtjeeeiekabjcfaaChecked
import Derived.Test.YtjeeeiekabjcfaaAppend
import Derived.Test.YtjeeeiekabjcfaaWireP
import Derived.WalkKit
import Derived.Laws.Bits64
namespace Go.Proofs.Ytjeeeiekabjcfaa
open Go.RowKit Go.Azu

theorem info8 : (Try.prog.info? 5).map (fun i => (i.zero, i.size, i.bytes)) = some (some (.int .u8 0), 1, 1) := by kernel_rfl
theorem bytesTy : STy Try.prog 23 5 (.int .u8 0) 1 1 := ⟨Try.underlying23, info8, rfl, by omega⟩

theorem wpList_append_st {P : Program} {w : World} {ops : Array Oper} {rest : List Oper} {o : Oper} {a : Go.Act} {Q : Exit → Go.Act → World → Prop} {t e : TypeId} {z : Value} {size bytes : Nat} (T : STy P t e z size bytes)
    (s x : Operand) (hgd : o.guard = none) (ho : o.op = .call { callee := .builtin .append, args := #[s, x], argTypes := #[t, t] })
    {base n : Nat} {v : Value} {xs : List Value} (hown : w.ownsRow base e size v n xs) (hs : a.eval s = v)
    {B : Nat} {A : Option Addr} {m c : Nat} {news : List Value} (hr : Reads w B size A m news) (hx : a.eval x = .slice A m c) (h1 : ∀ u ∈ news, u.oneCell' = true)
    (h63 : n + m ≤ maxLen) (hbytes : (n + m) * bytes ≤ 140737488355328) (hbase : base ≤ w.heap.size)
    (h : ∀ v' w', w'.ownsRow base e size v' (n + m) (xs ++ news) → w.grownBy w' v.ownBlock → (v'.ownBlock = v.ownBlock ∨ v'.ownBlock = some w.heap.size) → wpList P ops Q rest (a.put o.dst v') w') : wpList P ops Q (o :: rest) a w := by
  obtain ⟨i, hi, hz, hsize, hby⟩ := info_parts T.info
  exact wpList_append_any w hgd s x t ho base e i z size bytes T.under hi hz hsize hby T.zs T.pos v n xs hs hown B A m c news hx hr h1 h63 hbytes hbase h

theorem cell_at_add (w : World) (g j : Nat) : w.cell? ((⟨g, 0, none⟩ : Addr).add j) = w.cell? ⟨g, j, none⟩ := by
  unfold Addr.add
  split
  · subst ‹_›; rfl
  · simp
theorem reads_blk {w : World} {g n : Nat} {t : TypeId} {xs : List Value} (h : Blk w g t xs.toArray) (hl : xs.length = n) : Reads w w.heap.size 1 (some ⟨g, 0, none⟩) n xs := by
  refine ⟨by omega, fun _ => ⟨_, rfl, h.lt, fun j u hu => ?_⟩⟩
  have := h.cell j
  rw [List.getElem?_toArray, hu] at this
  rw [cell_at_add]
  exact this

/-- a writer is block g; v is its slice: it holds l -/
structure WriterAt (w : World) (g : Nat) (v : Value) (l : List UInt8) : Prop where
  blk : Blk w g 28 #[v]
  own : w.ownsRow 0 5 1 v l.length (bytesV l)

/-- the blocks that a writer may turn -/
def wb (g : Nat) (v : Value) : List Nat := g :: v.ownBlock.toList

set_option maxHeartbeats 400000 in
theorem wByte_any {g : Nat} {v : Value} {l : List UInt8} (c : UInt8) (w : World) (h : WriterAt w g v l) (hl : l.length ≤ 1000000) :
    Calls Try.prog 32 #[.pointer (some ⟨g, 0, none⟩), .int .u8 c.toNat] w fun e w' => ∃ v', e = .returned (.tuple #[]) ∧ WriterAt w' g v' (l ++ [c]) ∧ (v'.ownBlock = v.ownBlock ∨ ∃ k, v'.ownBlock = some k ∧ w.heap.size ≤ k) ∧ Only (wb g v) w w' := by
  have c0 : w.cell? ⟨g, 0, none⟩ = some v := h.blk.cell 0
  have hone : ∀ u ∈ [Value.int .u8 c.toNat], u.oneCell' = true := by intro u hu; simp at hu; subst hu; rfl
  have hmx : l.length + 1 ≤ maxLen := by simp only [maxLen]; omega
  have hby : (l.length + 1) * 1 ≤ 140737488355328 := by omega
  have hne0 := ownsRow_ne_blk h.own h.blk (by decide)
  go_enter Try.func32, Try.ntmps32
  go_wp2_with (at_builtin
               refine wpList_append_st bytesTy (.tmp 10) (.tmp 12) rfl rfl (h.own.alloc _) rfl (reads_blk (Blk.new w _ _) (xs := [.int .u8 c.toNat]) rfl) rfl hone hmx hby (Nat.zero_le _) ?_
               intro v' w' hown' hgrow hat
               obtain ⟨g', cap', rfl, -⟩ := hown'.form (Nat.succ_pos _)
               have hBw : Blk w' g 28 #[v] := (h.blk.alloc _).grown hgrow (Ne.symm hne0)
               have hne1 := ownsRow_ne_blk hown' hBw (by decide)
               have hoA : Only (wb g v) w w' := ((Only.refl (wb g v) w).alloc _).grow hgrow (fun k hk => .inl (by simp [wb, hk]))
               have cq : w'.cell? ⟨g, 0, none⟩ = some v := hBw.cell 0
               have fq : w'.frozen? ⟨g, 0, none⟩ = false := hBw.frozen 0)
  go_end0
  have hoF : Only (wb g v) w (w'.setCell ⟨g, 0, none⟩ (.slice (some ⟨g', 0, none⟩) (l.length + 1) cap')) := hoA.setCell (.inl (by simp [wb])) _
  refine ⟨_, rfl, ⟨hBw.set_ 0 _, ?_⟩, ?_, hoF⟩
  · rw [List.length_append, bytesV_append]
    exact ownsRow_only hown' ((Only.refl [g] w').setCell (.inl (by simp)) _) (fun k hk hm => by simp at hm; subst hm; exact hne1 hk)
  · rcases hat with hat | hat
    · exact .inl hat
    · exact .inr ⟨_, hat, by simp⟩

/-- the writer's slice lies where it lay, or in a block that is new -/
def Moved (w : World) (v v' : Value) : Prop := v'.ownBlock = v.ownBlock ∨ ∃ k, v'.ownBlock = some k ∧ w.heap.size ≤ k

theorem Moved.next {w w1 : World} {v v1 v2 : Value} (h : Moved w v v1) (k : Moved w1 v1 v2) (hs : w.heap.size ≤ w1.heap.size) : Moved w v v2 := by
  rcases k with k | ⟨b, k, hb⟩
  · rcases h with h | ⟨b, h, hb⟩
    · exact .inl (k.trans h)
    · exact .inr ⟨b, k.trans h, hb⟩
  · exact .inr ⟨b, k, by omega⟩
theorem Moved.only {w w1 w2 : World} {g : Nat} {v v1 : Value} (h : Moved w v v1) (ho : Only (wb g v) w w1) (k : Only (wb g v1) w1 w2) : Only (wb g v) w w2 := by
  refine ho.next k fun x hx => ?_
  simp only [wb, List.mem_cons, Option.mem_toList] at hx ⊢
  rcases hx with rfl | hx
  · exact .inl (.inl rfl)
  · rcases h with h | ⟨b, h, hb⟩
    · rw [h] at hx; exact .inl (.inr hx)
    · rw [h] at hx; injection hx with hx; subst hx; exact .inr hb

theorem or128_ : ∀ x : Fin 256, bits BinOp.or .u8 (x.val : Int) 128 = ((x.val % 128 + 128 : Nat) : Int) := by decide +kernel
theorem or128 (m : Nat) : bits BinOp.or .u8 ((m : Int) % 256) 128 = ((UInt8.ofNat (m % 128 + 128)).toNat : Int) := by
  have h := or128_ ⟨m % 256, by omega⟩
  simp only at h
  rw [show ((m % 256 : Nat) : Int) = (m : Int) % 256 from by omega] at h
  rw [h, Wire.nat_of _ (by omega)]
  omega

set_option maxRecDepth 10000 in
set_option maxHeartbeats 800000 in
theorem wCount_any {g : Nat} {v : Value} {l : List UInt8} (n : Nat) (w : World) (h : WriterAt w g v l) (hl : l.length + (Wire.enc n).length ≤ 1000000) (hn : n ≤ 9223372036854775807) :
    Calls Try.prog 21 #[.pointer (some ⟨g, 0, none⟩), .int .i64 n] w fun e w' => ∃ v', e = .returned (.tuple #[]) ∧ WriterAt w' g v' (l ++ Wire.enc n) ∧ Moved w v v' ∧ Only (wb g v) w w' := by
  have HHL := Lib.hid hl
  go_enter Try.func21, Try.ntmps21
  go_wp2_with fail
  go_loopw [1] (fun x wr => ∃ (m : Nat) (u : Value) (l' : List UInt8), x = .int .i64 m ∧ m ≤ n ∧ WriterAt wr g u l' ∧ l' ++ Wire.enc m = l ++ Wire.enc n ∧ Moved w v u ∧ Only (wb g v) w wr) (fun x _ => (intOf x).toNat)
  case atStart => exact ⟨n, v, l, by simp, Nat.le_refl _, h, rfl, .inl rfl, Only.refl _ _⟩
  case round =>
    obtain ⟨m, u, l', rfl, hm, hw, he, hmv, ho⟩ := hrel
    have hlen : l'.length + (Wire.enc m).length = l.length + (Wire.enc n).length := by
      have := congrArg List.length he
      simpa using this
    by_cases hlt : m < 128
    · rw [Wire.enc_low hlt] at he hlen
      have HE := Lib.hid he
      have HLN := Lib.hid hlen
      clear he hlen hl
      go_wp2_with fail
      rw [show ((m : Nat) : Int) = ((UInt8.ofNat m).toNat : Int) from by rw [Wire.nat_of m (by omega)]]
      refine (wByte_any (UInt8.ofNat m) wr hw (by have := HLN.out; have := HHL.out; omega)).mono ?_
      rintro e w2 ⟨u2, rfl, hw2, hmv2, ho2⟩
      go_wp2
      go_end0
      exact ⟨u2, rfl, by rw [← HE.out]; exact hw2, hmv.next hmv2 ho.size, hmv.only ho ho2⟩
    · rw [Wire.enc_high hlt] at he hlen
      have HE := Lib.hid he
      have HLN := Lib.hid hlen
      clear he hlen hl
      go_wp2_with fail
      rw [or128]
      refine (wByte_any (UInt8.ofNat (m % 128 + 128)) wr hw (by have := HLN.out; have := HHL.out; omega)).mono ?_
      rintro e w2 ⟨u2, rfl, hw2, hmv2, ho2⟩
      go_wp2_with fail
      exact ⟨⟨m / 128, u2, _, by simp, by omega, hw2, by rw [← HE.out]; simp, hmv.next hmv2 ho.size, hmv.only ho ho2⟩, by simp [intOf]; omega⟩
theorem xor_ones (x : Nat) (hx : x < 18446744073709551616) : x ^^^ 18446744073709551615 = 18446744073709551615 - x := by
  have h := BitVec.toNat_not (x := BitVec.ofNat 64 x)
  rw [BitVec.not_def, BitVec.toNat_xor, BitVec.toNat_allOnes, BitVec.toNat_ofNat, Nat.mod_eq_of_lt hx] at h
  rw [Nat.xor_comm]
  exact h
theorem zig_bits (n : Int) (hn : -1000000000 ≤ n ∧ n ≤ 1000000000) : bits BinOp.xor .u64 (IntKind.u64.wrap (IntKind.u64.wrap n * 2)) (IntKind.u64.wrap (n / 9223372036854775808)) = (Wire.zig n : Int) := by
  have e : ∀ z : Int, IntKind.u64.wrap z = z % 18446744073709551616 := fun z => rfl
  rw [e, e, e]
  by_cases h : 0 ≤ n
  · have h1 : n % 18446744073709551616 * 2 % 18446744073709551616 = (((2 * n).toNat : Nat) : Int) := by omega
    have h2 : n / 9223372036854775808 % 18446744073709551616 = ((0 : Nat) : Int) := by omega
    rw [h1, h2, bits_xor_u64_nat _ _ (by omega) (by omega), Nat.xor_zero, Wire.zig, if_pos h]
  · have h1 : n % 18446744073709551616 * 2 % 18446744073709551616 = (((2 * n + 18446744073709551616).toNat : Nat) : Int) := by omega
    have h2 : n / 9223372036854775808 % 18446744073709551616 = ((18446744073709551615 : Nat) : Int) := by omega
    rw [h1, h2, bits_xor_u64_nat _ _ (by omega) (by omega), xor_ones _ (by omega), Wire.zig, if_neg h]
    omega

set_option maxRecDepth 10000 in
set_option maxHeartbeats 800000 in
theorem wInt_any {g : Nat} {v : Value} {l : List UInt8} (n0 : Int) (w : World) (h : WriterAt w g v l) (hl : l.length + (Wire.enc (Wire.zig n0)).length ≤ 1000000) (hn : -1000000000 ≤ n0 ∧ n0 ≤ 1000000000) :
    Calls Try.prog 23 #[.pointer (some ⟨g, 0, none⟩), .int .i64 n0] w fun e w' => ∃ v', e = .returned (.tuple #[]) ∧ WriterAt w' g v' (l ++ Wire.enc (Wire.zig n0)) ∧ Moved w v v' ∧ Only (wb g v) w w' := by
  obtain ⟨n, hzn⟩ : ∃ n, n = Wire.zig n0 := ⟨_, rfl⟩
  have hzb := zig_bits n0 hn
  rw [← hzn] at hl hzb ⊢
  have hz64 : n ≤ 9000000000 := by rw [hzn, Wire.zig]; split <;> omega
  clear hzn
  have HHL := Lib.hid hl
  go_enter Try.func23, Try.ntmps23
  go_wp2_with fail
  go_loopw [4] (fun x wr => ∃ (m : Nat) (u : Value) (l' : List UInt8), x = .int .u64 m ∧ m ≤ n ∧ WriterAt wr g u l' ∧ l' ++ Wire.enc m = l ++ Wire.enc n ∧ Moved w v u ∧ Only (wb g v) w wr) (fun x _ => (intOf x).toNat)
  case atStart => exact ⟨n, v, l, by simp, Nat.le_refl _, h, rfl, .inl rfl, Only.refl _ _⟩
  case round =>
    obtain ⟨m, u, l', rfl, hm, hw, he, hmv, ho⟩ := hrel
    have hlen : l'.length + (Wire.enc m).length = l.length + (Wire.enc n).length := by
      have := congrArg List.length he
      simpa using this
    by_cases hlt : m < 128
    · rw [Wire.enc_low hlt] at he hlen
      have HE := Lib.hid he
      have HLN := Lib.hid hlen
      clear he hlen hl
      go_wp2_with fail
      rw [show ((m : Nat) : Int) = ((UInt8.ofNat m).toNat : Int) from by rw [Wire.nat_of m (by omega)]]
      refine (wByte_any (UInt8.ofNat m) wr hw (by have := HLN.out; have := HHL.out; omega)).mono ?_
      rintro e w2 ⟨u2, rfl, hw2, hmv2, ho2⟩
      go_wp2
      go_end0
      exact ⟨u2, rfl, by rw [← HE.out]; exact hw2, hmv.next hmv2 ho.size, hmv.only ho ho2⟩
    · rw [Wire.enc_high hlt] at he hlen
      have HE := Lib.hid he
      have HLN := Lib.hid hlen
      clear he hlen hl
      go_wp2_with fail
      rw [or128]
      refine (wByte_any (UInt8.ofNat (m % 128 + 128)) wr hw (by have := HLN.out; have := HHL.out; omega)).mono ?_
      rintro e w2 ⟨u2, rfl, hw2, hmv2, ho2⟩
      go_wp2_with fail
      exact ⟨⟨m / 128, u2, _, by simp, by omega, hw2, by rw [← HE.out]; simp, hmv.next hmv2 ho.size, hmv.only ho ho2⟩, by simp [intOf]; omega⟩
end Go.Proofs.Ytjeeeiekabjcfaa
