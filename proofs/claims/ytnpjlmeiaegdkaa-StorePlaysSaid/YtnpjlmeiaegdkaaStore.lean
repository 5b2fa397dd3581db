/-
  THE DEVICE OF BLOCKS: what its functions do to a device that is known.
-/
import Derived.Test.YtnpjlmeiaegdkaaBend
import Derived.Test.YtnpjlmeiaegdkaaMaps
import Derived.Test.YtnpjlmeiaegdkaaStoreP
import Derived.StillTailTactics
import Derived.Deep.RegionHeld3
namespace Go.Proofs.Ytnpjlmeiaegdkaa
open Go.RowKit Go.Azu

theorem ints_at {w : World} {B : Nat} {A : Option Addr} {n k : Nat} {l : List Int} (h : Reads w B 1 A n (l.map (Value.int .i64))) (hk : k < n) :
    ∃ (ad : Addr) (x : Int), A = some ad ∧ ad.block < B ∧ l[k]? = some x ∧ w.cell? (ad.add k) = some (.int .i64 x) := by
  obtain ⟨ad, u, rfl, hB, hu, hc⟩ := Reads.at_ h hk
  rw [List.getElem?_map] at hu
  cases hx : l[k]? with
  | none => rw [hx] at hu; cases hu
  | some x =>
    rw [hx] at hu
    have hu' : u = .int .i64 x := by simpa using hu.symm
    subst hu'
    exact ⟨ad, x, rfl, hB, rfl, hc⟩

theorem among_yes {l : List Int} {k : Nat} {x y : Int} (hu : l[k]? = some y) (h : (y == x) = true) : Store.among x l = true := by
  have : y = x := by simpa using h
  subst this
  simp [Store.among, List.mem_of_getElem? hu]
theorem among_no {l : List Int} {k : Nat} {x y : Int} (hu : l[k]? = some y) (h : (y == x) = false) (hn : Store.among x (l.take k) = false) : Store.among x (l.take (k + 1)) = false := by
  have hne : y ≠ x := by simpa using h
  rw [List.take_add_one, hu]
  simp [Store.among] at *
  exact ⟨hn, fun e => hne e.symm⟩

set_option maxHeartbeats 400000 in
theorem among_any (x : Int) (B : Nat) (A : Option Addr) (n c : Nat) (l : List Int) (w : World) (hn : n ≤ maxLen) (hl : l.length = n) (hr : Reads w B 1 A n (l.map (Value.int .i64))) :
    Calls Try.prog 17 #[.int .i64 x, .slice A n c] w fun e w' => e = .returned (.bool (Store.among x l)) ∧ w = w' := by
  unfold maxLen at hn
  have HL := Lib.hid hl
  clear hl
  go_enter Try.func17, Try.ntmps17
  go_wp2
  go_loop [9] (fun i => ∃ k : Nat, k ≤ n ∧ i = .int .i64 k ∧ Store.among x (l.take k) = false) (fun i => n - (intOf i).toNat)
  case atStart => exact ⟨0, by omega, rfl, rfl⟩
  case round =>
    obtain ⟨k, hk, rfl, hno⟩ := hrel
    have HN := Lib.hid hno
    clear hno
    by_cases hlt : k < n
    · obtain ⟨ad, y, rfl, hB, hu, hc⟩ := ints_at hr hlt
      have HU := Lib.hid hu
      clear hu
      go_wp2
      · go_ret
        exact ⟨ret_congr (congrArg Value.bool (among_yes HU.out ‹_›).symm), rfl⟩
      · go_round
        case rel => exact ⟨k + 1, by omega, by go_num, among_no HU.out ‹_› HN.out⟩
        case measure => simp [intOf]; omega
    · have h3 : Store.among x l = false := by
        have := HN.out
        rwa [List.take_of_length_le (by rw [HL.out]; omega)] at this
      have H3 := Lib.hid h3
      clear h3
      go_wp2
      go_ret
      exact ⟨ret_congr (congrArg Value.bool H3.out.symm), rfl⟩

set_option maxHeartbeats 400000 in
theorem lawAmong_any (x : Int) (B : Nat) (A : Option Addr) (n c : Nat) (l : List Int) (w : World) (hn : n ≤ maxLen) (hl : l.length = n) (hr : Reads w B 1 A n (l.map (Value.int .i64))) :
    Calls Try.prog 11 #[.int .i64 x, .slice A n c] w fun e w' => e = .returned (.bool (Store.among x l)) ∧ w = w' := by
  unfold maxLen at hn
  have HL := Lib.hid hl
  clear hl
  go_enter Try.func11, Try.ntmps11
  go_wp2
  go_loop [9] (fun i => ∃ k : Nat, k ≤ n ∧ i = .int .i64 k ∧ Store.among x (l.take k) = false) (fun i => n - (intOf i).toNat)
  case atStart => exact ⟨0, by omega, rfl, rfl⟩
  case round =>
    obtain ⟨k, hk, rfl, hno⟩ := hrel
    have HN := Lib.hid hno
    clear hno
    by_cases hlt : k < n
    · obtain ⟨ad, y, rfl, hB, hu, hc⟩ := ints_at hr hlt
      have HU := Lib.hid hu
      clear hu
      go_wp2
      · go_ret
        exact ⟨ret_congr (congrArg Value.bool (among_yes HU.out ‹_›).symm), rfl⟩
      · go_round
        case rel => exact ⟨k + 1, by omega, by go_num, among_no HU.out ‹_› HN.out⟩
        case measure => simp [intOf]; omega
    · have h3 : Store.among x l = false := by
        have := HN.out
        rwa [List.take_of_length_le (by rw [HL.out]; omega)] at this
      have H3 := Lib.hid h3
      clear h3
      go_wp2
      go_ret
      exact ⟨ret_congr (congrArg Value.bool H3.out.symm), rfl⟩

/-- THE DEVICE IN MEMORY: its struct is block gd, its map of blocks block gm; all that it owns lies from base on. -/
structure DevAt (w : World) (base gd gm gb : Nat) (D : Store.Dev) : Prop where
  at_ : ∃ vF vG fm fb nb, Blk w gd 54 #[.map (some gm), .int .i64 D.room, .int .i64 D.next, .int .i64 D.most, .int .i64 D.puts, .int .i64 D.takes, vF, vG, .map (some gb)] ∧
    MapIs w gm fm D.count ∧ (∀ k, (fm k).isSome = (D.blocks k).isSome) ∧
    (∀ k v b, fm k = some v → D.blocks k = some b → (∃ g cap, v = .slice (some ⟨g, 0, none⟩) b.length cap ∧ b.length ≤ cap) ∧ w.ownsRow base 5 1 v b.length (bytesV b)) ∧
    (∃ g cap, vF = .slice (some ⟨g, 0, none⟩) D.full.length cap) ∧ w.ownsRow base 3 1 vF D.full.length (D.full.map (Value.int .i64)) ∧
    (∃ g cap, vG = .slice (some ⟨g, 0, none⟩) D.fail.length cap) ∧ w.ownsRow base 3 1 vG D.fail.length (D.fail.map (Value.int .i64)) ∧
    MapIs w gb fb nb ∧ (∀ k, fb k = (D.bends k).map fun p => .agg #[.int .i64 p.1, .int .u32 (p.2.toNat : Int)])
  based : base ≤ gd ∧ base ≤ gm ∧ base ≤ gb
  apart : gm ≠ gb
  small : D.full.length ≤ 1000000 ∧ D.fail.length ≤ 1000000 ∧ D.room ≤ 1000000 ∧ (∀ k b, D.blocks k = some b → b.length = 68) ∧ (∀ k p, D.bends k = some p → -9223372036854775808 ≤ p.1 ∧ p.1 ≤ 9223372036854775807)

theorem DevAt.only {w w' : World} {base gd gm gb : Nat} {D : Store.Dev} {S : List Nat} (h : DevAt w base gd gm gb D) (ho : Only S w w') (hS : ∀ x ∈ S, x < base ∨ w.heap.size ≤ x) : DevAt w' base gd gm gb D := by
  obtain ⟨vF, vG, fm, fb, nb, h1, h2, h3, h4, h5, h6, h7, h8, h9, h10⟩ := h.at_
  have hb := h.based
  have hd := h1.lt
  have hm := h2.lt
  have hbl := h9.lt
  have own : ∀ {e : TypeId} {n : Nat} {v : Value} {xs : List Value}, w.ownsRow base e 1 v n xs → w'.ownsRow base e 1 v n xs := fun hr =>
    ownsRow_only hr ho fun k hk hmem => by
      have := hr.lt k hk
      rcases hS k hmem with h | h <;> omega
  refine ⟨⟨vF, vG, fm, fb, nb, h1.only ho ?_, h2.only ho ?_, h3, fun k v b hk hb => ⟨(h4 k v b hk hb).1, own (h4 k v b hk hb).2⟩, h5, own h6, h7, own h8, h9.only ho ?_, h10⟩, h.based, h.apart, h.small⟩ <;>
    (intro hmem; rcases hS _ hmem with h | h <;> omega)

set_option maxHeartbeats 400000 in
theorem used_any {base gd gm gb : Nat} {D : Store.Dev} (w : World) (h : DevAt w base gd gm gb D) :
    Calls Try.prog 9 #[.pointer (some ⟨gd, 0, none⟩)] w fun e w' => e = .returned (.int .i64 D.count) ∧ w = w' := by
  obtain ⟨vF, vG, fm, fb, nb, h1, h2, -⟩ := h.at_
  obtain ⟨es, clock, hmap, hn⟩ := h2.size_
  have c0 : w.cell? ⟨gd, 0, none⟩ = some (.map (some gm)) := h1.cell 0
  have hlen := MapIs.len (P := Try.prog) (g := gm) (clock := clock) Try.underlying42 3 hn
  clear hn
  go_enter Try.func9, Try.ntmps9
  go_wp2
  go_ret
  exact ⟨rfl, rfl⟩

set_option maxHeartbeats 400000 in
theorem most_any {base gd gm gb : Nat} {D : Store.Dev} (w : World) (h : DevAt w base gd gm gb D) :
    Calls Try.prog 15 #[.pointer (some ⟨gd, 0, none⟩)] w fun e w' => e = .returned (.int .i64 D.most) ∧ w = w' := by
  obtain ⟨vF, vG, fm, fb, nb, h1, -⟩ := h.at_
  have c0 : w.cell? ⟨gd, 3, none⟩ = some (.int .i64 D.most) := h1.cell 3
  go_enter Try.func15, Try.ntmps15
  go_wp2
  go_ret
  exact ⟨rfl, rfl⟩

set_option maxHeartbeats 400000 in
theorem room_any {base gd gm gb : Nat} {D : Store.Dev} (w : World) (h : DevAt w base gd gm gb D) :
    Calls Try.prog 16 #[.pointer (some ⟨gd, 0, none⟩)] w fun e w' => e = .returned (.int .i64 D.room) ∧ w = w' := by
  obtain ⟨vF, vG, fm, fb, nb, h1, -⟩ := h.at_
  have c0 : w.cell? ⟨gd, 1, none⟩ = some (.int .i64 D.room) := h1.cell 1
  go_enter Try.func16, Try.ntmps16
  go_wp2
  go_ret
  exact ⟨rfl, rfl⟩

theorem DevAt.drewN {w : World} {base gd gm gb : Nat} {D : Store.Dev} (h : DevAt w base gd gm gb D) (k : Nat) : DevAt (w.drewN k) base gd gm gb D := h.only ((Only.refl [] w).drewN k) (by simp)

/-- a store into the device's struct leaves all else of it -/
theorem DevAt.touch {w : World} {base gd gm gb : Nat} {D : Store.Dev} (h : DevAt w base gd gm gb D) (i : Nat) (u : Value) {D' : Store.Dev}
    (hc : ∀ vF vG, #[Value.map (some gm), .int .i64 D.room, .int .i64 D.next, .int .i64 D.most, .int .i64 D.puts, .int .i64 D.takes, vF, vG, .map (some gb)].setIfInBounds i u =
      #[Value.map (some gm), .int .i64 D'.room, .int .i64 D'.next, .int .i64 D'.most, .int .i64 D'.puts, .int .i64 D'.takes, vF, vG, .map (some gb)])
    (e1 : D'.count = D.count) (e2 : D'.blocks = D.blocks) (e3 : D'.full = D.full) (e4 : D'.fail = D.fail) (e5 : D'.bends = D.bends) (e6 : D'.room = D.room) : DevAt (w.setCell ⟨gd, i, none⟩ u) base gd gm gb D' := by
  obtain ⟨vF, vG, fm, fb, nb, h1, h2, h3, h4, h5, h6, h7, h8, h9, h10⟩ := h.at_
  have ho : Only [gd] w (w.setCell ⟨gd, i, none⟩ u) := (Only.refl [gd] w).setCell (.inl (by simp)) u
  have n1 := h2.ne_blk h1
  have n2 := h9.ne_blk h1
  have own : ∀ {e : TypeId} {n : Nat} {v : Value} {xs : List Value}, e ≠ 54 → w.ownsRow base e 1 v n xs → (w.setCell ⟨gd, i, none⟩ u).ownsRow base e 1 v n xs := fun hne hr =>
    ownsRow_only hr ho fun k hk hmem => by
      have hk' := ownsRow_ne_blk hr h1 hne
      simp at hmem
      subst hmem
      exact hk' hk
  refine ⟨⟨vF, vG, fm, fb, nb, ?_, ?_, ?_, ?_, ?_, ?_, ?_, ?_, h9.only ho (by simpa using n2), by rw [e5]; exact h10⟩, h.based, h.apart, by rw [e2, e3, e4, e5, e6]; exact h.small⟩
  · rw [← hc]; exact h1.set_ i u
  · rw [e1]; exact h2.only ho (by simpa using n1)
  · rw [e2]; exact h3
  · rw [e2]; exact fun k v b hk hb => ⟨(h4 k v b hk hb).1, own (by decide) (h4 k v b hk hb).2⟩
  · rw [e3]; exact h5
  · rw [e3]; exact own (by decide) h6
  · rw [e4]; exact h7
  · rw [e4]; exact own (by decide) h8

theorem DevAt.mapUpdate {w : World} {base gd gm gb : Nat} {D : Store.Dev} (h : DevAt w base gd gm gb D) (k : Int) (b : List UInt8) (g m cap : Nat) (hm : b.length = m) (hcap : m ≤ cap) (hsm : m = 68)
    (hown : w.ownsRow base 5 1 (.slice (some ⟨g, 0, none⟩) m cap) m (bytesV b)) :
    ∃ w', (Instr.mapUpdate 42 (.map (some gm)) (.int .i64 k) (.slice (some ⟨g, 0, none⟩) m cap)).run Try.prog w = .ok () w' ∧ DevAt w' base gd gm gb (D.b k b) ∧ Only [gm] w w' ∧ w'.heap.size = w.heap.size := by
  subst hm
  obtain ⟨vF, vG, fm, fb, nb, h1, h2, h3, h4, h5, h6, h7, h8, h9, h10⟩ := h.at_
  obtain ⟨w', hrun, hm', ho, hs⟩ := h2.update Try.underlying42 Try.underlying3 k (.slice (some ⟨g, 0, none⟩) b.length cap)
  have n1 := h2.ne_blk h1
  have own : ∀ {e : TypeId} {n : Nat} {v : Value} {xs : List Value}, w.ownsRow base e 1 v n xs → w'.ownsRow base e 1 v n xs := fun hr =>
    ownsRow_only hr ho fun k hk hmem => by
      have hk' := h2.ne_own hr
      simp at hmem
      subst hmem
      exact hk' hk
  refine ⟨w', hrun, ⟨⟨vF, vG, Upd fm k (some (.slice (some ⟨g, 0, none⟩) b.length cap)), fb, nb, h1.only ho (by simpa using Ne.symm n1), ?_, ?_, ?_, h5, own h6, h7, own h8, h9.only ho (by simpa using Ne.symm h.apart), h10⟩, h.based, h.apart, ?_⟩, ho, hs⟩
  · have e : (if (fm k).isSome = true then D.count else D.count + 1) = (D.b k b).count := by simp only [Store.Dev.b, h3]
    rw [← e]; exact hm'
  · intro j
    simp only [Upd, Store.Dev.b, Store.set]
    split
    · rfl
    · exact h3 j
  · intro j v b' hv hb'
    simp only [Upd] at hv
    simp only [Store.Dev.b, Store.set] at hb'
    split at hv
    · rename_i hj
      rw [if_pos hj] at hb'
      injection hv with hv
      injection hb' with hb'
      subst hv; subst hb'
      exact ⟨⟨g, cap, rfl, hcap⟩, own hown⟩
    · rename_i hj
      rw [if_neg hj] at hb'
      exact ⟨(h4 j v b' hv hb').1, own (h4 j v b' hv hb').2⟩
  · obtain ⟨s1, s2, s3, s4, s5⟩ := h.small
    refine ⟨s1, s2, s3, ?_, s5⟩
    intro j b' hb'
    simp only [Store.Dev.b, Store.set] at hb'
    split at hb'
    · injection hb' with hb'; subst hb'; exact hsm
    · exact s4 j b' hb'

set_option maxHeartbeats 1000000 in
theorem devPut_any {base gd gm gb B : Nat} {D : Store.Dev} (A : Option Addr) (c : Nat) (b : List UInt8) (w : World) (h : DevAt w base gd gm gb D) (hr : Byts w B A 64 b) (hB : B ≤ w.heap.size) (hA_ : ∀ ad : Addr, A = some ad → ad.block ≠ gd) (hp : D.puts ≤ 1000000000) (hx : D.next ≤ 1000000000) :
    Calls Try.prog 7 #[.pointer (some ⟨gd, 0, none⟩), .slice A 64 c] w fun e w' => e = .returned (.tuple #[.int .i64 (D.put b).1, .int .i64 (D.put b).2.1]) ∧ DevAt w' base gd gm gb (D.put b).2.2 ∧ Only [gd, gm] w w' := by
  have c4 : w.cell? ⟨gd, 4, none⟩ = some (.int .i64 D.puts) := by obtain ⟨vF, vG, fm, fb, nb, h1, -⟩ := h.at_; exact h1.cell 4
  have f4 : w.frozen? ⟨gd, 4, none⟩ = false := by obtain ⟨vF, vG, fm, fb, nb, h1, -⟩ := h.at_; exact h1.frozen 4
  go_enter Try.func7, Try.ntmps7
  go_wp2_with fail
  have hD : DevAt (w.setCell ⟨gd, 4, none⟩ (.int .i64 ((D.puts : Int) + 1))) base gd gm gb D.p := h.touch 4 _ (fun _ _ => by simp [Store.Dev.p]) rfl rfl rfl rfl rfl rfl
  have ho : Only [gd] w (w.setCell ⟨gd, 4, none⟩ (.int .i64 ((D.puts : Int) + 1))) := (Only.refl [gd] w).setCell (.inl (by simp)) _
  have hr1 : Byts (w.setCell ⟨gd, 4, none⟩ (.int .i64 ((D.puts : Int) + 1))) B A 64 b := Reads.setFar hr hA_ _
  generalize w.setCell ⟨gd, 4, none⟩ (.int .i64 ((D.puts : Int) + 1)) = w1 at *
  clear c4 f4
  obtain ⟨vF, vG, fm, fb, nb, h1, h2, h3, h4, ⟨gF, cF, rfl⟩, h6, h7, h8, h9, h10⟩ := hD.at_
  obtain ⟨es, clock, hmap, hn⟩ := h2.size_
  have hlen : ∀ nq, (Builtin.len_ #[42] 3 #[.map (some gm)]).run Try.prog (w1.drewN nq) = .ok (.int .i64 D.count) (w1.drewN nq) := fun nq => MapIs.len Try.underlying42 3 hn _ hmap
  clear hn
  have c0 : w1.cell? ⟨gd, 0, none⟩ = some (.map (some gm)) := h1.cell 0
  have c1 : w1.cell? ⟨gd, 1, none⟩ = some (.int .i64 D.room) := h1.cell 1
  have c4 : w1.cell? ⟨gd, 4, none⟩ = some (.int .i64 ((D.puts : Int) + 1)) := h1.cell 4
  have c6 : w1.cell? ⟨gd, 6, none⟩ = some (.slice (some ⟨gF, 0, none⟩) D.full.length cF) := h1.cell 6
  have hs := h.small
  by_cases hfull : D.room ≤ D.count
  · have hd : decide ((D.room : Int) ≤ (D.count : Int)) = true := by simpa using hfull
    have hput := Store.put_full D b hr.len (.inl hfull)
    have HP := Lib.hid hput
    clear hput
    go_quiet (fail)
    go_wp2
    go_ret2
    rw [HP.out]
    exact ⟨rfl, hD.drewN _, (ho.drewN _).mono (by simp)⟩
  · have hd : decide ((D.room : Int) ≤ (D.count : Int)) = false := by simpa using hfull
    have hr6 := Reads.of_own h6
    cases hA : Store.among (D.puts : Int) D.full with
    | true =>
      have hput := Store.put_full D b hr.len (.inr hA)
      have HP := Lib.hid hput
      have HAM := Lib.hid fun nq => among_any (D.puts : Int) _ _ _ cF D.full (w1.drewN nq) (by simp only [maxLen]; omega) rfl (hr6.drewN nq)
      rw [hA] at HAM
      clear hput hA
      go_quiet ((go_at_call 17; exact Calls.quiet_of_same ((HAM.out _).mono fun _ _ hh => ⟨hh.1, hh.2.symm⟩)))
      go_wp2
      go_ret2
      rw [HP.out]
      exact ⟨rfl, hD.drewN _, (ho.drewN _).mono (by simp)⟩
    | false =>
      have hput := Store.put_ok D b hr.len hfull hA
      have HP := Lib.hid hput
      have HAM := Lib.hid fun nq => among_any (D.puts : Int) _ _ _ cF D.full (w1.drewN nq) (by simp only [maxLen]; omega) rfl (hr6.drewN nq)
      rw [hA] at HAM
      clear hput hA
      go_quiet ((go_at_call 17; exact Calls.quiet_of_same ((HAM.out _).mono fun _ _ hh => ⟨hh.1, hh.2.symm⟩)))
      have c2 : w1.cell? ⟨gd, 2, none⟩ = some (.int .i64 D.next) := h1.cell 2
      have f2 : w1.frozen? ⟨gd, 2, none⟩ = false := h1.frozen 2
      go_wp2_with fail
      have hD2 : DevAt ((w1.drewN nq).setCell ⟨gd, 2, none⟩ (.int .i64 ((D.next : Int) + 1))) base gd gm gb D.p.n := (hD.drewN nq).touch 2 _ (fun _ _ => by simp [Store.Dev.p, Store.Dev.n]) rfl rfl rfl rfl rfl rfl
      have ho2 : Only [gd] w ((w1.drewN nq).setCell ⟨gd, 2, none⟩ (.int .i64 ((D.next : Int) + 1))) := (ho.drewN nq).setCell (.inl (by simp)) _
      have hr2 : Byts ((w1.drewN nq).setCell ⟨gd, 2, none⟩ (.int .i64 ((D.next : Int) + 1))) B A 64 b := Reads.setFar (hr1.drewN nq) hA_ _
      generalize (w1.drewN nq).setCell ⟨gd, 2, none⟩ (.int .i64 ((D.next : Int) + 1)) = w2 at *
      clear h1 h2 h3 h4 h6 h7 h8 h9 h10 hlen c0 c1 c4 c6 c2 f2 hr6 HAM hmap hd
      have hbased := h.based
      obtain ⟨hgd, hnm, hbase, c0, c2⟩ : gd < w2.heap.size ∧ gd ∉ [gm] ∧ base ≤ w2.heap.size ∧ w2.cell? ⟨gd, 0, none⟩ = some (.map (some gm)) ∧ w2.cell? ⟨gd, 2, none⟩ = some (.int .i64 ((D.next : Int) + 1)) := by
        obtain ⟨vF, vG, fm, fb, nb, h1, h2, -⟩ := hD2.at_
        have hlt := h1.lt
        have hne := h2.ne_blk h1
        exact ⟨hlt, by simp; omega, by omega, h1.cell 0, h1.cell 2⟩
      have hlb : (Crc.put b).length = 64 + 4 := by rw [Crc.put, List.length_append, hr.len]; rfl
      have HLB := Lib.hid hlb
      clear hlb
      go_region_held3 (fun w' => w'.cell? ⟨gd, 0, none⟩ = some (.map (some gm)) ∧ w'.cell? ⟨gd, 2, none⟩ = some (.int .i64 ((D.next : Int) + 1)))
        (first | go_keep | (go_split_ands; refine ⟨?_, ?_⟩ <;> (rw [hop.cell hgd (by simp)]; assumption)) | (go_split_ands; refine ⟨?_, ?_⟩ <;> (rw [ho4.cell (Nat.lt_of_lt_of_le hgd hop.size) hnm]; assumption)))
        (first | (go_at_call 18; refine (put_any _ _ _ b _ (by omega) ((hr2.more (Nat.le_trans hB ho2.size)).drew)).mono ?_; rintro e w3 ⟨g3, cap3, rfl, hg3, hcap3, hown3, hop⟩; obtain ⟨w4, hrun4, hD4, ho4, hs4⟩ := ((hD2.only (Only.refl [] w2).drew (by simp)).only hop (by simp)).mapUpdate ((D.next : Int) + 1) (Crc.put b) g3 (64 + 4) cap3 HLB.out hcap3 rfl (ownsRow_low hown3 hbase)))
      have ho5 : Only [gd, gm] w w4 := (((ho2.drew.trans_new hop).mono (T := [gd, gm]) (by simp)).next ho4 (by simp))
      clear hop hg3 hcap3 hown3 hrun4 ho4 hs4 hr2 ho2 hD2 c0 c2
      obtain ⟨vF, vG, fm, fb, nb, h1, h2, -⟩ := hD4.at_
      obtain ⟨es, clock, hmap, hn⟩ := h2.size_
      have hlen : (Builtin.len_ #[42] 3 #[.map (some gm)]).run Try.prog w4.drew = .ok (.int .i64 (D.p.n.b ((D.next : Int) + 1) (Crc.put b)).count) w4.drew := MapIs.len Try.underlying42 3 hn _ hmap
      have c0 : w4.cell? ⟨gd, 0, none⟩ = some (.map (some gm)) := h1.cell 0
      have c2 : w4.cell? ⟨gd, 2, none⟩ = some (.int .i64 ((D.next : Int) + 1)) := h1.cell 2
      have c3 : w4.cell? ⟨gd, 3, none⟩ = some (.int .i64 D.most) := h1.cell 3
      have f3 : w4.frozen? ⟨gd, 3, none⟩ = false := h1.frozen 3
      clear hn
      generalize hcn : (D.p.n.b ((D.next : Int) + 1) (Crc.put b)).count = cn at *
      have HCN := Lib.hid hcn
      clear hcn
      go_wp2_with fail
      go_region
      all_goals go_wp2
      all_goals go_ret2
      all_goals rw [HP.out]
      all_goals
        refine ⟨rfl, DevAt.only (hD4.touch 3 _ (D' := (D.p.n.b ((D.next : Int) + 1) (Crc.put b)).m) (fun _ _ => ?_) rfl rfl rfl rfl rfl rfl) (Only.refl [] _).drew (by simp), (ho5.setCell (.inl (by simp)) _).drew⟩
        have hmx : ((D.p.n.b ((D.next : Int) + 1) (Crc.put b)).m).most = max D.most cn := congrArg (max D.most) HCN.out
        rw [hmx]
        first
        | (rw [show max D.most cn = cn from by omega]; rfl)
        | (rw [show max D.most cn = D.most from by omega]; rfl)

theorem DevAt.delete {w : World} {base gd gm gb : Nat} {D : Store.Dev} (h : DevAt w base gd gm gb D) (k : Int) {b : List UInt8} (hb : D.blocks k = some b) (ty : TypeId) :
    ∃ w', (Builtin.delete_ #[42, 3] ty #[.map (some gm), .int .i64 k]).run Try.prog w = .ok (.tuple #[]) w' ∧ DevAt w' base gd gm gb (D.gone k) ∧ Only [gm] w w' ∧ w'.heap.size = w.heap.size := by
  obtain ⟨vF, vG, fm, fb, nb, h1, h2, h3, h4, h5, h6, h7, h8, h9, h10⟩ := h.at_
  obtain ⟨w', hrun, hm', ho, hs⟩ := h2.delete Try.underlying42 Try.underlying3 ty k
  have n1 := h2.ne_blk h1
  have own : ∀ {e : TypeId} {n : Nat} {v : Value} {xs : List Value}, w.ownsRow base e 1 v n xs → w'.ownsRow base e 1 v n xs := fun hr =>
    ownsRow_only hr ho fun k hk hmem => by
      have hk' := h2.ne_own hr
      simp at hmem
      subst hmem
      exact hk' hk
  refine ⟨w', hrun, ⟨⟨vF, vG, Upd fm k none, fb, nb, h1.only ho (by simpa using Ne.symm n1), ?_, ?_, ?_, h5, own h6, h7, own h8, h9.only ho (by simpa using Ne.symm h.apart), h10⟩, h.based, h.apart, ?_⟩, ho, hs⟩
  · have e : (if (fm k).isSome = true then D.count - 1 else D.count) = (D.gone k).count := by rw [h3, hb]; rfl
    rw [← e]; exact hm'
  · intro j
    simp only [Upd, Store.Dev.gone, Store.set]
    split
    · rfl
    · exact h3 j
  · intro j v b' hv hb'
    simp only [Upd] at hv
    simp only [Store.Dev.gone, Store.set] at hb'
    split at hv
    · cases hv
    · rename_i hj
      rw [if_neg hj] at hb'
      exact ⟨(h4 j v b' hv hb').1, own (h4 j v b' hv hb').2⟩
  · obtain ⟨s1, s2, s3, s4, s5⟩ := h.small
    refine ⟨s1, s2, s3, ?_, s5⟩
    intro j b' hb'
    simp only [Store.Dev.gone, Store.set] at hb'
    split at hb'
    · cases hb'
    · exact s4 j b' hb'

/-- what the map of blocks holds at a number -/
theorem DevAt.look {w : World} {base gd gm gb : Nat} {D : Store.Dev} (h : DevAt w base gd gm gb D) (k : Int) :
    (D.blocks k = none ∧ (Instr.lookup 42 (.map (some gm)) (.int .i64 k) true).run Try.prog w = .ok (.tuple #[.slice none 0 0, .bool false]) w) ∨
    ∃ b g cap, D.blocks k = some b ∧ b.length = 68 ∧ 68 ≤ cap ∧ w.ownsRow base 5 1 (.slice (some ⟨g, 0, none⟩) 68 cap) 68 (bytesV b) ∧
      (Instr.lookup 42 (.map (some gm)) (.int .i64 k) true).run Try.prog w = .ok (.tuple #[.slice (some ⟨g, 0, none⟩) 68 cap, .bool true]) w := by
  obtain ⟨vF, vG, fm, fb, nb, h1, h2, h3, h4, h5, h6, h7, h8, h9, h10⟩ := h.at_
  have hl := h2.lookup Try.underlying42 Try.underlying3 (z := .slice none 0 0) (by kernel_rfl) k
  cases hb : D.blocks k with
  | none =>
    have hf : fm k = none := by have := h3 k; rw [hb] at this; simpa using this
    rw [hf] at hl
    exact .inl ⟨rfl, hl⟩
  | some b =>
    have hf : (fm k).isSome = true := by have := h3 k; rw [hb] at this; simpa using this
    obtain ⟨v, hv⟩ := Option.isSome_iff_exists.1 hf
    obtain ⟨⟨g, cap, rfl, hcap⟩, hown⟩ := h4 k v b hv hb
    have hl68 := h.small.2.2.2.1 k b hb
    rw [hl68] at hown hcap
    rw [hv, hl68] at hl
    exact .inr ⟨b, g, cap, rfl, hl68, hcap, hown, hl⟩

/-- a row of the device's stays where its map turns -/
theorem DevAt.row_only {w w' : World} {base gd gm gb : Nat} {D : Store.Dev} (h : DevAt w base gd gm gb D) {e : TypeId} {n : Nat} {v : Value} {xs : List Value} (hr : w.ownsRow base e 1 v n xs) (he : e ≠ 54) (ho : Only [gd, gm] w w') : w'.ownsRow base e 1 v n xs := by
  obtain ⟨vF, vG, fm, fb, nb, h1, h2, -⟩ := h.at_
  refine ownsRow_only hr ho fun k hk hmem => ?_
  have q1 := h2.ne_own hr
  have q2 := ownsRow_ne_blk hr h1 he
  simp at hmem
  rcases hmem with rfl | rfl
  · exact q2 hk
  · exact q1 hk

set_option maxHeartbeats 1000000 in
theorem devDrop_any {base gd gm gb : Nat} {D : Store.Dev} (k : Int) (w : World) (h : DevAt w base gd gm gb D) :
    Calls Try.prog 14 #[.pointer (some ⟨gd, 0, none⟩), .int .i64 k] w fun e w' => e = .returned (.int .i64 (D.drop k).1) ∧ DevAt w' base gd gm gb (D.drop k).2 ∧ Only [gm] w w' := by
  have c0 : w.cell? ⟨gd, 0, none⟩ = some (.map (some gm)) := by obtain ⟨vF, vG, fm, fb, nb, h1, -⟩ := h.at_; exact h1.cell 0
  rcases h.look k with ⟨hb, hl⟩ | ⟨b, g, cap, hb, hlen, hcap, hown, hl⟩
  · have HD := Lib.hid (show D.drop k = (9, D) by simp [Store.Dev.drop, hb])
    clear hb
    go_enter Try.func14, Try.ntmps14
    go_wp2
    go_ret
    rw [HD.out]
    exact ⟨rfl, h, Only.refl _ _⟩
  · have HD := Lib.hid (show D.drop k = (0, D.gone k) by simp [Store.Dev.drop, hb])
    obtain ⟨w1, hdel, hD1, ho1, -⟩ := h.delete k hb 0
    clear hb hlen
    go_enter Try.func14, Try.ntmps14
    go_wp2
    go_ret
    rw [HD.out]
    exact ⟨rfl, hD1, ho1⟩

set_option maxHeartbeats 400000 in
theorem devPut_size {base gd gm gb n : Nat} {D : Store.Dev} (A : Option Addr) (c : Nat) (w : World) (h : DevAt w base gd gm gb D) (hn : n ≠ 64) :
    Calls Try.prog 7 #[.pointer (some ⟨gd, 0, none⟩), .slice A n c] w fun e w' => e = .returned (.tuple #[.int .i64 0, .int .i64 6]) ∧ w = w' := by
  have _ := h
  have hb : ((n : Int) != 64) = true := by simp; omega
  go_enter Try.func7, Try.ntmps7
  go_wp2
  go_ret2
  exact ⟨rfl, rfl⟩

end Go.Proofs.Ytnpjlmeiaegdkaa
