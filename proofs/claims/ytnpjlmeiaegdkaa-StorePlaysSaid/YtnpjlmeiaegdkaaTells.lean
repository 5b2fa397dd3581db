/-
  THE WALK OF StoreTells.
-/
import Derived.Test.YtnpjlmeiaegdkaaAwake
import Derived.Test.YtnpjlmeiaegdkaaCrcQ
import Derived.Laws.IdiomStrings
import Derived.Lib.BufferRead
namespace Go.Proofs.Ytnpjlmeiaegdkaa
open Go.RowKit Go.Azu

theorem Only.restore {w wk w' : World} {p : Addr} {v v0 : Value} {S : List Nat} (h1 : Only [] w wk) (h0 : wk.cell? p = some v0) (h2 : Only S (wk.setCell p v) w') (hS : ∀ x ∈ S, w.heap.size ≤ x) : Only [] w (w'.setCell p v0) := by
  have hsz : (wk.setCell p v).heap.size = wk.heap.size := by simp [World.setCell]
  refine ⟨h2.os.trans h1.os, h2.tape.trans h1.tape, h2.output.trans h1.output, ?_, ?_⟩
  · have := h1.size
    have := h2.size
    simp only [World.setCell, Array.size_modify] at *
    omega
  · intro k hk _
    have hks : k ∉ S := fun hm => by have := hS k hm; omega
    have hkk : k < wk.heap.size := Nat.lt_of_lt_of_le hk h1.size
    have e2 := h2.block k (by rw [hsz]; exact hkk) hks
    have e1 := h1.block k hk (by simp)
    rw [← e1]
    by_cases hkp : p.block = k
    · subst hkp
      unfold World.cell? at h0
      cases hh : wk.heap[p.block]? with
      | none => rw [hh] at h0; cases h0
      | some o =>
        rw [hh] at h0
        cases o with
        | cells cs el fz =>
          simp only at h0
          split at h0
          · cases h0
          · rename_i hsp
            have e3 : (wk.setCell p v).heap[p.block]? = some (.cells (cs.setIfInBounds p.off v) el fz) := by
              simp [World.setCell, Array.getElem?_modify, hh, hsp]
            rw [e3] at e2
            have e4 : (w'.setCell p v0).heap[p.block]? = some (.cells ((cs.setIfInBounds p.off v).setIfInBounds p.off v0) el fz) := by
              simp [World.setCell, Array.getElem?_modify, e2, hsp]
            rw [e4]
            congr 2
            rw [Array.setIfInBounds_setIfInBounds]
            apply Array.ext_getElem?
            intro j
            by_cases hj : p.off = j
            · subst hj
              rw [h0]
              have := (Array.getElem?_eq_some_iff.1 h0).1
              simp [this]
            · simp [hj]
        | _ => cases h0
    · have e3 : (wk.setCell p v).heap[k]? = wk.heap[k]? := by
        simp [World.setCell, Array.getElem?_modify, hkp]
      have e4 : (w'.setCell p v0).heap[k]? = w'.heap[k]? := by
        simp [World.setCell, Array.getElem?_modify, hkp]
      rw [e4, e2, e3]

theorem reads_blk {w : World} {g n : Nat} {t : TypeId} {xs : List Value} (h : Blk w g t xs.toArray) (hl : xs.length = n) : Reads w w.heap.size 1 (some ⟨g, 0, none⟩) n xs := by
  refine ⟨by omega, fun _ => ⟨_, rfl, h.lt, fun j u hu => ?_⟩⟩
  have := h.cell j
  rw [List.getElem?_toArray, hu] at this
  rw [cell_at_add]
  exact this

theorem Byts.onlyFar {w w' : World} {B : Nat} {A : Option Addr} {n : Nat} {l : List UInt8} {S : List Nat} (h : Byts w B A n l) (hB : B ≤ w.heap.size) (ho : Only S w w') (hA : ∀ ad : Addr, A = some ad → ad.block ∉ S) : Byts w' B A n l := by
  refine ⟨h.1, fun hn => ?_⟩
  obtain ⟨ad, e, hb, hc⟩ := h.2 hn
  exact ⟨ad, e, hb, fun j u hu => (ho.cell (p := ad.add j) (by rw [block_of_add]; omega) (by rw [block_of_add]; exact hA ad e)).trans (hc j u hu)⟩

theorem DevAt.lts {w : World} {base gd gm gb : Nat} {D : Store.Dev} (h : DevAt w base gd gm gb D) : gd < w.heap.size ∧ gm < w.heap.size := by
  obtain ⟨vF, vG, fm, fb, nb, h1, h2, -⟩ := h.at_
  exact ⟨h1.lt, h2.lt⟩

theorem convert_byts {w : World} {B : Nat} {A : Option Addr} {n c : Nat} {l : List UInt8} (h : Byts w B A n l) : (convert 22 9 (.slice A n c)).run Try.prog w = .ok (.string ⟨l.toArray⟩) w := by
  have hlen := h.len
  have u8 : Try.prog.underlying 5 = some (.int .u8) := Try.underlying5
  rcases A with _ | a
  · have h0 : n = 0 := by
      rcases Nat.eq_zero_or_pos n with h0 | h0
      · exact h0
      · obtain ⟨ad, e, _⟩ := h.2 h0; cases e
    subst h0
    obtain rfl : l = [] := List.eq_nil_of_length_eq_zero hlen
    exact Go.Lib.run_convert_nil_bytes w _ _ _ c Try.underlying22 u8 Try.underlying9
  · subst hlen
    refine run_convert_bytes_back w _ _ _ a c l Try.underlying22 u8 Try.underlying9 fun j hj => ?_
    obtain ⟨ad, cc, e, _, h1, h2⟩ := h.at_ hj
    injection e with e
    subst e
    rw [h2]
    rw [List.getElem?_eq_getElem hj] at h1
    injection h1 with h1
    rw [h1]

/-- what the law's device does -/
structure TellsD (l : List UInt8) (D0 : Store.Dev) (f : Int) (got : List UInt8) (D1 D2 D3 D4 : Store.Dev) : Prop where
  put1 : D0.put l = (1, 0, D1)
  take1 : D1.take 1 = (got, f, D2)
  take2 : D2.take 1 = ([], 9, D2)
  put2 : D2.put l = (2, 0, D3)
  take3 : D3.take 2 = (l, 0, D4)
  none_ : D4.count = 0
  small : D0.puts ≤ 1000000000 ∧ D0.next ≤ 1000000000 ∧ D1.takes ≤ 1000000000 ∧ D2.takes ≤ 1000000000 ∧ D2.puts ≤ 1000000000 ∧ D2.next ≤ 1000000000 ∧ D3.takes ≤ 1000000000

theorem tells_dev (l : List UInt8) (hl : l.length = 64) (from_ : Int) (mask : BitVec 32) (lG : List Int) (hG : lG = [] ∨ lG = [0]) :
    ∃ f got D1 D2 D3 D4, TellsD l (Store.new 3 [] lG (Store.set (fun _ => none) 0 (some (from_, mask)))) f got D1 D2 D3 D4 ∧ ((f = 0 ∧ lG = [] ∧ got = l) ∨ (f = 10 ∧ got = [])) := by
  generalize hD0 : Store.new 3 [] lG (Store.set (fun _ => none) 0 (some (from_, mask))) = D0
  have a1 : D0.room = 3 ∧ D0.next = 0 ∧ D0.puts = 0 ∧ D0.takes = 0 ∧ D0.count = 0 ∧ D0.blocks = (fun _ => none) ∧ D0.full = [] ∧ D0.fail = lG ∧ D0.bends = Store.set (fun _ => none) 0 (some (from_, mask)) := by
    subst hD0; exact ⟨rfl, rfl, rfl, rfl, rfl, rfl, rfl, rfl, rfl⟩
  clear hD0
  obtain ⟨b1, b2, b3, b4, b5, b6, b7, b8, b9⟩ := a1
  have p1 := Store.put_ok D0 l hl (by omega) (by rw [b7]; rfl)
  generalize hD1 : (D0.p.n.b ((D0.next : Int) + 1) (Crc.put l)).m = D1 at p1
  have a2 : D1.room = 3 ∧ D1.next = 1 ∧ D1.puts = 1 ∧ D1.takes = 0 ∧ D1.count = 1 ∧ D1.blocks = Store.set (fun _ => none) 1 (some (Crc.put l)) ∧ D1.full = [] ∧ D1.fail = lG ∧ D1.bends = Store.set (fun _ => none) 0 (some (from_, mask)) := by
    subst hD1
    simp [Store.Dev.b, Store.Dev.m, Store.Dev.p, Store.Dev.n, b1, b2, b3, b4, b5, b6, b7, b8, b9]
  clear hD1
  obtain ⟨c1, c2, c3, c4, c5, c6, c7, c8, c9⟩ := a2
  have hbl : D1.blocks 1 = some (Crc.put l) := by rw [c6]; rfl
  have hfd : D1.found (Crc.put l) = Crc.bend from_ mask (Crc.put l) := by unfold Store.Dev.found; rw [c9, c4]; rfl
  have t1 : ∃ f got, D1.take 1 = (got, f, (D1.gone 1).t) ∧ ((f = 0 ∧ lG = [] ∧ got = l) ∨ (f = 10 ∧ got = [])) := by
    unfold Store.Dev.take
    rw [hbl]
    simp only
    rcases hG with rfl | rfl
    · rw [c8, c4, if_neg (by simp [Store.among]), hfd]
      by_cases hr : Crc.right (Crc.bend from_ mask (Crc.put l)) = true
      · rw [if_pos hr, Crc.bend_right _ _ _ (Crc.right_put l) hr]
        exact ⟨_, _, rfl, .inl ⟨rfl, rfl, Crc.put_take l hl⟩⟩
      · rw [if_neg hr]
        exact ⟨_, _, rfl, .inr ⟨rfl, rfl⟩⟩
    · rw [c8, c4, if_pos (by simp [Store.among])]
      exact ⟨_, _, rfl, .inr ⟨rfl, rfl⟩⟩
  obtain ⟨f, got, t1, hfg⟩ := t1
  generalize hD2 : (D1.gone 1).t = D2 at t1
  have a3 : D2.room = 3 ∧ D2.next = 1 ∧ D2.puts = 1 ∧ D2.takes = 1 ∧ D2.count = 0 ∧ D2.blocks = Store.set (Store.set (fun _ => none) 1 (some (Crc.put l))) 1 none ∧ D2.full = [] ∧ D2.fail = lG ∧ D2.bends = Store.set (fun _ => none) 0 (some (from_, mask)) := by
    subst hD2
    simp [Store.Dev.gone, Store.Dev.t, c1, c2, c3, c4, c5, c6, c7, c8, c9]
  clear hD2
  obtain ⟨d1, d2, d3, d4, d5, d6, d7, d8, d9⟩ := a3
  have t2 : D2.take 1 = ([], 9, D2) := by
    unfold Store.Dev.take
    rw [d6]; rfl
  have p2 := Store.put_ok D2 l hl (by omega) (by rw [d7]; rfl)
  generalize hD3 : (D2.p.n.b ((D2.next : Int) + 1) (Crc.put l)).m = D3 at p2
  have a4 : D3.takes = 1 ∧ D3.count = 1 ∧ D3.blocks 2 = some (Crc.put l) ∧ D3.fail = lG ∧ D3.bends = Store.set (fun _ => none) 0 (some (from_, mask)) := by
    subst hD3
    simp [Store.Dev.b, Store.Dev.m, Store.Dev.p, Store.Dev.n, Store.set, d1, d2, d3, d4, d5, d6, d7, d8, d9]
  clear hD3
  obtain ⟨e4, e5, e6, e8, e9⟩ := a4
  have hfd3 : D3.found (Crc.put l) = Crc.put l := by unfold Store.Dev.found; rw [e9, e4]; rfl
  have t3 : D3.take 2 = (l, 0, (D3.gone 2).t) := by
    unfold Store.Dev.take
    rw [e6]
    simp only
    rw [e8, e4, if_neg (by rcases hG with rfl | rfl <;> simp [Store.among]), hfd3, if_pos (Crc.right_put l), Crc.put_take l hl]
  rw [b2] at p1
  rw [d2] at p2
  exact ⟨f, got, D1, D2, D3, _, ⟨p1, t1, t2, p2, t3, by simp [Store.Dev.gone, Store.Dev.t, e5], by omega⟩, hfg⟩

set_option maxRecDepth 10000 in
set_option maxHeartbeats 2000000 in
theorem tells_any (A : Option Addr) (n c : Nat) (l : List UInt8) (from_ : Int) (mask : BitVec 32) (fl : Bool) (w : World) (hr : Byts w w.heap.size A n l) (hf : -9223372036854775808 ≤ from_ ∧ from_ ≤ 9223372036854775807) (hfz : 0 < n → ∀ ad, A = some ad → w.frozen? ad = false) (hn : n ≤ maxLen) :
    Calls Try.prog 3 #[.slice A n c, .agg #[.int .i64 from_, .int .u32 (mask.toNat : Int)], .bool fl] w fun e w' => e = .returned (.bool true) ∧ Only [] w w' := by
  have hmm := @run_makeMap Try.prog
  by_cases hn64 : n ≠ 64
  · have hb : ((n : Int) != 64) = true := by simp; omega
    go_enter Try.func3, Try.ntmps3
    go_wp2_with (go_at_call 5; refine (awake_any _).mono ?_; rintro e w1 ⟨rfl, ho1⟩)
    go_ret
    exact ⟨rfl, ((Only.refl [] w).alloc _).trans ho1⟩
  obtain rfl : n = 64 := by omega
  obtain ⟨ad, x0, rfl, hadlt, hx0, hc0⟩ := hr.at_ (k := 0) (by omega)
  have hfz0 := hfz (by omega) ad rfl
  have hl := hr.len
  simp only [Addr.add, if_pos] at hc0
  have hx256 : (x0.toNat : Int) < 256 := by have := x0.toNat_lt; omega
  obtain ⟨lG, hlG⟩ : ∃ lG : List Int, (fl = false ∧ lG = []) ∨ (fl = true ∧ lG = [0]) := by
    cases fl
    · exact ⟨[], .inl ⟨rfl, rfl⟩⟩
    · exact ⟨[0], .inr ⟨rfl, rfl⟩⟩
  obtain ⟨f, got, D1, D2, D3, D4, H, hfg⟩ := tells_dev l hl from_ mask lG (hlG.imp (·.2) (·.2))
  have hcase : (fl = false ∧ f = 0 ∧ got = l) ∨ (f = 10 ∧ got = []) := by
    rcases hfg with ⟨h1, h2, h3⟩ | h
    · rcases hlG with h | h
      · exact .inl ⟨h.1, h1, h3⟩
      · rw [h.2] at h2; cases h2
    · exact .inr h
  clear hfg
  have HG := Lib.hid hlG
  have HC := Lib.hid hcase
  clear hlG hcase
  have HH := Lib.hid H
  have HL := Lib.hid hl
  have HX := Lib.hid hx0
  clear H hl hx0 hfz
  go_enter Try.func3, Try.ntmps3
  go_wp2_with (go_at_call 5; refine (awake_any _).mono ?_; rintro e w1 ⟨rfl, ho1⟩
               have hlt1 : w.heap.size < w1.heap.size := by have := ho1.size; simp at this; omega
               have hB1 : Blk w1 w.heap.size 25 #[.int .i64 from_, .int .u32 (mask.toNat : Int)] := (Blk.new w _ _).only ho1 (by simp)
               have c0 : (w1.alloc (Obj.map #[] 0)).cell? ⟨w.heap.size, 0, none⟩ = some (.int .i64 from_) := (World.cell?_alloc_lt _ _ _ hlt1).trans (hB1.cell 0)
               have c1 : (w1.alloc (Obj.map #[] 0)).cell? ⟨w.heap.size, 1, none⟩ = some (.int .u32 (mask.toNat : Int)) := (World.cell?_alloc_lt _ _ _ hlt1).trans (hB1.cell 1)
               obtain ⟨w2, hrun2, hM2, ho2, hs2⟩ := (MapIs.made w1).update Try.underlying27 Try.underlying3 0 (.agg #[.int .i64 from_, .int .u32 (mask.toNat : Int)])
               simp only [World.size_alloc] at hs2
               have hw2 : Only [] w w2 := (((Only.refl [] w).alloc _).trans ho1 |>.alloc (Obj.map #[] 0)).next ho2 (by have := ho1.size; simp at *; omega))
  all_goals clear ho1 hB1 ho2 hrun2 c0 c1
  all_goals
    have hfB : ∀ k, Upd (fun _ => none) (0 : Int) (some (.agg #[.int .i64 from_, .int .u32 (mask.toNat : Int)])) k = (Store.set (fun _ => none) 0 (some (from_, mask)) k).map bendV := by
      intro k
      simp only [Upd, Store.set]
      split <;> rfl
    have hbb : ∀ k p, Store.set (fun _ => none) (0 : Int) (some (from_, mask)) k = some p → -9223372036854775808 ≤ p.1 ∧ p.1 ≤ 9223372036854775807 := by
      intro k p hp
      simp only [Store.set] at hp
      split at hp
      · injection hp with hp; subst hp; exact hf
      · cases hp
  · rcases HG.out with ⟨h1, h2⟩ | ⟨h1, h2⟩
    · exfalso
      simp_all
    subst h1 h2
    refine (devNew_any 3 none (some ⟨w1.heap.size + 1 + 1, 0, none⟩) 0 1 0 1 [] [0] (some w1.heap.size) (Store.set (fun _ => none) 0 (some (from_, mask))) _ (by omega) Reads.none_ ?_ rfl rfl (by omega) (by omega) (.inr ⟨_, _, _, rfl, (hM2.alloc _).alloc _, hfB⟩) hbb).mono ?_
    · have hb := Blk.new (w2.alloc (.cells #[.slice none 0 0, .slice (some ⟨w1.heap.size + 1 + 1, 0, none⟩) 1 1, .map (some w1.heap.size)] 30)) 3 #[.int .i64 0]
      rw [World.size_alloc, hs2] at hb
      exact reads_blk hb rfl
    rintro e w3 ⟨gd, gm, gb, rfl, hD3, ho3⟩
    have hw3 := ((hw2.alloc _).alloc _).trans ho3
    have hbase := (hw2.alloc (.cells #[.slice none 0 0, .slice (some ⟨w1.heap.size + 1 + 1, 0, none⟩) 1 1, .map (some w1.heap.size)] 30)).alloc (.cells #[.int .i64 0] 3) |>.size
    generalize ((w2.alloc (.cells #[.slice none 0 0, .slice (some ⟨w1.heap.size + 1 + 1, 0, none⟩) 1 1, .map (some w1.heap.size)] 30)).alloc (.cells #[.int .i64 0] 3)).heap.size = base at hD3 hbase
    clear ho3 hM2 hfB hbb hw2 hs2 hlt1
    generalize w1.heap.size = h1 at *
    generalize hD0 : Store.new 3 [] [0] (Store.set (fun _ => none) 0 (some (from_, mask))) = D0 at *
    have hbs := hD3.based
    have P1 := devPut_any (some ad) c l w3 hD3 (hr.only_ hw3) hw3.size (by rintro _ ⟨⟩; omega) HH.out.small.1 HH.out.small.2.1
    rw [HH.out.put1] at P1
    go_wp2_with fail
    refine P1.mono ?_
    rintro e w4 ⟨rfl, hD4, ho4⟩
    have hw4 : Only [] w w4 := hw3.next ho4 (by simp; omega)
    have c4 : w4.cell? ad = some (.int .u8 x0.toNat) := (hw4.cell hadlt (by simp)).trans hc0
    have f4 : w4.frozen? ad = false := (hw4.frozen hadlt (by simp)).trans hfz0
    clear P1 ho4 hD3 hw3
    go_wp2_with fail
    generalize hx1 : ((x0.toNat : Int) + 1) % 256 = x1
    have hD5 := hD4.only ((Only.refl [ad.block] w4).setCell (p := ad) (.inl (by simp)) (.int .u8 x1)) (by simp; omega)
    have T1 := devTake_any 1 _ hD5 HH.out.small.2.2.1
    rw [HH.out.take1] at T1
    have cx5 : (w4.setCell ad (.int .u8 x1)).cell? ad = some (.int .u8 x1) := World.cell?_setCell_same _ _ _ (by rw [c4])
    have f5 : (w4.setCell ad (.int .u8 x1)).frozen? ad = false := (World.frozen?_setCell ..).trans f4
    have hs5 : (w4.setCell ad (.int .u8 x1)).heap.size = w4.heap.size := by simp [World.setCell]
    generalize hw5 : w4.setCell ad (.int .u8 x1) = w5 at *
    have HW5 := Lib.hid hw5
    clear hw5 hD4
    refine T1.mono ?_
    rintro e w6 ⟨A6, n6, k6, rfl, hk6, hA6, hr6, hD6, ho6⟩
    have hsz := hw4.size
    have hlts := hD5.lts
    have c6 : w6.cell? ad = some (.int .u8 x1) := (ho6.cell (by omega) (by simp; omega)).trans cx5
    have f6 : w6.frozen? ad = false := (ho6.frozen (by omega) (by simp; omega)).trans f5
    clear T1 cx5 f5 f4
    go_wp2_with fail
    rw [show (x1 - 1) % 256 = (x0.toNat : Int) from by omega]
    have hw7 : Only [] w (w6.setCell ad (.int .u8 x0.toNat)) := Only.restore hw4 c4 (by rw [HW5.out]; exact ho6) (by simp; omega)
    have hD7 := hD6.only ((Only.refl [ad.block] w6).setCell (p := ad) (.inl (by simp)) (.int .u8 x0.toNat)) (by simp; omega)
    have hr7 : Byts (w6.setCell ad (.int .u8 x0.toNat)) w6.heap.size A6 n6 got := Reads.setFar hr6 (fun a' h => by have := hA6 a' h; omega) _
    have hs7 : (w6.setCell ad (.int .u8 x0.toNat)).heap.size = w6.heap.size := by simp [World.setCell]
    clear hr6 hD6 ho6 c6 f6 HW5 hw4 c4 hD5
    generalize w6.setCell ad (.int .u8 x0.toNat) = w7 at *
    have T2 := devTake_any 1 _ hD7 HH.out.small.2.2.2.1
    rw [HH.out.take2] at T2
    refine T2.mono ?_
    rintro e w8 ⟨A8, n8, k8, rfl, hk8, -, -, hD8, ho8⟩
    have hw8 : Only [] w w8 := hw7.next ho8 (by simp; omega)
    have hr8 : Byts w8 w6.heap.size A6 n6 got := Byts.onlyFar hr7 (by omega) ho8 (fun a' h => by have := hA6 a' h; simp; omega)
    have hs8 := ho8.size
    clear T2 hr7 hD7 ho8 hw7
    have P2 := devPut_any (some ad) c l w8 hD8 (hr.only_ hw8) hw8.size (by rintro _ ⟨⟩; omega) HH.out.small.2.2.2.2.1 HH.out.small.2.2.2.2.2.1
    rw [HH.out.put2] at P2
    go_wp2_with fail
    refine P2.mono ?_
    rintro e w9 ⟨rfl, hD9, ho9⟩
    have hw9 : Only [] w w9 := hw8.next ho9 (by simp; omega)
    have hr9 : Byts w9 w6.heap.size A6 n6 got := Byts.onlyFar hr8 (by omega) ho9 (fun a' h => by have := hA6 a' h; simp; omega)
    have hs9 := ho9.size
    clear P2 hr8 hD8 ho9 hw8
    have T3 := devTake_any 2 _ hD9 HH.out.small.2.2.2.2.2.2
    rw [HH.out.take3] at T3
    go_wp2_with fail
    refine T3.mono ?_
    rintro e w10 ⟨A10, n10, k10, rfl, hk10, -, hr10, hD10, ho10⟩
    have hw10 : Only [] w w10 := hw9.next ho10 (by simp; omega)
    have hr9' : Byts w10 w6.heap.size A6 n6 got := Byts.onlyFar hr9 (by omega) ho10 (fun a' h => by have := hA6 a' h; simp; omega)
    have hrb : Byts w10 w.heap.size (some ad) 64 l := hr.only_ hw10
    have cv1 := convert_byts (c := k6) hr9'
    have cv2 := convert_byts (c := k10) hr10
    have cv3 := convert_byts (c := c) hrb
    have hn6 := hr9'.len
    have U := used_any w10 hD10
    rw [HH.out.none_] at U
    clear T3 hr9 hr9' hr10 hrb hD9 ho10 hw9 hk6 hA6 hk8 hk10 hs5 hsz hlts hs7 hs8 hs9 hc0 hfz0 hx1 hx256 hbs hbase hadlt hr HH HL HX
    rcases HC.out with ⟨hfl, hf0, hgot⟩ | ⟨hf0, hgot⟩
    · cases hfl
    · subst hf0 hgot
      obtain rfl : n6 = 0 := by simpa using hn6.symm
      clear HC HG
      go_wp2_with (go_at_call 9; refine U.mono ?_; rintro e w11 ⟨rfl, rfl⟩)
      go_ret
      exact ⟨rfl, hw10⟩
  · rcases HG.out with ⟨h1, h2⟩ | ⟨h1, h2⟩
    rotate_left
    · exfalso
      simp_all
    subst h1 h2
    refine (devNew_any 3 none none 0 0 0 0 [] [] (some w1.heap.size) (Store.set (fun _ => none) 0 (some (from_, mask))) _ (by omega) Reads.none_ Reads.none_ rfl rfl (by omega) (by omega) (.inr ⟨_, _, _, rfl, hM2.alloc _, hfB⟩) hbb).mono ?_
    rintro e w3 ⟨gd, gm, gb, rfl, hD3, ho3⟩
    have hw3 := (hw2.alloc _).trans ho3
    have hbase := (hw2.alloc (.cells #[.slice none 0 0, .slice none 0 0, .map (some w1.heap.size)] 30)).size
    generalize (w2.alloc (.cells #[.slice none 0 0, .slice none 0 0, .map (some w1.heap.size)] 30)).heap.size = base at hD3 hbase
    clear ho3 hM2 hfB hbb hw2 hs2 hlt1
    generalize w1.heap.size = h1 at *
    generalize hD0 : Store.new 3 [] [] (Store.set (fun _ => none) 0 (some (from_, mask))) = D0 at *
    have hbs := hD3.based
    have P1 := devPut_any (some ad) c l w3 hD3 (hr.only_ hw3) hw3.size (by rintro _ ⟨⟩; omega) HH.out.small.1 HH.out.small.2.1
    rw [HH.out.put1] at P1
    go_wp2_with fail
    refine P1.mono ?_
    rintro e w4 ⟨rfl, hD4, ho4⟩
    have hw4 : Only [] w w4 := hw3.next ho4 (by simp; omega)
    have c4 : w4.cell? ad = some (.int .u8 x0.toNat) := (hw4.cell hadlt (by simp)).trans hc0
    have f4 : w4.frozen? ad = false := (hw4.frozen hadlt (by simp)).trans hfz0
    clear P1 ho4 hD3 hw3
    go_wp2_with fail
    generalize hx1 : ((x0.toNat : Int) + 1) % 256 = x1
    have hD5 := hD4.only ((Only.refl [ad.block] w4).setCell (p := ad) (.inl (by simp)) (.int .u8 x1)) (by simp; omega)
    have T1 := devTake_any 1 _ hD5 HH.out.small.2.2.1
    rw [HH.out.take1] at T1
    have cx5 : (w4.setCell ad (.int .u8 x1)).cell? ad = some (.int .u8 x1) := World.cell?_setCell_same _ _ _ (by rw [c4])
    have f5 : (w4.setCell ad (.int .u8 x1)).frozen? ad = false := (World.frozen?_setCell ..).trans f4
    have hs5 : (w4.setCell ad (.int .u8 x1)).heap.size = w4.heap.size := by simp [World.setCell]
    generalize hw5 : w4.setCell ad (.int .u8 x1) = w5 at *
    have HW5 := Lib.hid hw5
    clear hw5 hD4
    refine T1.mono ?_
    rintro e w6 ⟨A6, n6, k6, rfl, hk6, hA6, hr6, hD6, ho6⟩
    have hsz := hw4.size
    have hlts := hD5.lts
    have c6 : w6.cell? ad = some (.int .u8 x1) := (ho6.cell (by omega) (by simp; omega)).trans cx5
    have f6 : w6.frozen? ad = false := (ho6.frozen (by omega) (by simp; omega)).trans f5
    clear T1 cx5 f5 f4
    go_wp2_with fail
    rw [show (x1 - 1) % 256 = (x0.toNat : Int) from by omega]
    have hw7 : Only [] w (w6.setCell ad (.int .u8 x0.toNat)) := Only.restore hw4 c4 (by rw [HW5.out]; exact ho6) (by simp; omega)
    have hD7 := hD6.only ((Only.refl [ad.block] w6).setCell (p := ad) (.inl (by simp)) (.int .u8 x0.toNat)) (by simp; omega)
    have hr7 : Byts (w6.setCell ad (.int .u8 x0.toNat)) w6.heap.size A6 n6 got := Reads.setFar hr6 (fun a' h => by have := hA6 a' h; omega) _
    have hs7 : (w6.setCell ad (.int .u8 x0.toNat)).heap.size = w6.heap.size := by simp [World.setCell]
    clear hr6 hD6 ho6 c6 f6 HW5 hw4 c4 hD5
    generalize w6.setCell ad (.int .u8 x0.toNat) = w7 at *
    have T2 := devTake_any 1 _ hD7 HH.out.small.2.2.2.1
    rw [HH.out.take2] at T2
    refine T2.mono ?_
    rintro e w8 ⟨A8, n8, k8, rfl, hk8, -, -, hD8, ho8⟩
    have hw8 : Only [] w w8 := hw7.next ho8 (by simp; omega)
    have hr8 : Byts w8 w6.heap.size A6 n6 got := Byts.onlyFar hr7 (by omega) ho8 (fun a' h => by have := hA6 a' h; simp; omega)
    have hs8 := ho8.size
    clear T2 hr7 hD7 ho8 hw7
    have P2 := devPut_any (some ad) c l w8 hD8 (hr.only_ hw8) hw8.size (by rintro _ ⟨⟩; omega) HH.out.small.2.2.2.2.1 HH.out.small.2.2.2.2.2.1
    rw [HH.out.put2] at P2
    go_wp2_with fail
    refine P2.mono ?_
    rintro e w9 ⟨rfl, hD9, ho9⟩
    have hw9 : Only [] w w9 := hw8.next ho9 (by simp; omega)
    have hr9 : Byts w9 w6.heap.size A6 n6 got := Byts.onlyFar hr8 (by omega) ho9 (fun a' h => by have := hA6 a' h; simp; omega)
    have hs9 := ho9.size
    clear P2 hr8 hD8 ho9 hw8
    have T3 := devTake_any 2 _ hD9 HH.out.small.2.2.2.2.2.2
    rw [HH.out.take3] at T3
    go_wp2_with fail
    refine T3.mono ?_
    rintro e w10 ⟨A10, n10, k10, rfl, hk10, -, hr10, hD10, ho10⟩
    have hw10 : Only [] w w10 := hw9.next ho10 (by simp; omega)
    have hr9' : Byts w10 w6.heap.size A6 n6 got := Byts.onlyFar hr9 (by omega) ho10 (fun a' h => by have := hA6 a' h; simp; omega)
    have hrb : Byts w10 w.heap.size (some ad) 64 l := hr.only_ hw10
    have cv1 := convert_byts (c := k6) hr9'
    have cv2 := convert_byts (c := k10) hr10
    have cv3 := convert_byts (c := c) hrb
    have hn6 := hr9'.len
    have U := used_any w10 hD10
    rw [HH.out.none_] at U
    clear T3 hr9 hr9' hr10 hrb hD9 ho10 hw9 hk6 hA6 hk8 hk10 hs5 hsz hlts hs7 hs8 hs9 hc0 hfz0 hx1 hx256 hbs hbase hadlt hr HH HL HX
    rcases HC.out with ⟨hfl, hf0, hgot⟩ | ⟨hf0, hgot⟩
    · clear hfl
      subst hf0 hgot
      clear HC HG
      go_wp2_with (go_at_call 9; refine U.mono ?_; rintro e w11 ⟨rfl, rfl⟩)
      go_ret
      exact ⟨rfl, hw10⟩
    · subst hf0 hgot
      obtain rfl : n6 = 0 := by simpa using hn6.symm
      clear HC HG
      go_wp2_with (go_at_call 9; refine U.mono ?_; rintro e w11 ⟨rfl, rfl⟩)
      go_ret
      exact ⟨rfl, hw10⟩
end Go.Proofs.Ytnpjlmeiaegdkaa
