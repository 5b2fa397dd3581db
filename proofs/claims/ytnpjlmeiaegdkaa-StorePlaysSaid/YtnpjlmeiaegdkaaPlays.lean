/-
  THE WALK OF StorePlays.
-/
import Derived.Test.YtnpjlmeiaegdkaaPlaysL
namespace Go.Proofs.Ytnpjlmeiaegdkaa
open Go.RowKit Go.Azu

set_option maxRecDepth 10000 in
set_option maxHeartbeats 4000000 in
theorem plays_walk (room : UInt8) (A1 A2 A3 A4 : Option Addr) (n1 n2 n3 n4 c1 c2 c3 c4 : Nat) (l1 l2 : List UInt8) (bs : List (Int × BitVec 32)) (aa : List Act) (w : World) (hr1 : Byts w w.heap.size A1 n1 l1) (hr2 : Byts w w.heap.size A2 n2 l2) (hr3 : Bends w w.heap.size A3 n3 bs) (hr4 : Acts w w.heap.size A4 n4 aa)
    (s1 : n1 ≤ 20) (s2 : n2 ≤ 20) (s3 : n3 ≤ 20) (s4 : n4 ≤ 60) :
    Calls Try.prog 4 #[.int .u8 room.toNat, .slice A1 n1 c1, .slice A2 n2 c2, .slice A3 n3 c3, .slice A4 n4 c4] w fun e w' => e = .returned (.bool true) ∧ Only [] w w' := by
  have hmm := @run_makeMap Try.prog
  have HBB := Lib.hid (bendsTo_small bs (fun k p hp => by obtain ⟨ad, -, -, h, -⟩ := hr3.2 k p hp; exact h) n3)
  go_enter Try.func4, Try.ntmps4
  go_wp2_with (go_at_call 5; refine (awake_any _).mono ?_; rintro e w1 ⟨rfl, ho1⟩)
  have hM2 := (MapIs.made w1).alloc (.cells #[.slice none 0 0, .slice none 0 0, .map (some w1.heap.size)] 30)
  have hB2 := Blk.new (w1.alloc (.map #[] 0)) 30 #[.slice none 0 0, .slice none 0 0, .map (some w1.heap.size)]
  have hw2 := (ho1.alloc (.map #[] 0)).alloc (.cells #[.slice none 0 0, .slice none 0 0, .map (some w1.heap.size)] 30)
  have hs2 : ((w1.alloc (.map #[] 0)).alloc (.cells #[.slice none 0 0, .slice none 0 0, .map (some w1.heap.size)] 30)).heap.size = w1.heap.size + 1 + 1 := by simp
  have hgp := ho1.size
  rw [World.size_alloc] at hB2
  generalize ((w1.alloc (.map #[] 0)).alloc (.cells #[.slice none 0 0, .slice none 0 0, .map (some w1.heap.size)] 30)) = w2 at *
  generalize w1.heap.size = gp at *
  clear ho1
  go_loopw [13, 64] (fun _ i wr => ∃ (k : Nat) (v : Value), k ≤ n1 ∧ i = .int .i64 k ∧ Blk wr (gp + 1) 30 #[v, .slice none 0 0, .map (some gp)] ∧ wr.ownsRow w2.heap.size 3 1 v k ((byte30 (l1.take k)).map (Value.int .i64)) ∧ Only [gp + 1] w2 wr) (fun _ i _ => n1 - (intOf i).toNat)
  case atStart => exact ⟨0, _, by omega, rfl, hB2, ownsRow_nil _ _ _, Only.refl _ _⟩
  case round =>
    obtain ⟨k, v, hk, rfl, hB, hown, ho⟩ := hrel
    have hw : Only [] w wr := hw2.next ho (by simp; omega)
    by_cases hlt : k < n1
    · obtain ⟨ad, c, rfl, hadB, hx, hc⟩ := Byts.at_ (show Byts wr w.heap.size A1 n1 l1 from Reads.only_ hr1 hw) hlt
      have cp : ∀ o, (wr.alloc o).cell? ⟨gp + 1, 0, none⟩ = some v := fun o => (World.cell?_alloc_lt _ _ _ hB.lt).trans (hB.cell 0)
      have cp' : wr.cell? ⟨gp + 1, 0, none⟩ = some v := hB.cell 0
      have hc256 : (c.toNat : Int) < 256 := by have := c.toNat_lt; omega
      have hone : ∀ u ∈ [Value.int .i64 ((c.toNat : Int) % 30)], u.oneCell' = true := by intro u hu; simp at hu; subst hu; rfl
      have hmx : k + 1 ≤ maxLen := by simp only [maxLen]; omega
      have hby : (k + 1) * 8 ≤ 140737488355328 := by omega
      have hsz := ho.size
      go_wp2_with (at_builtin
                   refine wpList_append_st intsTy (.tmp 69) (.tmp 73) rfl rfl (hown.alloc _) rfl (reads_blk (Blk.new wr _ _) (xs := [.int .i64 ((c.toNat : Int) % 30)]) rfl) rfl hone hmx hby (Nat.le_trans hsz (by simp)) ?_
                   intro v' w' hown' hgrow
                   obtain ⟨g', cap', rfl, -⟩ := hown'.form (Nat.succ_pos k)
                   obtain ⟨hoA, hBw, hne1, cq, fq⟩ := plan_grow (i := 0) (o := .cells #[.int .i64 ((c.toNat : Int) % 30)] 3) hB hown ho hgrow hown')
      go_roundw
      case rel => exact ⟨k + 1, _, by omega, by go_num, hBw.set_ 0 _, by rw [byte30_snoc _ _ _ hx]; exact ownsRow_only hown' ((Only.refl [gp + 1] w').setCell (.inl (by simp)) _) (fun g hg hmem => by simp at hmem; subst hmem; exact hne1 hg), hoA.setCell (.inl (by simp)) _⟩
      case measure => simp [intOf]; omega
    · obtain rfl : k = n1 := by omega
      rw [List.take_of_length_le (by rw [Byts.len hr1]; omega)] at hown
      go_wp2_with fail
      obtain ⟨wA, hwA⟩ : ∃ x, x = wr := ⟨_, rfl⟩
      subst hwA
      have hwAw := hw
      have hMA : MapIs wA gp (fun _ => none) 0 := hM2.only ho (by simp)
      have hBA := hB
      have hownF := hown
      have hszA := ho.size
      clear hw hB hown ho
      go_loopw [15, 79] (fun _ i wr => ∃ (q : Nat) (u : Value), q ≤ n2 ∧ i = .int .i64 q ∧ Blk wr (gp + 1) 30 #[v, u, .map (some gp)] ∧ wr.ownsRow wA.heap.size 3 1 u q ((byte30 (l2.take q)).map (Value.int .i64)) ∧ Only [gp + 1] wA wr) (fun _ i _ => n2 - (intOf i).toNat)
      case atStart => exact ⟨0, _, by omega, rfl, hBA, ownsRow_nil _ _ _, Only.refl _ _⟩
      case round =>
        obtain ⟨q, u, hq, rfl, hB, hown, ho⟩ := hrel
        have hw : Only [] w wr := hwAw.next ho (by simp; omega)
        by_cases hlt2 : q < n2
        · obtain ⟨ad, c, rfl, hadB, hx, hc⟩ := Byts.at_ (show Byts wr w.heap.size A2 n2 l2 from Reads.only_ hr2 hw) hlt2
          have cp : ∀ o, (wr.alloc o).cell? ⟨gp + 1, 1, none⟩ = some u := fun o => (World.cell?_alloc_lt _ _ _ hB.lt).trans (hB.cell 1)
          have cp' : wr.cell? ⟨gp + 1, 1, none⟩ = some u := hB.cell 1
          have hc256 : (c.toNat : Int) < 256 := by have := c.toNat_lt; omega
          have hone : ∀ u ∈ [Value.int .i64 ((c.toNat : Int) % 30)], u.oneCell' = true := by intro u hu; simp at hu; subst hu; rfl
          have hmx : q + 1 ≤ maxLen := by simp only [maxLen]; omega
          have hby : (q + 1) * 8 ≤ 140737488355328 := by omega
          have hsz := ho.size
          go_wp2_with (at_builtin
                       refine wpList_append_st intsTy (.tmp 84) (.tmp 88) rfl rfl (hown.alloc _) rfl (reads_blk (Blk.new wr _ _) (xs := [.int .i64 ((c.toNat : Int) % 30)]) rfl) rfl hone hmx hby (Nat.le_trans hsz (by simp)) ?_
                       intro v' w' hown' hgrow
                       obtain ⟨g', cap', rfl, -⟩ := hown'.form (Nat.succ_pos q)
                       obtain ⟨hoA, hBw, hne1, cq, fq⟩ := plan_grow (i := 1) (o := .cells #[.int .i64 ((c.toNat : Int) % 30)] 3) hB hown ho hgrow hown')
          go_roundw
          case rel => exact ⟨q + 1, _, by omega, by go_num, hBw.set_ 1 _, by rw [byte30_snoc _ _ _ hx]; exact ownsRow_only hown' ((Only.refl [gp + 1] w').setCell (.inl (by simp)) _) (fun g hg hmem => by simp at hmem; subst hmem; exact hne1 hg), hoA.setCell (.inl (by simp)) _⟩
          case measure => simp [intOf]; omega
        · obtain rfl : q = n2 := by omega
          rw [List.take_of_length_le (by rw [Byts.len hr2]; omega)] at hown
          go_wp2_with fail
          obtain ⟨wB, hwB⟩ : ∃ x, x = wr := ⟨_, rfl⟩
          subst hwB
          have hwBw := hw
          have hBB := hB
          have hownG := hown
          have hszB := ho.size
          have hMB : MapIs wB gp (fun _ => none) 0 := hMA.only ho (by simp)
          have hownF' := ownsRow_only hownF ho (fun g hg hmem => by simp at hmem; subst hmem; exact ownsRow_ne_blk hownF hBA (by decide) hg)
          clear hw hB hown ho hBA hownF
          have hbn := hr3.1
          go_loopw [16, 17, 94] (fun _ _ i wr => ∃ (m np : Nat) (f : Int → Option Value), m ≤ n3 ∧ i = .int .i64 m ∧ MapIs wr gp f np ∧ (∀ j, f j = (bendsTo bs m j).map bendV) ∧ Only [gp] wB wr) (fun _ _ i _ => n3 - (intOf i).toNat)
          case atStart => exact ⟨0, _, _, by omega, rfl, hMB, fun _ => rfl, Only.refl _ _⟩
          case round =>
            obtain ⟨m, np, f, hm, rfl, hM, hf, ho⟩ := hrel
            have hw : Only [] w wr := hwBw.next ho (by simp; omega)
            by_cases hlt3 : m < n3
            · obtain ⟨p, hp⟩ : ∃ p, bs[m]? = some p := ⟨_, List.getElem?_eq_getElem (by omega)⟩
              obtain ⟨ad, rfl, hadB, hpb, hca, hcb⟩ := hr3.2 m p hp
              have ca : wr.cell? (ad.add (m * 2)) = some (.int .i64 p.1) := (hw.cell (by rw [block_of_add]; exact hadB) (by simp)).trans hca
              have cb : wr.cell? ⟨(ad.add (m * 2)).block, (ad.add (m * 2)).off + 1, none⟩ = some (.int .u32 (p.2.toNat : Int)) := (hw.cell (by show (ad.add (m * 2)).block < _; rw [block_of_add]; exact hadB) (by simp)).trans hcb
              have hsz := ho.size
              have hB' : Blk (wr.alloc (.cells #[.int .i64 p.1, .int .u32 (p.2.toNat : Int)] 25)) (gp + 1) 30 #[v, u, .map (some gp)] := (hBB.only ho (by simp)).alloc _
              have cm : (wr.alloc (.cells #[.int .i64 p.1, .int .u32 (p.2.toNat : Int)] 25)).cell? ⟨gp + 1, 2, none⟩ = some (.map (some gp)) := hB'.cell 2
              obtain ⟨w', hrun, hM', hoU, hsU⟩ := (hM.alloc (.cells #[.int .i64 p.1, .int .u32 (p.2.toNat : Int)] 25)).update Try.underlying27 Try.underlying3 (3 * (m : Int)) (.agg #[.int .i64 p.1, .int .u32 (p.2.toNat : Int)])
              have hoN : Only [gp] wB w' := (ho.alloc _).next hoU (by simp)
              go_wp2_with fail
              go_roundw
              case rel =>
                refine ⟨m + 1, _, _, by omega, by go_num, hM', fun j => ?_, hoN⟩
                simp only [Upd, bendsTo, Store.set, hp]
                split
                · rfl
                · exact hf j
              case measure => simp [intOf]; omega
            · obtain rfl : m = n3 := by omega
              obtain ⟨wC, hwC⟩ : ∃ x, x = wr := ⟨_, rfl⟩
              subst hwC
              have hszC := ho.size
              have hwCw := hw
              have hBC : Blk wC (gp + 1) 30 #[v, u, .map (some gp)] := hBB.only ho (by simp)
              have hownF2 := ownsRow_only hownF' ho (fun g hg hmem => by simp at hmem; subst hmem; exact hMB.ne_own hownF' hg)
              have hownG2 := ownsRow_only hownG ho (fun g hg hmem => by simp at hmem; subst hmem; exact hMB.ne_own hownG hg)
              have cC0 : wC.cell? ⟨gp + 1, 0, none⟩ = some v := hBC.cell 0
              have cC1 : wC.cell? ⟨gp + 1, 1, none⟩ = some u := hBC.cell 1
              have cC2 : wC.cell? ⟨gp + 1, 2, none⟩ = some (.map (some gp)) := hBC.cell 2
              obtain ⟨AF, cF, rfl⟩ : ∃ AF cF, v = .slice AF k cF := by
                rcases hownF2.2 with ⟨h1, h2⟩ | ⟨g, cap, cur, h1, -⟩
                · exact ⟨_, _, by rw [h1, h2]⟩
                · exact ⟨_, _, h1⟩
              obtain ⟨AG, cG, rfl⟩ : ∃ AG cG, u = .slice AG q cG := by
                rcases hownG2.2 with ⟨h1, h2⟩ | ⟨g, cap, cur, h1, -⟩
                · exact ⟨_, _, by rw [h1, h2]⟩
                · exact ⟨_, _, h1⟩
              have hrF : Reads wC wC.heap.size 1 AF k ((byte30 l1).map (Value.int .i64)) := Reads.of_own hownF2
              have hrG : Reads wC wC.heap.size 1 AG q ((byte30 l2).map (Value.int .i64)) := Reads.of_own hownG2
              clear hBB hownF' hownG hMB ho hw hszA hszB
              go_wp2_with fail
              have hroom := room.toNat_lt
              refine (devNew_any ((room.toNat : Int) % 6) AF AG k q cF cG (byte30 l1) (byte30 l2) (some gp) (bendsTo bs m) wC (by omega) hrF hrG (by simp [byte30]; exact Byts.len hr1) (by simp [byte30]; exact Byts.len hr2) (by omega) (by omega) (.inr ⟨gp, np, f, rfl, hM, hf⟩) HBB.out).mono ?_
              rintro e w3 ⟨gd, gm, gb, rfl, hD3, ho3⟩
              go_wp2_with fail
              have hbs3 := hD3.based
              obtain ⟨lgd, lgm⟩ := hD3.lts
              have lgb := hD3.gblt
              have hD4 := hD3.only ((Only.refl [] w3).alloc (.map #[] 0)) (by simp)
              have ho4 := ho3.alloc (.map #[] 0)
              have hL4 : LawAt (w3.alloc (.map #[] 0)) wC.heap.size w3.heap.size (fun _ => none) 0 := ⟨⟨_, MapIs.made w3, fun _ => rfl, fun _ _ _ hv => by cases hv⟩, ho3.size, fun _ _ hb => by cases hb⟩
              have hgl : w3.heap.size ≠ gm ∧ w3.heap.size ≠ gb := ⟨by omega, by omega⟩
              generalize hglaw : w3.heap.size = gl at *
              generalize w3.alloc (.map #[] 0) = w4 at *
              obtain ⟨R, hR⟩ : ∃ R : Nat, (R : Int) = (room.toNat : Int) % 6 := ⟨room.toNat % 6, by omega⟩
              have hA0 : Agree (Store.new ((room.toNat : Int) % 6) (byte30 l1) (byte30 l2) (bendsTo bs m)) (fun _ => none) 0 R (byte30 l1) (byte30 l2) (bendsTo bs m) :=
                ⟨fun _ => rfl, by simp only [Store.new]; omega, rfl, rfl, rfl, Nat.le_refl _, ⟨Nat.le_refl _, Nat.le_refl _, Nat.le_refl _, by omega⟩⟩
              generalize hD0 : Store.new ((room.toNat : Int) % 6) (byte30 l1) (byte30 l2) (bendsTo bs m) = D0 at *
              have hz : D0.puts = 0 ∧ D0.takes = 0 ∧ D0.next = 0 ∧ D0.most = 0 ∧ D0.count = 0 := by subst hD0; exact ⟨rfl, rfl, rfl, rfl, rfl⟩
              have ho3s : wC.heap.size ≤ gl ∧ wC.heap.size ≤ gd ∧ wC.heap.size ≤ gm := ⟨hL4.based, hbs3.1, hbs3.2.1⟩
              clear hD0 hD3 ho3 hbs3 lgd lgm lgb
              have hBBm := HBB.out
              have E : Env room A4 AF AG m n4 c4 k q cF cG gp gd gm gb gl R l1 l2 bs aa w wC :=
                ⟨hwCw, hr4, hBC.lt, cC0, cC1, cC2, hrF, hrG, ⟨by simp [byte30]; exact Byts.len hr1, by simp [byte30]; exact Byts.len hr2, by omega, by omega, by omega⟩, ⟨f, np, hM, hf⟩, hBBm, hgl, ho3s, hR⟩
              have hrel : Rel m n4 gd gm gb gl R l1 l2 bs wC (.int .i64 0) (.int .i64 0) (.int .i64 0) (.int .i64 0) (.int .i64 0) w4 :=
                ⟨0, D0, _, by omega, rfl, by rw [hz.1]; rfl, by rw [hz.2.1]; rfl, by rw [hz.2.2.1]; rfl, by rw [hz.2.2.2.1]; rfl, hD4, by rw [hz.2.2.2.2]; exact hL4, hA0, ho4⟩
              clear hD4 hL4 hA0 ho4 hz hr1 hr2 hr3 HBB hBBm hM hf hownF2 hownG2 hMA hM2 hB2
              refine loop4 room A4 AF AG m n4 c4 k q cF cG gp gd gm gb gl R l1 l2 bs aa w wC E _ _ _ _ _ _ _ _ _ _ _ _ _ _ _ _ _ _ _ _ _ _ _ _ _ _ _ _ _ _ _ _ _ _ _ _ _ _ _ _ _ _ _ _ _ _ _ _ _ _ _ _ _ _ _ _ _ _ _ _ _ _ _ _ _ _ _ _ _ _ _ _ _ _ _ _ _ _ _ _ _ _ _ _ _ _ _ _ _ _ _ _ _ _ _ _ _ _ _ _ _ _ _ _ _ _ _ _ _ _ _ _ _ _ _ _ _ _ _ _ _ _ _ _ _ _ _ _ _ _ _ _ _ _ _ _ _ _ _ _ _ _ _ _ _ _ _ _ _ _ _ _ _ _ _ _ _ _ _ _ _ _ _ _ _ _ _ _ _ _ _ _ _ _ _ _ _ _ _ _ _ _ _ _ _ _ _ _ _ _ _ _ _ _ _ _ _ _ _ _ _ _ _ _ _ _ _ _ _ _ _ _ _ _ _ _ _ _ _ _ _ _ _ _ _ _ _ _ _ _ _ _ _ _ _ _ _ _ _ _ _ _ _ _ _ _ _ _ _ _ _ _ _ _ _ _ _ _ _ _ _ _ _ _ _ _ _ _ _ _ _ _ _ _ _ w4 _ ?_ hrel
              intro y0 y1 y2 y3 y4 y5 y6 y7 y8 y9 y10 y11 y12 y13 y14 y15 y16 y17 y18 y19 y20 y21 y22 y23 y24 y25 y26 y27 y28 y29 y30 y31 y32 y33 y34 y35 y36 y37 y38 y39 y40 y41 y42 y43 y44 y45 y46 y47 y48 y49 y50 y51 y52 y53 y54 y55 y56 y57 y58 y59 y60 y61 y62 y63 y64 y65 y66 y67 y68 y69 y70 y71 y72 y73 y74 y75 y76 y77 y78 y79 y80 y81 y82 y83 y84 y85 y86 y87 y88 y89 y90 y91 y92 y93 y94 y95 y96 y97 y98 y99 y100 y101 y102 y103 y104 y105 y106 y107 y108 y109 y110 y111 y112 y113 y114 y115 y116 y117 y118 y119 y120 y121 y122 y123 y124 y125 y126 y127 y128 y129 y130 y131 y132 y133 y134 y135 y136 y137 y138 y139 y140 y141 y142 y143 y144 y145 y146 y147 y148 y149 y150 y151 y152 y153 y154 y155 y156 y157 y158 y159 y160 y161 y162 y163 y164 y165 y166 y167 y168 y169 y170 y171 y172 y173 y174 y175 y176 y177 y178 y179 y180 y181 y182 y183 y184 y185 y186 y187 w9 ho9
              go_wp2
              go_ret
              exact ⟨rfl, hwCw.trans ho9⟩
end Go.Proofs.Ytnpjlmeiaegdkaa
