/-
  THE FOURTH LOOP OF StorePlays: a case of its round. By program (gen2.py).
-/
import Derived.Test.YtnpjlmeiaegdkaaPlaysB
namespace Go.Proofs.Ytnpjlmeiaegdkaa
open Go.RowKit Go.Azu

set_option maxRecDepth 1000000 in
set_option maxHeartbeats 4000000 in
theorem case_TakeBs (room : UInt8) (A4 AF AG : Option Addr) (n3 n4 c4 k q cF cG gp gd gm gb gl R : Nat) (l1 l2 : List UInt8) (bs : List (Int × BitVec 32)) (aa : List Act) (w wC : World) (E : Env room A4 AF AG n3 n4 c4 k q cF cG gp gd gm gb gl R l1 l2 bs aa w wC) (z1 z2 z3 z4 z5 z6 z7 z8 z9 z12 z13 z14 z15 z16 z17 z24 z40 z41 z42 z43 z44 z45 z46 z47 z48 z49 z50 z51 z52 z53 z54 z55 z56 z57 z58 z59 z60 z61 z62 z63 z64 z65 z66 z67 z68 z69 z70 z71 z72 z73 z74 z75 z76 z77 z78 z79 z80 z81 z82 z83 z84 z85 z86 z87 z88 z89 z90 z91 z92 z93 z94 z95 z96 z97 z98 z99 z100 z101 z102 z103 z104 z105 z106 z107 z108 z109 z110 : Value) (u10 u25 u26 u27 u28 u29 u30 u31 u32 u33 u34 u35 u36 u37 u38 u39 u114 u115 u116 u117 u118 u119 u120 u121 u122 u123 u124 u125 u126 u127 u128 u129 u130 u131 u132 u133 u134 u135 u136 u137 u138 u139 u140 u141 u142 u143 u144 u145 u146 u147 u148 u149 u150 u151 u152 u153 u154 u155 u156 u157 u158 u159 u160 u161 u162 u163 u164 u165 u166 u167 u168 u169 u170 u171 u172 u173 u174 u175 u176 u177 u178 u179 u180 u181 u182 u183 u184 u185 u186 u187 u188 u189 u190 u191 u192 u193 u194 u195 u196 u197 u198 u199 u200 u201 u202 u203 u204 u205 u206 u207 u208 u209 u210 u211 u212 u213 u214 u215 u216 u217 u218 u219 u220 u221 u222 u223 u224 u225 u226 u227 u228 u229 u230 u231 u232 u233 u234 u235 u236 u237 u238 u239 u240 u241 u242 u243 u244 u245 u246 u247 u248 u249 u250 u251 u252 u253 u254 u255 u256 u257 u258 u259 u260 u261 u262 u263 u264 u265 u266 u267 u268 u269 u270 u271 u272 u273 u274 u275 u276 u277 u278 u279 u280 : Value) (wr : World) (j : Nat) (D : Store.Dev) (mb : Int → Option (List UInt8)) (hlt4 : j < n4) (hD : DevAt wr wC.heap.size gd gm gb D) (hL : LawAt wr wC.heap.size gl mb D.count)
    (hAg : Agree D mb j R (byte30 l1) (byte30 l2) (bendsTo bs n3)) (ho : Only [] wC wr) (ac : Act) (hac : aa[j]? = some ac) (hk : ac.kind.toNat % 3 = 1) (b : List UInt8) (hb : mb ((ac.n.toNat : Int) % ((D.next : Int) + 2)) = some b) (x : Int) (s : BitVec 32) (hbn : bendsTo bs n3 D.takes = some (x, s)) (ham : Store.among D.takes (byte30 l2) = false) (hrt : Crc.right (Crc.bend x s (Crc.put b)) = false) (Q0 : Exit → Go.Act → World → Prop) :
    Code.wp Try.prog body (Exit.then (fun a' w' => (WI room A4 n3 n4 c4 gp gd gm gb gl R l1 l2 bs wC z1 z2 z3 z4 z5 z6 z7 z8 z9 z12 z13 z14 z15 z16 z17 z24 z40 z41 z42 z43 z44 z45 z46 z47 z48 z49 z50 z51 z52 z53 z54 z55 z56 z57 z58 z59 z60 z61 z62 z63 z64 z65 z66 z67 z68 z69 z70 z71 z72 z73 z74 z75 z76 z77 z78 z79 z80 z81 z82 z83 z84 z85 z86 z87 z88 z89 z90 z91 z92 z93 z94 z95 z96 z97 z98 z99 z100 z101 z102 z103 z104 z105 z106 z107 z108 z109 z110) a' w' ∧ Wmu n4 a' w' < Wmu n4 ⟨#[.int .u8 room.toNat, z1, z2, z3, z4, z5, z6, z7, z8, z9, u10, .pointer (some ⟨gp + 1, 0, none⟩), z12, z13, z14, z15, z16, z17, .pointer (some ⟨gd, 0, none⟩), .map (some gl), .int .i64 D.puts, .int .i64 D.takes, .int .i64 D.next, .int .i64 D.most, z24, u25, u26, u27, u28, u29, u30, u31, u32, u33, u34, u35, u36, u37, u38, u39, z40, z41, z42, z43, z44, z45, z46, z47, z48, z49, z50, z51, z52, z53, z54, z55, z56, z57, z58, z59, z60, z61, z62, z63, z64, z65, z66, z67, z68, z69, z70, z71, z72, z73, z74, z75, z76, z77, z78, z79, z80, z81, z82, z83, z84, z85, z86, z87, z88, z89, z90, z91, z92, z93, z94, z95, z96, z97, z98, z99, z100, z101, z102, z103, z104, z105, z106, z107, z108, z109, z110, .slice A4 n4 c4, .int .i64 n4, .int .i64 j, u114, u115, u116, u117, u118, u119, u120, u121, u122, u123, u124, u125, u126, u127, u128, u129, u130, u131, u132, u133, u134, u135, u136, u137, u138, u139, u140, u141, u142, u143, u144, u145, u146, u147, u148, u149, u150, u151, u152, u153, u154, u155, u156, u157, u158, u159, u160, u161, u162, u163, u164, u165, u166, u167, u168, u169, u170, u171, u172, u173, u174, u175, u176, u177, u178, u179, u180, u181, u182, u183, u184, u185, u186, u187, u188, u189, u190, u191, u192, u193, u194, u195, u196, u197, u198, u199, u200, u201, u202, u203, u204, u205, u206, u207, u208, u209, u210, u211, u212, u213, u214, u215, u216, u217, u218, u219, u220, u221, u222, u223, u224, u225, u226, u227, u228, u229, u230, u231, u232, u233, u234, u235, u236, u237, u238, u239, u240, u241, u242, u243, u244, u245, u246, u247, u248, u249, u250, u251, u252, u253, u254, u255, u256, u257, u258, u259, u260, u261, u262, u263, u264, u265, u266, u267, u268, u269, u270, u271, u272, u273, u274, u275, u276, u277, u278, u279, u280], []⟩ wr) Q0) ⟨#[.int .u8 room.toNat, z1, z2, z3, z4, z5, z6, z7, z8, z9, u10, .pointer (some ⟨gp + 1, 0, none⟩), z12, z13, z14, z15, z16, z17, .pointer (some ⟨gd, 0, none⟩), .map (some gl), .int .i64 D.puts, .int .i64 D.takes, .int .i64 D.next, .int .i64 D.most, z24, u25, u26, u27, u28, u29, u30, u31, u32, u33, u34, u35, u36, u37, u38, u39, z40, z41, z42, z43, z44, z45, z46, z47, z48, z49, z50, z51, z52, z53, z54, z55, z56, z57, z58, z59, z60, z61, z62, z63, z64, z65, z66, z67, z68, z69, z70, z71, z72, z73, z74, z75, z76, z77, z78, z79, z80, z81, z82, z83, z84, z85, z86, z87, z88, z89, z90, z91, z92, z93, z94, z95, z96, z97, z98, z99, z100, z101, z102, z103, z104, z105, z106, z107, z108, z109, z110, .slice A4 n4 c4, .int .i64 n4, .int .i64 j, u114, u115, u116, u117, u118, u119, u120, u121, u122, u123, u124, u125, u126, u127, u128, u129, u130, u131, u132, u133, u134, u135, u136, u137, u138, u139, u140, u141, u142, u143, u144, u145, u146, u147, u148, u149, u150, u151, u152, u153, u154, u155, u156, u157, u158, u159, u160, u161, u162, u163, u164, u165, u166, u167, u168, u169, u170, u171, u172, u173, u174, u175, u176, u177, u178, u179, u180, u181, u182, u183, u184, u185, u186, u187, u188, u189, u190, u191, u192, u193, u194, u195, u196, u197, u198, u199, u200, u201, u202, u203, u204, u205, u206, u207, u208, u209, u210, u211, u212, u213, u214, u215, u216, u217, u218, u219, u220, u221, u222, u223, u224, u225, u226, u227, u228, u229, u230, u231, u232, u233, u234, u235, u236, u237, u238, u239, u240, u241, u242, u243, u244, u245, u246, u247, u248, u249, u250, u251, u252, u253, u254, u255, u256, u257, u258, u259, u260, u261, u262, u263, u264, u265, u266, u267, u268, u269, u270, u271, u272, u273, u274, u275, u276, u277, u278, u279, u280], []⟩ wr := by
  conv => arg 2; whnf
  have hgl := E.apart
  have ho3s := E.based
  have hR := E.hR
  have s4 := E.lens.2.2.2.2
  have cC0 := E.c0
  have cC1 := E.c1
  have cC2 := E.c2
  have hltp := E.lt
  have hw : Only [] w wr := E.hwC.trans ho
  obtain ⟨b1, b2, b3, b4⟩ := hAg.small
  obtain ⟨ad, rfl, hadB, ha0, ha1, ha2, ha3⟩ := E.acts.2 j ac hac
  have e0 := (hw.cell (by rw [block_of_add]; exact hadB) (by simp)).trans ha0
  have e1 := (hw.cell (p := ⟨(ad.add (j * 4)).block, (ad.add (j * 4)).off + 1, none⟩) (by show (ad.add (j * 4)).block < _; rw [block_of_add]; exact hadB) (by simp)).trans ha1
  have e2 := (hw.cell (p := ⟨(ad.add (j * 4)).block, (ad.add (j * 4)).off + 2, none⟩) (by show (ad.add (j * 4)).block < _; rw [block_of_add]; exact hadB) (by simp)).trans ha2
  have e3 := (hw.cell (p := ⟨(ad.add (j * 4)).block, (ad.add (j * 4)).off + 3, none⟩) (by show (ad.add (j * 4)).block < _; rw [block_of_add]; exact hadB) (by simp)).trans ha3
  clear ha0 ha1 ha2 ha3 hac
  have k256 := ac.kind.toNat_lt
  have n256 := ac.n.toNat_lt
  have hDa := hD.only ((Only.refl [] wr).alloc (.cells #[.int .u8 ac.kind.toNat, .int .u8 ac.n.toNat, .int .u8 ac.seed.toNat, .bool ac.long] 44)) (by simp)
  have hLa := hL.only ((Only.refl [] wr).alloc (.cells #[.int .u8 ac.kind.toNat, .int .u8 ac.n.toNat, .int .u8 ac.seed.toNat, .bool ac.long] 44)) (by simp)
  have hoa := ho.alloc (.cells #[.int .u8 ac.kind.toNat, .int .u8 ac.n.toNat, .int .u8 ac.seed.toNat, .bool ac.long] 44)
  have HE := Lib.hid E
  clear hD hL E
  have hki : (ac.kind.toNat : Int) % 3 = 1 := by omega
  have hlb := hLa.small ((ac.n.toNat : Int) % ((D.next : Int) + 2)) b hb
  have heq : D.take ((ac.n.toNat : Int) % ((D.next : Int) + 2)) = ([], 10, (D.gone ((ac.n.toNat : Int) % ((D.next : Int) + 2))).t) := by rw [(take_law hAg ((ac.n.toNat : Int) % ((D.next : Int) + 2)) hb hlb).1 x s hbn, if_pos (.inr hrt)]
  have hlts := hDa.lts
  have hllt := hLa.lt
  have hroomD : (D.room : Int) = (room.toNat : Int) % 6 := by rw [hAg.room_]; exact hR
  have hmost0 := hAg.most_
  have hTake := devTake_any ((ac.n.toNat : Int) % ((D.next : Int) + 2)) _ hDa (by omega)
  rw [heq] at hTake
  go_wp2_with fail
  generalize ((ac.n.toNat : Int) % ((D.next : Int) + 2)) = key at *
  generalize (wr.alloc (.cells #[.int .u8 ac.kind.toNat, .int .u8 ac.n.toNat, .int .u8 ac.seed.toNat, .bool ac.long] 44)) = w5 at *
  generalize wr.heap.size = bact
  clear e0 e1 e2 e3
  refine hTake.mono ?_
  rintro e w6 ⟨A6, n6, k6, rfl, hk6, hA6, hr6, hD6, ho6⟩
  have hL6 := hLa.dev hDa hgl.1 ho6
  have hot6 : Only [] wC w6 := hoa.next ho6 (by simp; omega)
  obtain ⟨w7, hdel, hL7, ho7, hs7⟩ := hL6.delete key 0
  obtain ⟨fl, hfl⟩ := hL6.map
  have hD7 := hD6.law hfl hgl.1 hgl.2 ho7
  have hot7 : Only [] wC w7 := hot6.next ho7 (by simp; omega)
  have hr7 : Byts w7 w6.heap.size A6 n6 [] := Byts.onlyFar hr6 (Nat.le_refl _) ho7 (fun a' h => by have := hA6 a' h; simp; omega)
  have hn6 := Lib.hid hr7.len
  rw [hb] at hL7
  have hL7' : LawAt w7 wC.heap.size gl (Store.set mb key none) (D.gone key).t.count := hL7
  have hAt := (hAg.gone (show j + 1 ≤ 60 by omega) key).2
  obtain ⟨hb', -⟩ | ⟨b', r, cap, hb', -, hown, hlk⟩ := hL6.look key
  · rw [hb] at hb'; cases hb'
  obtain rfl : b = b' := by rw [hb] at hb'; injection hb'
  have hown7 : w7.ownsRow wC.heap.size 5 1 (.slice (some ⟨r, 0, none⟩) 64 cap) 64 (bytesV b) := ownsRow_only hown ho7 (fun g hg hmem => by simp at hmem; subst hmem; exact hfl.ne_own hown hg)
  obtain ⟨f, np, hM, hf⟩ := HE.out.map
  have hlk2 := (hM.only hot7 (by simp)).lookup Try.underlying27 Try.underlying3 (z := .agg #[.int .i64 0, .int .u32 0]) (by kernel_rfl) (D.takes : Int)
  rw [hf, hbn] at hlk2
  simp only [Option.map_some, Option.getD_some, Option.isSome_some, bendV] at hlk2
  have cG7 : w7.cell? ⟨gp + 1, 1, none⟩ = some (.slice AG q cG) := (hot7.cell hltp (by simp)).trans cC1
  have cP7 : w7.cell? ⟨gp + 1, 2, none⟩ = some (.map (some gp)) := (hot7.cell hltp (by simp)).trans cC2
  have hl7 : gp + 1 < w7.heap.size := Nat.lt_of_lt_of_le hltp hot7.size
  have cG8 : ∀ o, (w7.alloc o).cell? ⟨gp + 1, 1, none⟩ = some (.slice AG q cG) := fun o => (World.cell?_alloc_lt _ _ _ hl7).trans cG7
  have hrG8 : ∀ o, Reads (w7.alloc o) wC.heap.size 1 AG q ((byte30 l2).map (Value.int .i64)) := fun o => (HE.out.hrG.only_ hot7).alloc hot7.size o
  have hkm : q ≤ maxLen := by have := HE.out.lens.2.2.2.1; simp only [maxLen]; omega
  have hkl := HE.out.lens.2.1
  have hAm := Lib.hid ham
  have hxb := HE.out.bbs _ _ hbn
  have hBent := bent_any x s (some ⟨r, 0, none⟩) 64 cap b (w7.alloc (.cells #[.int .i64 x, .int .u32 (s.toNat : Int)] 25)) (by omega) ((Reads.of_own hown7).alloc (Nat.le_refl _) _ |>.more (by simp)) hxb
  have HRT := Lib.hid hrt
  have hot8 : Only [] wC (w7.alloc (.cells #[.int .i64 x, .int .u32 (s.toNat : Int)] 25)) := hot7.alloc _
  have hD8 := hD7.only ((Only.refl [] w7).alloc (.cells #[.int .i64 x, .int .u32 (s.toNat : Int)] 25)) (by simp)
  have hL8 := hL7'.only ((Only.refl [] w7).alloc (.cells #[.int .i64 x, .int .u32 (s.toNat : Int)] 25)) (by simp)
  have hr8 : Byts (w7.alloc (.cells #[.int .i64 x, .int .u32 (s.toNat : Int)] 25)) (w7.alloc (.cells #[.int .i64 x, .int .u32 (s.toNat : Int)] 25)).heap.size A6 n6 [] := (Reads.alloc hr7 (by omega) _).more (by simp; omega)
  have hrb8 : Byts (w7.alloc (.cells #[.int .i64 x, .int .u32 (s.toNat : Int)] 25)) (w7.alloc (.cells #[.int .i64 x, .int .u32 (s.toNat : Int)] 25)).heap.size (some ⟨r, 0, none⟩) 64 b := (Reads.alloc (Reads.of_own hown7) (Nat.le_refl _) _).more (by simp)
  have HCV := Lib.hid (show ∀ w9, Only [] (w7.alloc (.cells #[.int .i64 x, .int .u32 (s.toNat : Int)] 25)) w9 → (convert 22 9 (.slice A6 n6 k6)).run Try.prog w9 = .ok (.string ⟨([] : List UInt8).toArray⟩) w9 ∧ (convert 22 9 (.slice (some ⟨r, 0, none⟩) 64 cap)).run Try.prog w9 = .ok (.string ⟨b.toArray⟩) w9 ∧
      DevAt w9 wC.heap.size gd gm gb (D.gone key).t ∧ LawAt w9 wC.heap.size gl (Store.set mb key none) (D.gone key).t.count ∧ Only [] wC w9 from fun w9 ho9 =>
    ⟨convert_byts (show Byts w9 _ A6 n6 [] from Reads.only_ hr8 ho9), convert_byts (show Byts w9 _ (some ⟨r, 0, none⟩) 64 b from Reads.only_ hrb8 ho9), hD8.only ho9 (by simp), hL8.only ho9 (by simp), hot8.trans ho9⟩)
  have HBENT := Lib.hid hBent
  clear hBent hr8 hrb8 hD8 hL8 hrt
  obtain rfl : n6 = 0 := by have := hn6.out; simpa using this.symm
  have hdr : ((D.gone key).t.room : Int) = (room.toNat : Int) % 6 := hroomD
  have hdc : (D.gone key).t.count ≤ (D.gone key).t.most := hAt.most_
  have hdm : (D.gone key).t.most = D.most := rfl
  have hdt : (D.gone key).t.takes = D.takes + 1 := rfl
  have hdp : (D.gone key).t.puts = D.puts := rfl
  have hdn : (D.gone key).t.next = D.next := rfl
  generalize (D.gone key).t = D' at *
  clear hTake heq hDa hLa hD6 hL6 hr6 hL7 ham hlb hb
  go_wp2_with (first
    | (go_at_call 9; refine (used_any _ hD9).mono ?_; rintro e wu ⟨rfl, rfl⟩)
    | (go_at_call 15; refine (most_any _ hD9).mono ?_; rintro e wu ⟨rfl, rfl⟩)
    | (go_at_call 16; refine (room_any _ hD9).mono ?_; rintro e wu ⟨rfl, rfl⟩)
    | (go_at_call 11; refine (lawAmong_any (D.takes : Int) wC.heap.size AG q cG (byte30 l2) _ hkm hkl (hrG8 _)).mono ?_; rw [hAm.out]; rintro e wu ⟨rfl, rfl⟩)
    | (go_at_call 13; refine HBENT.out.mono ?_; rintro e w9 ⟨g9, cap9, rfl, hcap9, hown9, ho9⟩
       obtain ⟨cv1, cv2, hD9, hL9, hot9⟩ := HCV.out _ ho9
       have hlen := hL9.len 3)
    | (go_at_call 12; refine (right_any _ _ _ _ _ _ (by simp [maxLen]) hcap9 (Reads.of_own hown9)).mono ?_; rw [HRT.out]; rintro e wu ⟨rfl, rfl⟩))
  refine ⟨?_, ?_⟩
  · unfold WI
    exact ⟨_, _, _, _, _, _, _, _, _, _, _, _, _, _, _, _, _, _, _, _, _, _, _, _, _, _, _, _, _, _, _, _, _, _, _, _, _, _, _, _, _, _, _, _, _, _, _, _, _, _, _, _, _, _, _, _, _, _, _, _, _, _, _, _, _, _, _, _, _, _, _, _, _, _, _, _, _, _, _, _, _, _, _, _, _, _, _, _, _, _, _, _, _, _, _, _, _, _, _, _, _, _, _, _, _, _, _, _, _, _, _, _, _, _, _, _, _, _, _, _, _, _, _, _, _, _, _, _, _, _, _, _, _, _, _, _, _, _, _, _, _, _, _, _, _, _, _, _, _, _, _, _, _, _, _, _, _, _, _, _, _, _, _, _, _, _, _, _, _, _, _, _, _, _, _, _, _, _, _, _, _, _, _, _, _, _, _, _, ⟨j + 1, D', _, by omega, by go_num, congrArg (Value.int .i64) (by omega), congrArg (Value.int .i64) (by omega), congrArg (Value.int .i64) (by omega), congrArg (Value.int .i64) (by omega), hD9, hL9, hAt, hot9⟩, rfl⟩
  · show n4 - (intOf (.int .i64 ((j : Int) + 1))).toNat < n4 - (intOf (.int .i64 (j : Int))).toNat
    simp [intOf]; omega

end Go.Proofs.Ytnpjlmeiaegdkaa
