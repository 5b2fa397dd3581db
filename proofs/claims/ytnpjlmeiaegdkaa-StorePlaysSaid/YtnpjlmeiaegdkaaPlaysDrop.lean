/-
  THE FOURTH LOOP OF StorePlays: a case of its round. By program (gen2.py).
-/
import Derived.Test.YtnpjlmeiaegdkaaPlaysB
namespace Go.Proofs.Ytnpjlmeiaegdkaa
open Go.RowKit Go.Azu

set_option maxRecDepth 1000000 in
set_option maxHeartbeats 4000000 in
theorem case_Drop (room : UInt8) (A4 AF AG : Option Addr) (n3 n4 c4 k q cF cG gp gd gm gb gl R : Nat) (l1 l2 : List UInt8) (bs : List (Int × BitVec 32)) (aa : List Act) (w wC : World) (E : Env room A4 AF AG n3 n4 c4 k q cF cG gp gd gm gb gl R l1 l2 bs aa w wC) (z1 z2 z3 z4 z5 z6 z7 z8 z9 z12 z13 z14 z15 z16 z17 z24 z40 z41 z42 z43 z44 z45 z46 z47 z48 z49 z50 z51 z52 z53 z54 z55 z56 z57 z58 z59 z60 z61 z62 z63 z64 z65 z66 z67 z68 z69 z70 z71 z72 z73 z74 z75 z76 z77 z78 z79 z80 z81 z82 z83 z84 z85 z86 z87 z88 z89 z90 z91 z92 z93 z94 z95 z96 z97 z98 z99 z100 z101 z102 z103 z104 z105 z106 z107 z108 z109 z110 : Value) (u10 u25 u26 u27 u28 u29 u30 u31 u32 u33 u34 u35 u36 u37 u38 u39 u114 u115 u116 u117 u118 u119 u120 u121 u122 u123 u124 u125 u126 u127 u128 u129 u130 u131 u132 u133 u134 u135 u136 u137 u138 u139 u140 u141 u142 u143 u144 u145 u146 u147 u148 u149 u150 u151 u152 u153 u154 u155 u156 u157 u158 u159 u160 u161 u162 u163 u164 u165 u166 u167 u168 u169 u170 u171 u172 u173 u174 u175 u176 u177 u178 u179 u180 u181 u182 u183 u184 u185 u186 u187 u188 u189 u190 u191 u192 u193 u194 u195 u196 u197 u198 u199 u200 u201 u202 u203 u204 u205 u206 u207 u208 u209 u210 u211 u212 u213 u214 u215 u216 u217 u218 u219 u220 u221 u222 u223 u224 u225 u226 u227 u228 u229 u230 u231 u232 u233 u234 u235 u236 u237 u238 u239 u240 u241 u242 u243 u244 u245 u246 u247 u248 u249 u250 u251 u252 u253 u254 u255 u256 u257 u258 u259 u260 u261 u262 u263 u264 u265 u266 u267 u268 u269 u270 u271 u272 u273 u274 u275 u276 u277 u278 u279 u280 : Value) (wr : World) (j : Nat) (D : Store.Dev) (mb : Int → Option (List UInt8)) (hlt4 : j < n4) (hD : DevAt wr wC.heap.size gd gm gb D) (hL : LawAt wr wC.heap.size gl mb D.count)
    (hAg : Agree D mb j R (byte30 l1) (byte30 l2) (bendsTo bs n3)) (ho : Only [] wC wr) (ac : Act) (hac : aa[j]? = some ac) (hk : ac.kind.toNat % 3 = 2) (Q0 : Exit → Go.Act → World → Prop) :
    Code.wp Try.prog body (Exit.then (fun a' w' => (WI room A4 n3 n4 c4 gp gd gm gb gl R l1 l2 bs wC z1 z2 z3 z4 z5 z6 z7 z8 z9 z12 z13 z14 z15 z16 z17 z24 z40 z41 z42 z43 z44 z45 z46 z47 z48 z49 z50 z51 z52 z53 z54 z55 z56 z57 z58 z59 z60 z61 z62 z63 z64 z65 z66 z67 z68 z69 z70 z71 z72 z73 z74 z75 z76 z77 z78 z79 z80 z81 z82 z83 z84 z85 z86 z87 z88 z89 z90 z91 z92 z93 z94 z95 z96 z97 z98 z99 z100 z101 z102 z103 z104 z105 z106 z107 z108 z109 z110) a' w' ∧ Wmu n4 a' w' < Wmu n4 ⟨#[.int .u8 room.toNat, z1, z2, z3, z4, z5, z6, z7, z8, z9, u10, .pointer (some ⟨gp + 1, 0, none⟩), z12, z13, z14, z15, z16, z17, .pointer (some ⟨gd, 0, none⟩), .map (some gl), .int .i64 D.puts, .int .i64 D.takes, .int .i64 D.next, .int .i64 D.most, z24, u25, u26, u27, u28, u29, u30, u31, u32, u33, u34, u35, u36, u37, u38, u39, z40, z41, z42, z43, z44, z45, z46, z47, z48, z49, z50, z51, z52, z53, z54, z55, z56, z57, z58, z59, z60, z61, z62, z63, z64, z65, z66, z67, z68, z69, z70, z71, z72, z73, z74, z75, z76, z77, z78, z79, z80, z81, z82, z83, z84, z85, z86, z87, z88, z89, z90, z91, z92, z93, z94, z95, z96, z97, z98, z99, z100, z101, z102, z103, z104, z105, z106, z107, z108, z109, z110, .slice A4 n4 c4, .int .i64 n4, .int .i64 j, u114, u115, u116, u117, u118, u119, u120, u121, u122, u123, u124, u125, u126, u127, u128, u129, u130, u131, u132, u133, u134, u135, u136, u137, u138, u139, u140, u141, u142, u143, u144, u145, u146, u147, u148, u149, u150, u151, u152, u153, u154, u155, u156, u157, u158, u159, u160, u161, u162, u163, u164, u165, u166, u167, u168, u169, u170, u171, u172, u173, u174, u175, u176, u177, u178, u179, u180, u181, u182, u183, u184, u185, u186, u187, u188, u189, u190, u191, u192, u193, u194, u195, u196, u197, u198, u199, u200, u201, u202, u203, u204, u205, u206, u207, u208, u209, u210, u211, u212, u213, u214, u215, u216, u217, u218, u219, u220, u221, u222, u223, u224, u225, u226, u227, u228, u229, u230, u231, u232, u233, u234, u235, u236, u237, u238, u239, u240, u241, u242, u243, u244, u245, u246, u247, u248, u249, u250, u251, u252, u253, u254, u255, u256, u257, u258, u259, u260, u261, u262, u263, u264, u265, u266, u267, u268, u269, u270, u271, u272, u273, u274, u275, u276, u277, u278, u279, u280], []⟩ wr) Q0) ⟨#[.int .u8 room.toNat, z1, z2, z3, z4, z5, z6, z7, z8, z9, u10, .pointer (some ⟨gp + 1, 0, none⟩), z12, z13, z14, z15, z16, z17, .pointer (some ⟨gd, 0, none⟩), .map (some gl), .int .i64 D.puts, .int .i64 D.takes, .int .i64 D.next, .int .i64 D.most, z24, u25, u26, u27, u28, u29, u30, u31, u32, u33, u34, u35, u36, u37, u38, u39, z40, z41, z42, z43, z44, z45, z46, z47, z48, z49, z50, z51, z52, z53, z54, z55, z56, z57, z58, z59, z60, z61, z62, z63, z64, z65, z66, z67, z68, z69, z70, z71, z72, z73, z74, z75, z76, z77, z78, z79, z80, z81, z82, z83, z84, z85, z86, z87, z88, z89, z90, z91, z92, z93, z94, z95, z96, z97, z98, z99, z100, z101, z102, z103, z104, z105, z106, z107, z108, z109, z110, .slice A4 n4 c4, .int .i64 n4, .int .i64 j, u114, u115, u116, u117, u118, u119, u120, u121, u122, u123, u124, u125, u126, u127, u128, u129, u130, u131, u132, u133, u134, u135, u136, u137, u138, u139, u140, u141, u142, u143, u144, u145, u146, u147, u148, u149, u150, u151, u152, u153, u154, u155, u156, u157, u158, u159, u160, u161, u162, u163, u164, u165, u166, u167, u168, u169, u170, u171, u172, u173, u174, u175, u176, u177, u178, u179, u180, u181, u182, u183, u184, u185, u186, u187, u188, u189, u190, u191, u192, u193, u194, u195, u196, u197, u198, u199, u200, u201, u202, u203, u204, u205, u206, u207, u208, u209, u210, u211, u212, u213, u214, u215, u216, u217, u218, u219, u220, u221, u222, u223, u224, u225, u226, u227, u228, u229, u230, u231, u232, u233, u234, u235, u236, u237, u238, u239, u240, u241, u242, u243, u244, u245, u246, u247, u248, u249, u250, u251, u252, u253, u254, u255, u256, u257, u258, u259, u260, u261, u262, u263, u264, u265, u266, u267, u268, u269, u270, u271, u272, u273, u274, u275, u276, u277, u278, u279, u280], []⟩ wr := by
  conv => arg 2; whnf
  have hgl := E.apart
  have ho3s := E.based
  have hR := E.hR
  have s4 := E.lens.2.2.2.2
  have cC0 := E.c0
  have cC1 := E.c1
  have cC2 := E.c2
  have hltp := E.lt
  have hw : Only [] w wr := E.hwC.trans ho
  obtain ⟨b1, b2, b3, b4⟩ := hAg.small
  obtain ⟨ad, rfl, hadB, ha0, ha1, ha2, ha3⟩ := E.acts.2 j ac hac
  have e0 := (hw.cell (by rw [block_of_add]; exact hadB) (by simp)).trans ha0
  have e1 := (hw.cell (p := ⟨(ad.add (j * 4)).block, (ad.add (j * 4)).off + 1, none⟩) (by show (ad.add (j * 4)).block < _; rw [block_of_add]; exact hadB) (by simp)).trans ha1
  have e2 := (hw.cell (p := ⟨(ad.add (j * 4)).block, (ad.add (j * 4)).off + 2, none⟩) (by show (ad.add (j * 4)).block < _; rw [block_of_add]; exact hadB) (by simp)).trans ha2
  have e3 := (hw.cell (p := ⟨(ad.add (j * 4)).block, (ad.add (j * 4)).off + 3, none⟩) (by show (ad.add (j * 4)).block < _; rw [block_of_add]; exact hadB) (by simp)).trans ha3
  clear ha0 ha1 ha2 ha3 hac
  have k256 := ac.kind.toNat_lt
  have n256 := ac.n.toNat_lt
  have hDa := hD.only ((Only.refl [] wr).alloc (.cells #[.int .u8 ac.kind.toNat, .int .u8 ac.n.toNat, .int .u8 ac.seed.toNat, .bool ac.long] 44)) (by simp)
  have hLa := hL.only ((Only.refl [] wr).alloc (.cells #[.int .u8 ac.kind.toNat, .int .u8 ac.n.toNat, .int .u8 ac.seed.toNat, .bool ac.long] 44)) (by simp)
  have hoa := ho.alloc (.cells #[.int .u8 ac.kind.toNat, .int .u8 ac.n.toNat, .int .u8 ac.seed.toNat, .bool ac.long] 44)
  have HE := Lib.hid E
  clear hD hL E
  have hki : (ac.kind.toNat : Int) % 3 = 2 := by omega
  go_wp2_with fail
  generalize (ac.n.toNat : Int) % ((D.next : Int) + 2) = key at *
  generalize (wr.alloc (.cells #[.int .u8 ac.kind.toNat, .int .u8 ac.n.toNat, .int .u8 ac.seed.toNat, .bool ac.long] 44)) = w5 at *
  generalize wr.heap.size = bact
  clear e0 e1 e2 e3
  obtain ⟨fl, hfl⟩ := hLa.map
  obtain ⟨w6, hdel, hL6, ho6, hs6⟩ := hLa.delete key 0
  have hD6 := hDa.law hfl hgl.1 hgl.2 ho6
  have hdrop := devDrop_any key w6 hD6
  have hbase := ho3s
  have hot6 : Only [] wC w6 := hoa.next ho6 (by simp; omega)
  obtain ⟨D', mb', hDe, hDc, hAt, hmo, hp1, hp2, hp3⟩ : ∃ D' mb', (D.drop key).2 = D' ∧ LawAt w6 wC.heap.size gl mb' D'.count ∧ Agree D' mb' (j + 1) R (byte30 l1) (byte30 l2) (bendsTo bs n3) ∧ D'.most = D.most ∧ D'.puts = D.puts ∧ D'.takes = D.takes ∧ D'.next = D.next := by
    cases hmb : mb key with
    | none =>
      rw [hmb] at hL6
      have : D.blocks key = none := by rw [hAg.same, hmb]; rfl
      refine ⟨D, _, by simp [Store.Dev.drop, this], hL6, hAg.none_ (by omega) key hmb, rfl, rfl, rfl, rfl⟩
    | some b =>
      rw [hmb] at hL6
      have : D.blocks key = some (Crc.put b) := by rw [hAg.same, hmb]; rfl
      exact ⟨D.gone key, _, by simp [Store.Dev.drop, this], hL6, (hAg.gone (by omega) key).1, rfl, rfl, rfl, rfl⟩
  have hd1 : (D.drop key).1 = if (mb key).isSome = true then 0 else 9 := by
    have := hAg.same key
    unfold Store.Dev.drop
    cases hmb : mb key with
    | none => rw [hmb] at this; rw [show D.blocks key = none from this]; rfl
    | some b => rw [hmb] at this; rw [show D.blocks key = some (Crc.put b) from this]; rfl
  rw [hDe] at hdrop
  have hmost : D'.count ≤ D'.most := hAt.most_
  have hroomD : (D'.room : Int) = (room.toNat : Int) % 6 := by rw [hAt.room_]; exact hR
  rcases hLa.look key with ⟨hmb, hlk⟩ | ⟨b, r, cap, hmb, hbl, hown, hlk⟩
  all_goals
    rw [hmb] at hd1
    simp only [Option.isSome_none, Option.isSome_some, Bool.false_eq_true, if_true, if_false] at hd1
    rw [hd1] at hdrop
    rw [hlk]
    go_wp2_with fail
    refine hdrop.mono ?_
    rintro e w7 ⟨rfl, hD7, ho7⟩
    have hL7 := hDc.dev hD6 hgl.1 (ho7.mono (by simp))
    have hot7 : Only [] wC w7 := hot6.next ho7 (by simp; omega)
    have hlen := hL7.len 3
    clear hdrop hdel hlk hDc hL6
    go_wp2_with (first
      | (go_at_call 9; refine (used_any _ hD7).mono ?_; rintro e wu ⟨rfl, rfl⟩)
      | (go_at_call 15; refine (most_any _ hD7).mono ?_; rintro e wu ⟨rfl, rfl⟩)
      | (go_at_call 16; refine (room_any _ hD7).mono ?_; rintro e wu ⟨rfl, rfl⟩))
    refine ⟨?_, ?_⟩
    · unfold WI
      exact ⟨_, _, _, _, _, _, _, _, _, _, _, _, _, _, _, _, _, _, _, _, _, _, _, _, _, _, _, _, _, _, _, _, _, _, _, _, _, _, _, _, _, _, _, _, _, _, _, _, _, _, _, _, _, _, _, _, _, _, _, _, _, _, _, _, _, _, _, _, _, _, _, _, _, _, _, _, _, _, _, _, _, _, _, _, _, _, _, _, _, _, _, _, _, _, _, _, _, _, _, _, _, _, _, _, _, _, _, _, _, _, _, _, _, _, _, _, _, _, _, _, _, _, _, _, _, _, _, _, _, _, _, _, _, _, _, _, _, _, _, _, _, _, _, _, _, _, _, _, _, _, _, _, _, _, _, _, _, _, _, _, _, _, _, _, _, _, _, _, _, _, _, _, _, _, _, _, _, _, _, _, _, _, _, _, _, _, _, _, ⟨j + 1, D', mb', by omega, by go_num, by rw [hp1], by rw [hp2], by rw [hp3], by rw [hmo], hD7, hL7, hAt, hot7⟩, rfl⟩
    · show n4 - (intOf (.int .i64 ((j : Int) + 1))).toNat < n4 - (intOf (.int .i64 (j : Int))).toNat
      simp [intOf]; omega

end Go.Proofs.Ytnpjlmeiaegdkaa
