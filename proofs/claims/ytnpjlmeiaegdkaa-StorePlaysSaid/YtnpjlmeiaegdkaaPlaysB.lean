/-
  THE FOURTH LOOP OF StorePlays: its body, what holds at its head. By program (gen2.py).
-/
import Derived.Test.YtnpjlmeiaegdkaaPlaysD
namespace Go.Proofs.Ytnpjlmeiaegdkaa
open Go.RowKit Go.Azu

def byte30 (l : List UInt8) : List Int := l.map fun c => (c.toNat : Int) % 30
def bendsTo (bs : List (Int × BitVec 32)) : Nat → Int → Option (Int × BitVec 32)
  | 0 => fun _ => none
  | k + 1 => Store.set (bendsTo bs k) (3 * (k : Int)) (bs[k]?)

/-- a slice of bends -/
def Bends (w : World) (B : Nat) (A : Option Addr) (n : Nat) (bs : List (Int × BitVec 32)) : Prop :=
  bs.length = n ∧ (∀ k p, bs[k]? = some p → ∃ ad, A = some ad ∧ ad.block < B ∧ (-9223372036854775808 ≤ p.1 ∧ p.1 ≤ 9223372036854775807) ∧ w.cell? (ad.add (k * 2)) = some (.int .i64 p.1) ∧ w.cell? ⟨(ad.add (k * 2)).block, (ad.add (k * 2)).off + 1, none⟩ = some (.int .u32 (p.2.toNat : Int)))
/-- a slice of acts -/
structure Act where
  kind : UInt8
  n : UInt8
  seed : UInt8
  long : Bool
def Acts (w : World) (B : Nat) (A : Option Addr) (n : Nat) (aa : List Act) : Prop :=
  aa.length = n ∧ (∀ k (p : Act), aa[k]? = some p → ∃ ad, A = some ad ∧ ad.block < B ∧ w.cell? (ad.add (k * 4)) = some (.int .u8 p.kind.toNat) ∧ w.cell? ⟨(ad.add (k * 4)).block, (ad.add (k * 4)).off + 1, none⟩ = some (.int .u8 p.n.toNat) ∧
    w.cell? ⟨(ad.add (k * 4)).block, (ad.add (k * 4)).off + 2, none⟩ = some (.int .u8 p.seed.toNat) ∧ w.cell? ⟨(ad.add (k * 4)).block, (ad.add (k * 4)).off + 3, none⟩ = some (.bool p.long))

theorem wpList_append_st {P : Program} {w : World} {ops : Array Oper} {rest : List Oper} {o : Oper} {a : Go.Act} {Q : Exit → Go.Act → World → Prop} {t e : TypeId} {z : Value} {size bytes : Nat} (T : STy P t e z size bytes)
    (s x : Operand) (hgd : o.guard = none) (ho : o.op = .call { callee := .builtin .append, args := #[s, x], argTypes := #[t, t] })
    {base n : Nat} {v : Value} {xs : List Value} (hown : w.ownsRow base e size v n xs) (hs : a.eval s = v)
    {B : Nat} {A : Option Addr} {m c : Nat} {news : List Value} (hr : Reads w B size A m news) (hx : a.eval x = .slice A m c) (h1 : ∀ u ∈ news, u.oneCell' = true)
    (h63 : n + m ≤ maxLen) (hbytes : (n + m) * bytes ≤ 140737488355328) (hbase : base ≤ w.heap.size)
    (h : ∀ v' w', w'.ownsRow base e size v' (n + m) (xs ++ news) → w.grownBy w' v.ownBlock → wpList P ops Q rest (a.put o.dst v') w') : wpList P ops Q (o :: rest) a w := by
  obtain ⟨i, hi, hz, hsize, hby⟩ := info_parts T.info
  exact wpList_append_any w hgd s x t ho base e i z size bytes T.under hi hz hsize hby T.zs T.pos v n xs hs hown B A m c news hx hr h1 h63 hbytes hbase fun v' w' h2 h3 _ => h v' w' h2 h3

theorem ownsRow_nil (w : World) (base : Nat) (e : TypeId) : w.ownsRow base e 1 (.slice none 0 0) 0 [] := ⟨rfl, .inl ⟨rfl, rfl⟩⟩

theorem byte30_snoc (l : List UInt8) (k : Nat) (c : UInt8) (h : l[k]? = some c) : (byte30 (l.take (k + 1))).map (Value.int .i64) = (byte30 (l.take k)).map (Value.int .i64) ++ [.int .i64 ((c.toNat : Int) % 30)] := by
  obtain ⟨hk, rfl⟩ := List.getElem?_eq_some_iff.1 h
  rw [List.take_succ_eq_append_getElem hk]
  simp only [byte30, List.map_append, List.map_cons, List.map_nil]

theorem bendsTo_small (bs : List (Int × BitVec 32)) (hb : ∀ (k : Nat) (p : Int × BitVec 32), bs[k]? = some p → -9223372036854775808 ≤ p.1 ∧ p.1 ≤ 9223372036854775807) : ∀ (m : Nat) (k : Int) (p : Int × BitVec 32), bendsTo bs m k = some p → -9223372036854775808 ≤ p.1 ∧ p.1 ≤ 9223372036854775807
  | 0, _, _, h => by cases h
  | m + 1, k, p, h => by
    simp only [bendsTo, Store.set] at h
    split at h
    · exact hb m p h
    · exact bendsTo_small bs hb m k p h

theorem DevAt.gblt {w : World} {base gd gm gb : Nat} {D : Store.Dev} (h : DevAt w base gd gm gb D) : gb < w.heap.size := by
  obtain ⟨vF, vG, fm, fb, nb, h1, h2, h3, h4, h5, h6, h7, h8, h9, h10⟩ := h.at_
  exact h9.lt

/-- an append to a row of the plan's -/
theorem plan_grow {w2 wr w' : World} {bp base i : Nat} {cs : Array Value} {v v' : Value} {n m : Nat} {xs ys : List Value} {o : Obj} (hB : Blk wr bp 30 cs) (hown : wr.ownsRow base 3 1 v n xs) (ho : Only [bp] w2 wr) (hgrow : (wr.alloc o).grownBy w' v.ownBlock)
    (hown' : w'.ownsRow base 3 1 v' m ys) (hb : w2.heap.size ≤ base := by omega) :
    Only [bp] w2 w' ∧ Blk w' bp 30 cs ∧ v'.ownBlock ≠ some bp ∧ w'.cell? ⟨bp, i, none⟩ = cs[i]? ∧ w'.frozen? ⟨bp, i, none⟩ = false := by
  have hne0 := ownsRow_ne_blk hown hB (by decide)
  have hoA : Only [bp] w2 w' := (ho.alloc _).grow hgrow (fun g hg => .inr (Nat.le_trans hb (hown.lt g hg).1))
  have hBw : Blk w' bp 30 cs := (hB.alloc _).grown hgrow (Ne.symm hne0)
  exact ⟨hoA, hBw, ownsRow_ne_blk hown' hBw (by decide), hBw.cell i, hBw.frozen i⟩


def allLoops : Code → List Code
  | .loop c => [c]
  | .seq a b => allLoops a ++ allLoops b
  | .block _ c => allLoops c
  | .scope c => allLoops c
  | .cond _ a b => allLoops a ++ allLoops b
  | _ => []
noncomputable def body : Code := ((Try.f4.body.bind fun b => (allLoops b)[3]?)).getD .skip

/-- what the loop finds and leaves as it is -/
structure Env (room : UInt8) (A4 AF AG : Option Addr) (n3 n4 c4 k q cF cG gp gd gm gb gl R : Nat) (l1 l2 : List UInt8) (bs : List (Int × BitVec 32)) (aa : List Act) (w wC : World) : Prop where
  hwC : Only [] w wC
  acts : Acts w w.heap.size A4 n4 aa
  lt : gp + 1 < wC.heap.size
  c0 : wC.cell? ⟨gp + 1, 0, none⟩ = some (.slice AF k cF)
  c1 : wC.cell? ⟨gp + 1, 1, none⟩ = some (.slice AG q cG)
  c2 : wC.cell? ⟨gp + 1, 2, none⟩ = some (.map (some gp))
  hrF : Reads wC wC.heap.size 1 AF k ((byte30 l1).map (Value.int .i64))
  hrG : Reads wC wC.heap.size 1 AG q ((byte30 l2).map (Value.int .i64))
  lens : (byte30 l1).length = k ∧ (byte30 l2).length = q ∧ k ≤ 20 ∧ q ≤ 20 ∧ n4 ≤ 60
  map : ∃ f np, MapIs wC gp f np ∧ ∀ j, f j = (bendsTo bs n3 j).map bendV
  bbs : ∀ (j : Int) (p : Int × BitVec 32), bendsTo bs n3 j = some p → -9223372036854775808 ≤ p.1 ∧ p.1 ≤ 9223372036854775807
  apart : gl ≠ gm ∧ gl ≠ gb
  based : wC.heap.size ≤ gl ∧ wC.heap.size ≤ gd ∧ wC.heap.size ≤ gm
  hR : (R : Int) = (room.toNat : Int) % 6

/-- what holds at the loop's head -/
def Rel (n3 n4 gd gm gb gl R : Nat) (l1 l2 : List UInt8) (bs : List (Int × BitVec 32)) (wC : World) (x20 x21 x22 x23 x113 : Value) (wr : World) : Prop :=
  ∃ (j : Nat) (D : Store.Dev) (mb : Int → Option (List UInt8)), j ≤ n4 ∧ x113 = .int .i64 j ∧ x20 = .int .i64 D.puts ∧ x21 = .int .i64 D.takes ∧ x22 = .int .i64 D.next ∧ x23 = .int .i64 D.most ∧
    DevAt wr wC.heap.size gd gm gb D ∧ LawAt wr wC.heap.size gl mb D.count ∧ Agree D mb j R (byte30 l1) (byte30 l2) (bendsTo bs n3) ∧ Only [] wC wr

set_option maxRecDepth 1000000 in
def WI (room : UInt8) (A4 : Option Addr) (n3 n4 c4 gp gd gm gb gl R : Nat) (l1 l2 : List UInt8) (bs : List (Int × BitVec 32)) (wC : World) (z1 z2 z3 z4 z5 z6 z7 z8 z9 z12 z13 z14 z15 z16 z17 z24 z40 z41 z42 z43 z44 z45 z46 z47 z48 z49 z50 z51 z52 z53 z54 z55 z56 z57 z58 z59 z60 z61 z62 z63 z64 z65 z66 z67 z68 z69 z70 z71 z72 z73 z74 z75 z76 z77 z78 z79 z80 z81 z82 z83 z84 z85 z86 z87 z88 z89 z90 z91 z92 z93 z94 z95 z96 z97 z98 z99 z100 z101 z102 z103 z104 z105 z106 z107 z108 z109 z110 : Value) (a : Go.Act) (wr : World) : Prop :=
  ∃ x20 x21 x22 x23 x113 u10 u25 u26 u27 u28 u29 u30 u31 u32 u33 u34 u35 u36 u37 u38 u39 u114 u115 u116 u117 u118 u119 u120 u121 u122 u123 u124 u125 u126 u127 u128 u129 u130 u131 u132 u133 u134 u135 u136 u137 u138 u139 u140 u141 u142 u143 u144 u145 u146 u147 u148 u149 u150 u151 u152 u153 u154 u155 u156 u157 u158 u159 u160 u161 u162 u163 u164 u165 u166 u167 u168 u169 u170 u171 u172 u173 u174 u175 u176 u177 u178 u179 u180 u181 u182 u183 u184 u185 u186 u187 u188 u189 u190 u191 u192 u193 u194 u195 u196 u197 u198 u199 u200 u201 u202 u203 u204 u205 u206 u207 u208 u209 u210 u211 u212 u213 u214 u215 u216 u217 u218 u219 u220 u221 u222 u223 u224 u225 u226 u227 u228 u229 u230 u231 u232 u233 u234 u235 u236 u237 u238 u239 u240 u241 u242 u243 u244 u245 u246 u247 u248 u249 u250 u251 u252 u253 u254 u255 u256 u257 u258 u259 u260 u261 u262 u263 u264 u265 u266 u267 u268 u269 u270 u271 u272 u273 u274 u275 u276 u277 u278 u279 u280 : Value, Rel n3 n4 gd gm gb gl R l1 l2 bs wC x20 x21 x22 x23 x113 wr ∧ a = ⟨#[.int .u8 room.toNat, z1, z2, z3, z4, z5, z6, z7, z8, z9, u10, .pointer (some ⟨gp + 1, 0, none⟩), z12, z13, z14, z15, z16, z17, .pointer (some ⟨gd, 0, none⟩), .map (some gl), x20, x21, x22, x23, z24, u25, u26, u27, u28, u29, u30, u31, u32, u33, u34, u35, u36, u37, u38, u39, z40, z41, z42, z43, z44, z45, z46, z47, z48, z49, z50, z51, z52, z53, z54, z55, z56, z57, z58, z59, z60, z61, z62, z63, z64, z65, z66, z67, z68, z69, z70, z71, z72, z73, z74, z75, z76, z77, z78, z79, z80, z81, z82, z83, z84, z85, z86, z87, z88, z89, z90, z91, z92, z93, z94, z95, z96, z97, z98, z99, z100, z101, z102, z103, z104, z105, z106, z107, z108, z109, z110, .slice A4 n4 c4, .int .i64 n4, x113, u114, u115, u116, u117, u118, u119, u120, u121, u122, u123, u124, u125, u126, u127, u128, u129, u130, u131, u132, u133, u134, u135, u136, u137, u138, u139, u140, u141, u142, u143, u144, u145, u146, u147, u148, u149, u150, u151, u152, u153, u154, u155, u156, u157, u158, u159, u160, u161, u162, u163, u164, u165, u166, u167, u168, u169, u170, u171, u172, u173, u174, u175, u176, u177, u178, u179, u180, u181, u182, u183, u184, u185, u186, u187, u188, u189, u190, u191, u192, u193, u194, u195, u196, u197, u198, u199, u200, u201, u202, u203, u204, u205, u206, u207, u208, u209, u210, u211, u212, u213, u214, u215, u216, u217, u218, u219, u220, u221, u222, u223, u224, u225, u226, u227, u228, u229, u230, u231, u232, u233, u234, u235, u236, u237, u238, u239, u240, u241, u242, u243, u244, u245, u246, u247, u248, u249, u250, u251, u252, u253, u254, u255, u256, u257, u258, u259, u260, u261, u262, u263, u264, u265, u266, u267, u268, u269, u270, u271, u272, u273, u274, u275, u276, u277, u278, u279, u280], []⟩
def Wmu (n4 : Nat) (a : Go.Act) (_ : World) : Nat := n4 - (intOf (a.tmps[113]?.getD undef)).toNat
end Go.Proofs.Ytnpjlmeiaegdkaa
