/- Layer 12: may; the document's examples. Layer 12, plain: functions and pairs of types; with a label more. Nodes of whatever memory, as values; slices of them that are copied. A cell of a row of nodes is set. -/
import Derived.Test.YtoieknnnadgfpaaGreatDoorB13
import Derived.Test.YtoieknnnadgfpaaGreatDoorB22
import Derived.Test.YtoieknnnadgfpaaGreatDoorB35
import Derived.Test.YtoieknnnadgfpaaGreatDoorB12
import Derived.Test.YtoieknnnadgfpaaGreatDoorB05
set_option linter.unusedVariables false
namespace Go.Proofs.YtoieknnnadgfpaaGreatDoor.gr
open Go.RowKit Go.Shelf Go.Maps Go.Tre lex
theorem graph_at {w : World} {a : Option Addr} {g : Tre.Graph} (hg : NodesAt w a g.ns) (og : g.Ok) : ∃ b o, a = some ⟨b, o, none⟩ := by
 have h0 : 0 < g.ns.length := by have h1 := og.root0; have h2 := og.root1; omega
 obtain ⟨b, o, e, _⟩ := hg.at_ 0 g.ns[0] (List.getElem?_eq_getElem h0)
 exact ⟨b, o, e⟩
theorem is_at (a b : Option Addr) (ca cb : Nat) (g h : Tre.Graph) (w : World) (hg : NodesAt w a g.ns) (hh : NodesAt w b h.ns) (wg : g.weight ≤ 2097152) (wh : h.weight ≤ 2097152) (ng : g.ns.length ≤ 512) (nh : h.ns.length ≤ 512) (hm : MaxAt w)
  (c0 : g.checkC = 0) (c1 : h.checkC = 0) (s0 : g.Shut) (s1 : h.Shut) :
  Calls Tryz.prog 19 #[.agg #[.slice a g.ns.length ca, .int .i64 g.root], .agg #[.slice b h.ns.length cb, .int .i64 h.root]] w fun e w' => e = .returned (.tuple #[.bool (subB g h), .int .i64 0]) ∧ Below w.heap.size w w' := by
 obtain ⟨b1, o1, rfl⟩ := graph_at hg (Graph.ok_of c0)
 obtain ⟨b2, o2, rfl⟩ := graph_at hh (Graph.ok_of c1)
 exact is_any b1 o1 ca b2 o2 cb g h w hg hh wg wh ng nh hm c0 c1 s0 s1
set_option maxRecDepth 100000 in
theorem mays_any (a b : Option Addr) (ca cb : Nat) (g h : Tre.Graph) (w : World) (hg : NodesAt w a g.ns) (hh : NodesAt w b h.ns) (wg : g.weight ≤ 2097152) (wh : h.weight ≤ 2097152) (ng : g.ns.length ≤ 512) (nh : h.ns.length ≤ 512) (hm : MaxAt w)
  (c0 : g.checkC = 0) (c1 : h.checkC = 0) (s0 : g.Shut) (s1 : h.Shut) :
  Calls Tryz.prog 12 #[.agg #[.slice a g.ns.length ca, .int .i64 g.root], .agg #[.slice b h.ns.length cb, .int .i64 h.root]] w fun e w' => e = .returned (.bool (subB g h)) ∧ Below w.heap.size w w' := by
 have M := ((Mem.nil w).allocR #[.slice a g.ns.length ca, .int .i64 g.root] 24).allocR #[.slice b h.ns.length cb, .int .i64 h.root] 24
 simp only [heapSize_alloc] at M
 have HM := Tre.hid M
 have HIS := Tre.hid (is_at a b ca cb g h _ (hg.below M.below) (hh.below M.below) wg wh ng nh (hm.below M.below) c0 c1 s0 s1)
 obtain ⟨g0, g1⟩ := M.two 1 rfl
 obtain ⟨h0, h1⟩ := M.two 0 rfl
 clear M hg hh hm c0 c1 s0 s1
 go_enter Tryz.func12, Tryz.ntmps12
 go_wp2_with fail
 refine HIS.out.mono ?_
 rintro e w1 ⟨rfl, bq⟩
 have HB := Tre.hid (HM.out.quiet bq).below
 clear bq HIS g0 g1 h0 h1
 obtain ⟨r, hr⟩ : ∃ r, subB g h = r := ⟨_, rfl⟩
 have HR := Tre.hid hr
 rw [hr]
 clear hr
 cases r with
 | false =>
  go_wp2_with fail
  go_ret
  exact ⟨ret_bool HR.out.symm, HB.out⟩
 | true =>
  go_wp2_with fail
  go_ret
  exact ⟨ret_bool HR.out.symm, HB.out⟩
set_option maxRecDepth 100000 in
set_option maxHeartbeats 8000000 in
theorem alive12 (w : World) (E : LexEnv w) : Calls Tryz.prog 8 #[] w fun e w' => e = .returned (.bool true) ∧ Below w.heap.size w w' := by
 have HE := Tre.hid E
 have HM0 := Tre.hid (Mem.nil w)
 clear E
 go_enter Tryz.func8, Tryz.ntmps8
 have R0 := Tre.hid (load.Read_ok ⟨#[60, 32, 109, 32, 58, 32, 105, 110, 116, 32, 59, 32, 110, 32, 58, 32, 105, 110, 116, 32, 62]⟩ _ readsP _ (by decide) (HE.out.below HM0.out.below))
 go_wp2_with fail
 refine R0.out.mono ?_
 rintro e wa0 ⟨va0, ds0, rfl, hds0, mq⟩
 have HN0 := Tre.hid (HM0.out.call mq)
 obtain ⟨a0, c0, rfl, _⟩ := HN0.out.val 0 rfl
 have HD0 := Tre.hid hds0
 have HM1 := Tre.hid (HN0.out.allocR #[.slice a0 ds0.length c0, .int .i64 0] 24)
 clear mq hds0 R0 HN0 HM0
 have R1 := Tre.hid (load.Read_ok ⟨#[60, 32, 109, 32, 58, 32, 105, 110, 116, 32, 62]⟩ _ readsQ _ (by decide) (HE.out.below HM1.out.below))
 go_wp2_with fail
 refine R1.out.mono ?_
 rintro e wa1 ⟨va1, ds1, rfl, hds1, mq⟩
 have HN1 := Tre.hid (HM1.out.call mq)
 obtain ⟨a1, c1, rfl, _⟩ := HN1.out.val 0 rfl
 have HD1 := Tre.hid hds1
 have HM2 := Tre.hid (HN1.out.allocR #[.slice a1 ds1.length c1, .int .i64 0] 24)
 clear mq hds1 R1 HN1 HM1
 have R2 := Tre.hid (load.Read_ok ⟨#[60, 32, 62, 32, 45, 62, 32, 105, 110, 116]⟩ _ readsU _ (by decide) (HE.out.below HM2.out.below))
 go_wp2_with fail
 refine R2.out.mono ?_
 rintro e wa2 ⟨va2, ds2, rfl, hds2, mq⟩
 have HN2 := Tre.hid (HM2.out.call mq)
 obtain ⟨a2, c2, rfl, _⟩ := HN2.out.val 0 rfl
 have HD2 := Tre.hid hds2
 have HM3 := Tre.hid (HN2.out.allocR #[.slice a2 ds2.length c2, .int .i64 0] 24)
 clear mq hds2 R2 HN2 HM2
 have R3 := Tre.hid (load.Read_ok ⟨#[60, 32, 109, 32, 58, 32, 105, 110, 116, 32, 62, 32, 45, 62, 32, 105, 110, 116]⟩ _ readsV _ (by decide) (HE.out.below HM3.out.below))
 go_wp2_with fail
 refine R3.out.mono ?_
 rintro e wa3 ⟨va3, ds3, rfl, hds3, mq⟩
 have HN3 := Tre.hid (HM3.out.call mq)
 obtain ⟨a3, c3, rfl, _⟩ := HN3.out.val 0 rfl
 have HD3 := Tre.hid hds3
 have HM4 := Tre.hid (HN3.out.allocR #[.slice a3 ds3.length c3, .int .i64 0] 24)
 clear mq hds3 R3 HN3 HM3
 have hl0 : ds0.length = (graphOf0 tyP).ns.length := by rw [← HD0.out, List.length_map]
 have HA0 : Hid (NodesAt (wa3.alloc (.cells #[.slice a3 ds3.length c3, .int .i64 0] 24)) a0 (graphOf0 tyP).ns) := by have h := nodes_read (HM4.out.at_ 10 rfl) (HM4.out.at_ 11 rfl); rw [HD0.out] at h; exact h
 obtain ⟨x0, y0⟩ := HM4.out.two 9 rfl
 have hl1 : ds1.length = (graphOf0 tyQ).ns.length := by rw [← HD1.out, List.length_map]
 have HA1 : Hid (NodesAt (wa3.alloc (.cells #[.slice a3 ds3.length c3, .int .i64 0] 24)) a1 (graphOf0 tyQ).ns) := by have h := nodes_read (HM4.out.at_ 7 rfl) (HM4.out.at_ 8 rfl); rw [HD1.out] at h; exact h
 obtain ⟨x1, y1⟩ := HM4.out.two 6 rfl
 have hl2 : ds2.length = (graphOf0 tyU).ns.length := by rw [← HD2.out, List.length_map]
 have HA2 : Hid (NodesAt (wa3.alloc (.cells #[.slice a3 ds3.length c3, .int .i64 0] 24)) a2 (graphOf0 tyU).ns) := by have h := nodes_read (HM4.out.at_ 4 rfl) (HM4.out.at_ 5 rfl); rw [HD2.out] at h; exact h
 obtain ⟨x2, y2⟩ := HM4.out.two 3 rfl
 have hl3 : ds3.length = (graphOf0 tyV).ns.length := by rw [← HD3.out, List.length_map]
 have HA3 : Hid (NodesAt (wa3.alloc (.cells #[.slice a3 ds3.length c3, .int .i64 0] 24)) a3 (graphOf0 tyV).ns) := by have h := nodes_read (HM4.out.at_ 1 rfl) (HM4.out.at_ 2 rfl); rw [HD3.out] at h; exact h
 obtain ⟨x3, y3⟩ := HM4.out.two 0 rfl
 have HI0 : Hid (∀ W, Below w.heap.size w W → NodesAt W a0 (graphOf0 tyP).ns → NodesAt W a1 (graphOf0 tyQ).ns → Calls Tryz.prog 19 #[.agg #[.slice a0 ds0.length c0, .int .i64 0], .agg #[.slice a1 ds1.length c1, .int .i64 0]] W fun e w' => e = .returned (.tuple #[.bool true, .int .i64 0]) ∧ Below W.heap.size W w') := fun W hW h1 h2 => by
  have K := is_at a0 a1 c0 c1 (graphOf0 tyP) (graphOf0 tyQ) W h1 h2 weightP weightQ lenP lenQ (HE.out.max.below hW) okP okQ (shut_of okP freeP) (shut_of okQ freeQ)
  rw [subPQ, rootP, rootQ, ← hl0, ← hl1] at K
  exact K
 have HI1 : Hid (∀ W, Below w.heap.size w W → NodesAt W a1 (graphOf0 tyQ).ns → NodesAt W a0 (graphOf0 tyP).ns → Calls Tryz.prog 19 #[.agg #[.slice a1 ds1.length c1, .int .i64 0], .agg #[.slice a0 ds0.length c0, .int .i64 0]] W fun e w' => e = .returned (.tuple #[.bool false, .int .i64 0]) ∧ Below W.heap.size W w') := fun W hW h1 h2 => by
  have K := is_at a1 a0 c1 c0 (graphOf0 tyQ) (graphOf0 tyP) W h1 h2 weightQ weightP lenQ lenP (HE.out.max.below hW) okQ okP (shut_of okQ freeQ) (shut_of okP freeP)
  rw [subQP, rootQ, rootP, ← hl1, ← hl0] at K
  exact K
 have HI2 : Hid (∀ W, Below w.heap.size w W → NodesAt W a2 (graphOf0 tyU).ns → NodesAt W a3 (graphOf0 tyV).ns → Calls Tryz.prog 19 #[.agg #[.slice a2 ds2.length c2, .int .i64 0], .agg #[.slice a3 ds3.length c3, .int .i64 0]] W fun e w' => e = .returned (.tuple #[.bool true, .int .i64 0]) ∧ Below W.heap.size W w') := fun W hW h1 h2 => by
  have K := is_at a2 a3 c2 c3 (graphOf0 tyU) (graphOf0 tyV) W h1 h2 weightU weightV lenU lenV (HE.out.max.below hW) okU okV (shut_of okU freeU) (shut_of okV freeV)
  rw [subUV, rootU, rootV, ← hl2, ← hl3] at K
  exact K
 clear hl0 hl1 hl2 hl3
 go_wp2_with fail
 refine (HI0.out _ HM4.out.below HA0.out HA1.out).mono ?_
 rintro e w5 ⟨rfl, bq⟩
 have HM5 := Tre.hid (HM4.out.quiet bq)
 have HA0' := Tre.hid (HA0.out.below bq)
 have HA1' := Tre.hid (HA1.out.below bq)
 have HA2' := Tre.hid (HA2.out.below bq)
 have HA3' := Tre.hid (HA3.out.below bq)
 clear bq x0 y0 x1 y1 x2 y2 x3 y3 HI0
 obtain ⟨x0, y0⟩ := HM5.out.two 9 rfl
 obtain ⟨x1, y1⟩ := HM5.out.two 6 rfl
 obtain ⟨x2, y2⟩ := HM5.out.two 3 rfl
 obtain ⟨x3, y3⟩ := HM5.out.two 0 rfl
 go_wp2_with fail
 refine (HI1.out _ HM5.out.below HA1'.out HA0'.out).mono ?_
 rintro e w6 ⟨rfl, bq⟩
 have HM6 := Tre.hid (HM5.out.quiet bq)
 have HA2'' := Tre.hid (HA2'.out.below bq)
 have HA3'' := Tre.hid (HA3'.out.below bq)
 clear bq x0 y0 x1 y1 x2 y2 x3 y3 HI1
 obtain ⟨x0, y0⟩ := HM6.out.two 9 rfl
 obtain ⟨x1, y1⟩ := HM6.out.two 6 rfl
 obtain ⟨x2, y2⟩ := HM6.out.two 3 rfl
 obtain ⟨x3, y3⟩ := HM6.out.two 0 rfl
 go_wp2_with fail
 refine (HI2.out _ HM6.out.below HA2''.out HA3''.out).mono ?_
 rintro e w7 ⟨rfl, bq⟩
 have HB := Tre.hid (HM6.out.quiet bq).below
 clear bq x0 y0 x1 y1 x2 y2 x3 y3 HI2
 go_wp2_with fail
 go_ret
 exact ⟨rfl, HB.out⟩
end Go.Proofs.YtoieknnnadgfpaaGreatDoor.gr
namespace Go.Tre
/-! a constructor of two on top -/
def conN (s : ByteArray) (p q : Int) : Tre.Node := ⟨2, s, [p, q], [], false⟩
section
variable {g h g' h' : Tre.Graph} {s : ByteArray} {p q p' q' : Nat}
theorem con_may {k : Nat} (ha : arity s = some 2) (hp : p < k) (hq : q < k) : mayB (conN s p q) k = true := by
 have h1 : outside k (p : Int) = false := outside_in (by omega) (by omega)
 have h2 : outside k (q : Int) = false := outside_in (by omega) (by omega)
 unfold mayB conN
 simp only [List.any_cons, List.any_nil, h1, h2, ha]
 rfl
theorem con_kid0 : (topG g (conN s p q)).kid g.ns.length 0 = p := by unfold Graph.kid; rw [top_last]; simp [conN]
theorem con_kid1 : (topG g (conN s p q)).kid g.ns.length 1 = q := by unfold Graph.kid; rw [top_last]; simp [conN]
theorem con_sub (og : g.Ok) (oh : h.Ok) (ot : (topG g (conN s p q)).Ok) (ot' : (topG h (conN s p' q')).Ok) (hp : p < g.ns.length) (hq : q < g.ns.length) (hp' : p' < h.ns.length) (hq' : q' < h.ns.length) :
  SubAt (topG g (conN s p q)) (topG h (conN s p' q')) g.ns.length h.ns.length false ↔ SubAt g h p p' (turnB s 0 false) ∧ SubAt g h q q' false := by
 have i1 : ∀ t, SubAt g h p p' t ↔ SubAt (topG g (conN s p q)) (topG h (conN s p' q')) p p' t := fun t => SubAt.sim_iff og oh ot ot' (top_sim og) (top_sim oh) ⟨rfl, hp⟩ ⟨rfl, hp'⟩
 have i2 : ∀ t, SubAt g h q q' t ↔ SubAt (topG g (conN s p q)) (topG h (conN s p' q')) q q' t := fun t => SubAt.sim_iff og oh ot ot' (top_sim og) (top_sim oh) ⟨rfl, hq⟩ ⟨rfl, hq'⟩
 have e1 : turnB s 1 false = false := by simp [turnB]
 have k2 : ((topG g (conN s p q)).nd g.ns.length).kind ≠ 3 := by rw [top_last]; show (2 : Int) ≠ 3; decide
 have hd : (topG g (conN s p q)).deg g.ns.length = 2 := by unfold Graph.deg; rw [top_last]; rfl
 have hs : ((topG g (conN s p q)).nd g.ns.length).name = s := by rw [top_last]; rfl
 constructor
 ·intro u
  constructor
  ·rw [i1]
   exact u.fol (.inr ⟨k2, 0, by rw [hd]; omega, con_kid0.symm, con_kid0.symm, by rw [hs]⟩)
  ·rw [i2]
   exact u.fol (.inr ⟨k2, 1, by rw [hd]; omega, con_kid1.symm, con_kid1.symm, by rw [hs, e1]⟩)
 ·rintro ⟨u1, u2⟩
  refine .mk ⟨by rw [top_last, top_last]; rfl, by rw [top_last, top_last]; rfl, fun e => absurd e k2⟩ (fun a' b' t' f => ?_)
  rcases f with ⟨h3, _⟩ | ⟨_, i, hi, rfl, rfl, rfl⟩
  ·exact absurd h3 k2
  ·rw [hd] at hi
   rw [hs]
   rcases (show i = 0 ∨ i = 1 by omega) with rfl | rfl
   ·rw [con_kid0, con_kid0]; exact (i1 _).1 u1
   ·rw [con_kid1, con_kid1, e1]; exact (i2 _).1 u2
end
/-! nodes behind -/
def shiftN (k : Nat) (n : Tre.Node) : Tre.Node := { n with args := n.args.map fun a => a + (k : Int) }
def joinG (g h : Tre.Graph) : Tre.Graph := ⟨g.ns ++ h.ns.map (shiftN g.ns.length), g.root⟩
section
variable {g h : Tre.Graph}
theorem join_len : (joinG g h).ns.length = g.ns.length + h.ns.length := by simp [joinG]
theorem join_nd1 {a : Nat} (ha : a < g.ns.length) : (joinG g h).nd a = g.nd a := by
 rw [Graph.nd_eq ha, Graph.nd_eq (by rw [join_len]; omega)]
 simp only [joinG]
 rw [List.getElem_append_left ha]
theorem join_nd2 {a : Nat} (ha : a < h.ns.length) : (joinG g h).nd (a + g.ns.length) = shiftN g.ns.length (h.nd a) := by
 rw [Graph.nd_eq ha, Graph.nd_eq (by rw [join_len]; omega)]
 simp only [joinG]
 rw [List.getElem_append_right (by omega), List.getElem_map]
 simp
theorem join_ok (c0 : g.checkC = 0) (c1 : h.checkC = 0) (hn : g.ns.length + h.ns.length ≤ 1048576) : (joinG g h).checkC = 0 := by
 have og := Graph.ok_of c0
 have oh := Graph.ok_of c1
 have h1 := og.root1
 have h0 := og.root0
 refine check_mk (by rw [join_len]; exact hn) h0 (by rw [join_len]; show g.root < _; omega) (fun n hm => ?_)
 rw [join_len]
 rcases List.mem_append.1 hm with hm | hm
 ·exact mayB_mono (by omega) (og.mays n hm)
 ·obtain ⟨x, hx, rfl⟩ := List.mem_map.1 hm
  have h := oh.mays x hx
  unfold mayB at *
  simp only [Bool.and_eq_true, Bool.not_eq_true', List.any_eq_false] at *
  refine ⟨fun y hy => ?_, ?_⟩
  ·simp only [shiftN, List.mem_map] at hy
   obtain ⟨z, hz, rfl⟩ := hy
   have := h.1 z hz
   unfold outside at *
   simp at *
   omega
  ·have := h.2
   simpa [shiftN] using this
theorem join_sim1 (og : g.Ok) : Sim g (joinG g h) (fun a b => a = b ∧ a < g.ns.length) := by
 refine ⟨?_, ?_, ?_, ?_, ?_, ?_⟩
 ·rintro a _ ⟨rfl, h⟩; rw [join_len]; exact ⟨h, by omega⟩
 ·rintro a _ ⟨rfl, h⟩; rw [join_nd1 h]
 ·rintro a _ ⟨rfl, h⟩; rw [join_nd1 h]
 ·rintro a _ ⟨rfl, h⟩; rw [join_nd1 h]
 ·rintro a _ ⟨rfl, h⟩; unfold Graph.deg; rw [join_nd1 h]
 ·rintro a _ i ⟨rfl, h⟩ hi; exact ⟨by unfold Graph.kid; rw [join_nd1 h], og.kid_lt h hi⟩
theorem join_kid2 (oh : h.Ok) {a i : Nat} (ha : a < h.ns.length) (hi : i < h.deg a) : (joinG g h).kid (a + g.ns.length) i = h.kid a i + g.ns.length := by
 obtain ⟨y, hy, ey, _⟩ := oh.arg ha hi
 unfold Graph.kid
 rw [join_nd2 ha, List.getD_eq_getElem?_getD, List.getD_eq_getElem?_getD]
 simp only [shiftN, List.getElem?_map, hy, zqd, Option.getD_some]
 omega
theorem join_sim2 (oh : h.Ok) : Sim h (joinG g h) (fun a b => b = a + g.ns.length ∧ a < h.ns.length) := by
 refine ⟨?_, ?_, ?_, ?_, ?_, ?_⟩
 ·rintro a _ ⟨rfl, h⟩; rw [join_len]; exact ⟨h, by omega⟩
 ·rintro a _ ⟨rfl, h⟩; rw [join_nd2 h]; rfl
 ·rintro a _ ⟨rfl, h⟩; rw [join_nd2 h]; rfl
 ·rintro a _ ⟨rfl, h⟩; rw [join_nd2 h]; rfl
 ·rintro a _ ⟨rfl, h⟩; unfold Graph.deg; rw [join_nd2 h]; simp [shiftN]
 ·rintro a _ i ⟨rfl, h⟩ hi; exact ⟨join_kid2 oh h hi, oh.kid_lt h hi⟩
end
def ofG (s : ByteArray) (g h : Tre.Graph) : Tre.Graph := topG (joinG g h) (conN s (g.root.toNat : Nat) ((h.root.toNat + g.ns.length : Nat)))
section
variable {a b c d : Tre.Graph} {s : ByteArray}
theorem of_ok (hs : arity s = some 2) (ca : a.checkC = 0) (cb : b.checkC = 0) (hn : a.ns.length + b.ns.length + 1 ≤ 1048576) : (ofG s a b).checkC = 0 := by
 have oa := Graph.ok_of ca
 have ob := Graph.ok_of cb
 have h1 := oa.root1
 have h2 := ob.root1
 refine top_ok (join_ok ca cb (by omega)) (con_may hs (by rw [join_len]; omega) (by rw [join_len]; omega)) (by rw [join_len]; exact hn)
theorem sim_shut {g g' : Tre.Graph} {S : Nat → Nat → Prop} (i : Sim g g' S) {x y : Nat} (s : S x y) (hf : ∀ a b, S a b → freeB (g'.nd b) = freeB (g.nd a)) (sg : ∀ z, Rch g x z → freeB (g.nd z) = false) : ∀ z, Rch g' y z → freeB (g'.nd z) = false := by
 intro z hz
 obtain ⟨w, rw_, sw⟩ := i.reach s hz
 rw [hf w z sw]; exact sg w rw_
theorem of_shut (hs : arity s = some 2) (ca : a.checkC = 0) (cb : b.checkC = 0) (hn : a.ns.length + b.ns.length + 1 ≤ 1048576) (sa : a.Shut) (sb : b.Shut) : (ofG s a b).Shut := by
 have oa := Graph.ok_of ca
 have ob := Graph.ok_of cb
 have oj := Graph.ok_of (join_ok (g := a) (h := b) ca cb (by omega))
 have h1 := oa.root1
 have h2 := ob.root1
 have f1 := sim_shut (join_sim1 (h := b) oa) ⟨rfl, h1⟩ (by rintro x _ ⟨rfl, hx⟩; rw [join_nd1 hx]) sa
 have f2 := sim_shut (join_sim2 (g := a) ob) ⟨rfl, h2⟩ (by rintro x _ ⟨rfl, hx⟩; rw [join_nd2 hx]; rfl) sb
 have key : ∀ z, Rch (ofG s a b) (ofG s a b).root.toNat z → z = (joinG a b).ns.length ∨ (z < (joinG a b).ns.length ∧ (Rch (joinG a b) a.root.toNat z ∨ Rch (joinG a b) (b.root.toNat + a.ns.length) z)) := by
  intro z hz
  unfold ofG at hz
  rw [top_root] at hz
  induction hz with
  | refl => exact .inl rfl
  | @step y z hy hz ih =>
   rcases ih with rfl | ⟨hl, ih⟩
   ·unfold Graph.kids at hz
    rw [top_last] at hz
    simp only [conN, List.map_cons, List.map_nil, Int.toNat_natCast, List.mem_cons, List.not_mem_nil, or_false] at hz
    rcases hz with rfl | rfl
    ·exact .inr ⟨by rw [join_len]; omega, .inl .refl⟩
    ·exact .inr ⟨by rw [join_len]; omega, .inr .refl⟩
   ·have hz' : z ∈ (joinG a b).kids y := by unfold Graph.kids at hz ⊢; rwa [top_nd hl] at hz
    exact .inr ⟨oj.kids_lt hl z hz', ih.imp (fun r => r.step hz') (fun r => r.step hz')⟩
 intro z hz
 rcases key z hz with rfl | ⟨hl, hr⟩
 ·unfold ofG; rw [top_last]; rfl
 ·unfold ofG
  rw [top_nd hl]
  exact hr.elim (f1 z) (f2 z)
theorem of_sub (hs : arity s = some 2) (ca : a.checkC = 0) (cb : b.checkC = 0) (cc : c.checkC = 0) (cd : d.checkC = 0) (hn : a.ns.length + b.ns.length + 1 ≤ 1048576) (hm : c.ns.length + d.ns.length + 1 ≤ 1048576) :
  subB (ofG s a b) (ofG s c d) = ((if s = arrowB then subB c a else subB a c) && subB b d) := by
 have oa := Graph.ok_of ca
 have ob := Graph.ok_of cb
 have oc := Graph.ok_of cc
 have od := Graph.ok_of cd
 have o1 := Graph.ok_of (join_ok (g := a) (h := b) ca cb (by omega))
 have o2 := Graph.ok_of (join_ok (g := c) (h := d) cc cd (by omega))
 have t1 := Graph.ok_of (of_ok hs ca cb hn)
 have t2 := Graph.ok_of (of_ok hs cc cd hm)
 have ha := oa.root1
 have hb := ob.root1
 have hc := oc.root1
 have hd := od.root1
 have k1 : ∀ t, SubAt a c a.root.toNat c.root.toNat t ↔ SubAt (joinG a b) (joinG c d) a.root.toNat c.root.toNat t := fun t => SubAt.sim_iff oa oc o1 o2 (join_sim1 oa) (join_sim1 oc) ⟨rfl, ha⟩ ⟨rfl, hc⟩
 have k2 : ∀ t, SubAt b d b.root.toNat d.root.toNat t ↔ SubAt (joinG a b) (joinG c d) (b.root.toNat + a.ns.length) (d.root.toNat + c.ns.length) t := fun t => SubAt.sim_iff ob od o1 o2 (join_sim2 ob) (join_sim2 od) ⟨rfl, hb⟩ ⟨rfl, hd⟩
 have key := con_sub (g := joinG a b) (h := joinG c d) (s := s) (p := a.root.toNat) (q := b.root.toNat + a.ns.length) (p' := c.root.toNat) (q' := d.root.toNat + c.ns.length) o1 o2 t1 t2 (by rw [join_len]; omega) (by rw [join_len]; omega) (by rw [join_len]; omega) (by rw [join_len]; omega)
 rw [Bool.eq_iff_iff, Bool.and_eq_true, subB_iff, subB_iff]
 unfold ofG
 rw [top_root, top_root, key, ← k1, ← k2]
 by_cases e : s = arrowB
 ·rw [if_pos e, subB_iff]
  have : turnB s 0 false = true := by simp [turnB, e]
  rw [this]
  exact and_congr_left fun _ => ⟨fun u => by have := u.flip oa oc ha hc; simpa using this, fun u => by have := u.flip oc oa hc ha; simpa using this⟩
 ·rw [if_neg e, subB_iff]
  have : turnB s 0 false = false := by simp [turnB, e]
  rw [this]
theorem arity_star : arity starB = some 2 := by decide
theorem arity_arrow : arity arrowB = some 2 := by decide
end
/-! a function that takes it, one that gives it -/
def intB : ByteArray := ⟨#[105, 110, 116]⟩
def intN : Tre.Node := ⟨2, intB, [], [], false⟩
def midG (g : Tre.Graph) : Tre.Graph := ⟨g.ns ++ [intN], g.root⟩
def funG (g : Tre.Graph) (gives : Bool) : Tre.Graph := topG (midG g) (if gives then conN arrowB (g.ns.length : Nat) (g.root.toNat : Nat) else conN arrowB (g.root.toNat : Nat) (g.ns.length : Nat))
section
variable {g h : Tre.Graph}
end
/-! with a label more -/
def moreN (n : Tre.Node) (i : Nat) (s : ByteArray) (a : Int) : Tre.Node := ⟨3, ByteArray.empty, n.args.insertIdx i a, n.labels.insertIdx i s, false⟩
section
variable {g h : Tre.Graph} {i : Nat} {s : ByteArray}
def moreG (g : Tre.Graph) (i : Nat) (s : ByteArray) : Tre.Graph := topG g (moreN (g.nd g.root.toNat) i s g.root)
end
end Go.Tre
namespace Go.Proofs.YtoieknnnadgfpaaGreatDoor.gr
open Go.RowKit Go.Shelf Go.Maps Go.Tre lex
def NodeVal (w : World) (d : NodeV) : Prop :=
 ∃ aa ca al cl, d.va = .slice aa d.n.args.length ca ∧ d.vl = .slice al d.n.labels.length cl ∧ IntsAt w aa d.n.args ∧ StrsAt w al d.n.labels ∧ d.n.args.length ≤ ca ∧ d.n.labels.length ≤ cl
theorem NodeVal.below {w w' : World} {d : NodeV} (h : NodeVal w d) (b : Below w.heap.size w w') : NodeVal w' d := by
 obtain ⟨aa, ca, al, cl, h1, h2, h3, h4, h5, h6⟩ := h
 exact ⟨aa, ca, al, cl, h1, h2, h3.below b, h4.below b, h5, h6⟩
theorem NodeVal.kids {w : World} {d : NodeV} (h : ∀ r ∈ kids d, r.P w) : NodeVal w d := by
 obtain ⟨aa, ca, ea, la, ra⟩ := row_read (h _ (by simp [gr.kids]) : (rowR 3 1 d.va d.n.args.length (d.n.args.map (Value.int .i64))).P w)
 obtain ⟨al, cl, el, ll, rl⟩ := row_read (h _ (by simp [gr.kids]) : (rowR 9 1 d.vl d.n.labels.length (d.n.labels.map Value.string)).P w)
 exact ⟨aa, ca, al, cl, ea, el, ra, rl, la, ll⟩
theorem nodeAt_of {w : World} {b p : Nat} {d : NodeV} (hv : NodeVal w d) (hc : ∀ j, j < 5 → w.cell? ⟨b, p + j, none⟩ = d.cells[j]?) : NodeAt w b p d.n := by
 obtain ⟨aa, ca, al, cl, ea, el, ra, rl, la, ll⟩ := hv
 refine ⟨aa, ca, al, cl, (hc 0 (by omega)).trans rfl, (hc 1 (by omega)).trans rfl, ?_, ?_, (hc 4 (by omega)).trans rfl, ra, rl, la, ll⟩
 ·rw [← ea]; exact (hc 2 (by omega)).trans rfl
 ·rw [← el]; exact (hc 3 (by omega)).trans rfl
theorem nodesAt_of {w : World} {a : Option Addr} {c : Nat} {ds : List NodeV} (h : (nodesR (.slice a ds.length c) ds).P w) (hv : ∀ d ∈ ds, NodeVal w d) : NodesAt w a (ds.map NodeV.n) := by
 refine ⟨fun k n hn => ?_⟩
 rw [List.getElem?_map] at hn
 obtain ⟨d, hd, rfl⟩ := Option.map_eq_some_iff.1 hn
 obtain ⟨a', c', e, _, hrow⟩ := row_read (show w.ownsRow 0 _ 5 (.slice a _ c) _ _ from h)
 cases e
 obtain ⟨b, off, e0, _⟩ := hrow.at_ (k * 5 + 0) _ ((cells_at ds k 0 d hd (by omega)).trans rfl)
 refine ⟨b, off, e0, nodeAt_of (hv d (List.mem_of_getElem? hd)) (fun j hj => ?_)⟩
 have hl : j < d.cells.length := hj
 obtain ⟨b', off', e', c'⟩ := hrow.at_ (k * 5 + j) d.cells[j] ((cells_at ds k j d hd hj).trans (List.getElem?_eq_getElem hl))
 rw [e0] at e'
 cases e'
 rw [Nat.add_assoc, c', List.getElem?_eq_getElem hl]
theorem nodes_vals {w : World} {b off : Nat} {ns : List Tre.Node} (h : NodesAt w (some ⟨b, off, none⟩) ns) :
  ∃ ds : List NodeV, ds.map NodeV.n = ns ∧ (∀ j u, (ds.flatMap NodeV.cells)[j]? = some u → w.cell? ⟨b, off + j, none⟩ = some u) ∧ ∀ d ∈ ds, NodeVal w d := by
 have step : ∀ (k : Nat) (n : Tre.Node), ns[k]? = some n → ∃ d : NodeV, d.n = n ∧ NodeVal w d ∧ ∀ j, j < 5 → w.cell? ⟨b, off + k * 5 + j, none⟩ = d.cells[j]? := by
  intro k n hn
  obtain ⟨b', off', e, aa, ca, al, cl, h0, h1, h2, h3, h4, h5, h6, h7, h8⟩ := h.at_ k n hn
  cases e
  refine ⟨⟨n, .slice aa n.args.length ca, .slice al n.labels.length cl⟩, rfl, ⟨aa, ca, al, cl, rfl, rfl, h5, h6, h7, h8⟩, fun j hj => ?_⟩
  match j, hj with
  | 0, _ => exact h0
  | 1, _ => exact h1
  | 2, _ => exact h2
  | 3, _ => exact h3
  | 4, _ => exact h4
 have all : ∀ m, m ≤ ns.length → ∃ ds : List NodeV, ds.map NodeV.n = ns.take m ∧ (∀ k d, ds[k]? = some d → ∀ j, j < 5 → w.cell? ⟨b, off + k * 5 + j, none⟩ = d.cells[j]?) ∧ ∀ d ∈ ds, NodeVal w d := by
  intro m
  induction m with
  | zero => intro _; exact ⟨[], by simp, by simp, by simp⟩
  | succ m ih =>
   intro hm
   obtain ⟨ds, h1, h2, h3⟩ := ih (by omega)
   obtain ⟨d, e, hv, hc⟩ := step m ns[m] (List.getElem?_eq_getElem (by omega))
   have hl : ds.length = m := by have := congrArg List.length h1; simp at this; omega
   refine ⟨ds ++ [d], ?_, fun k d' hk j hj => ?_, fun d' hd' => ?_⟩
   ·rw [List.map_append, h1, List.take_add_one, List.getElem?_eq_getElem (by omega), List.map_singleton, e]; rfl
   ·by_cases hkl : k < ds.length
    ·rw [List.getElem?_append_left hkl] at hk
     exact h2 k d' hk j hj
    ·have hkm : k = m := by
      have := (List.getElem?_eq_some_iff.1 hk).1
      simp at this
      omega
     subst hkm
     rw [List.getElem?_append_right (by omega), hl, Nat.sub_self] at hk
     cases hk
     exact hc j hj
   ·rcases List.mem_append.1 hd' with h | h
    ·exact h3 d' h
    ·simp at h; subst h; exact hv
 obtain ⟨ds, h1, h2, h3⟩ := all ns.length (Nat.le_refl _)
 refine ⟨ds, by rw [h1, List.take_length], fun j u hu => ?_, h3⟩
 have hj := (List.getElem?_eq_some_iff.1 hu).1
 rw [cells_len] at hj
 have hk : j / 5 < ds.length := by omega
 have hd : ds[j / 5]? = some ds[j / 5] := List.getElem?_eq_getElem hk
 have e : j = j / 5 * 5 + j % 5 := by omega
 rw [e] at hu ⊢
 rw [cells_at ds (j / 5) (j % 5) _ hd (by omega)] at hu
 rw [← Nat.add_assoc]
 exact (h2 _ _ hd _ (by omega)).trans hu
theorem cells_one (ds : List NodeV) : (∀ d ∈ ds, ∃ w, NodeVal w d) → ∀ u ∈ ds.flatMap NodeV.cells, u.oneCell' = true := by
 intro h u hu
 obtain ⟨d, hd, hu⟩ := List.mem_flatMap.1 hu
 obtain ⟨w, aa, ca, al, cl, e1, e2, _⟩ := h d hd
 simp only [NodeV.cells, List.mem_cons, List.not_mem_nil, or_false] at hu
 rcases hu with rfl | rfl | rfl | rfl | rfl
 ·rfl
 ·rfl
 ·rw [e1]; rfl
 ·rw [e2]; rfl
 ·rfl
theorem add_plain (b off j : Nat) : (⟨b, off, none⟩ : Addr).add j = ⟨b, off + j, none⟩ := by
 unfold Addr.add
 by_cases h : j = 0 <;> simp [h]
end Go.Proofs.YtoieknnnadgfpaaGreatDoor.gr
namespace Go.Proofs.YtoieknnnadgfpaaGreatDoor.gr
open Go.RowKit Go.Shelf Go.Maps Go.Tre lex
theorem cells_set (ds : List NodeV) (k j : Nat) (d d' : NodeV) (u : Value) (hd : ds[k]? = some d) (hj : j < 5) (hc : d.cells.set j u = d'.cells) : (ds.flatMap NodeV.cells).set (k * 5 + j) u = (ds.set k d').flatMap NodeV.cells := by
 refine List.ext_getElem? (fun i => ?_)
 have hk := (List.getElem?_eq_some_iff.1 hd).1
 have e : i = i / 5 * 5 + i % 5 := by omega
 have h5 : i % 5 < 5 := by omega
 by_cases hi : i / 5 < ds.length
 ·have hx : ds[i / 5]? = some ds[i / 5] := List.getElem?_eq_getElem hi
  rw [List.getElem?_set, cells_len]
  by_cases hik : i / 5 = k
  ·have hset : (ds.set k d')[i / 5]? = some d' := by rw [hik, List.getElem?_set, if_pos rfl, if_pos hk]
   have h2 := cells_at (ds.set k d') (i / 5) (i % 5) d' hset h5
   rw [← e] at h2
   have h1 := cells_at ds (i / 5) (i % 5) d (by rw [hik]; exact hd) h5
   rw [← e] at h1
   rw [h2, ← hc, List.getElem?_set]
   have hl : d.cells.length = 5 := rfl
   by_cases hij : j = i % 5
   ·rw [if_pos (by omega), if_pos (by omega), if_pos hij, if_pos (by omega)]
   ·rw [if_neg (by omega), if_neg hij, h1]
  ·have hset : (ds.set k d')[i / 5]? = some ds[i / 5] := by rw [List.getElem?_set, if_neg (fun h => hik h.symm)]; exact hx
   have h2 := cells_at (ds.set k d') (i / 5) (i % 5) _ hset h5
   rw [← e] at h2
   have h1 := cells_at ds (i / 5) (i % 5) _ hx h5
   rw [← e] at h1
   rw [if_neg (by omega), h1, h2]
 ·rw [List.getElem?_eq_none (by rw [List.length_set, cells_len]; omega), List.getElem?_eq_none (by rw [cells_len, List.length_set]; omega)]
end Go.Proofs.YtoieknnnadgfpaaGreatDoor.gr
