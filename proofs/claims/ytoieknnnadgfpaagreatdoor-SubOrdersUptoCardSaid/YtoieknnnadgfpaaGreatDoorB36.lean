/- Layer 12: may; the document's examples. Layer 12, plain: functions and pairs of types; with a label more. -/
import Derived.Test.YtoieknnnadgfpaaGreatDoorB13
import Derived.Test.YtoieknnnadgfpaaGreatDoorB22
import Derived.Test.YtoieknnnadgfpaaGreatDoorB35
import Derived.Test.YtoieknnnadgfpaaGreatDoorB12
set_option linter.unusedVariables false
namespace Go.Proofs.YtoieknnnadgfpaaGreatDoor.gr
open Go.RowKit Go.Shelf Go.Maps Go.Tre lex
theorem graph_at {w : World} {a : Option Addr} {g : Tre.Graph} (hg : NodesAt w a g.ns) (og : g.Ok) : ∃ b o, a = some ⟨b, o, none⟩ := by
 have h0 : 0 < g.ns.length := by have h1 := og.root0; have h2 := og.root1; omega
 obtain ⟨b, o, e, _⟩ := hg.at_ 0 g.ns[0] (List.getElem?_eq_getElem h0)
 exact ⟨b, o, e⟩
theorem is_at (a b : Option Addr) (ca cb : Nat) (g h : Tre.Graph) (w : World) (hg : NodesAt w a g.ns) (hh : NodesAt w b h.ns) (wg : g.weight ≤ 2097152) (wh : h.weight ≤ 2097152) (ng : g.ns.length ≤ 512) (nh : h.ns.length ≤ 512) (hm : MaxAt w)
  (c0 : g.checkC = 0) (c1 : h.checkC = 0) (s0 : g.Shut) (s1 : h.Shut) :
  Calls Tryz.prog 19 #[.agg #[.slice a g.ns.length ca, .int .i64 g.root], .agg #[.slice b h.ns.length cb, .int .i64 h.root]] w fun e w' => e = .returned (.tuple #[.bool (subB g h), .int .i64 0]) ∧ Below w.heap.size w w' := by
 obtain ⟨b1, o1, rfl⟩ := graph_at hg (Graph.ok_of c0)
 obtain ⟨b2, o2, rfl⟩ := graph_at hh (Graph.ok_of c1)
 exact is_any b1 o1 ca b2 o2 cb g h w hg hh wg wh ng nh hm c0 c1 s0 s1
set_option maxRecDepth 100000 in
theorem mays_any (a b : Option Addr) (ca cb : Nat) (g h : Tre.Graph) (w : World) (hg : NodesAt w a g.ns) (hh : NodesAt w b h.ns) (wg : g.weight ≤ 2097152) (wh : h.weight ≤ 2097152) (ng : g.ns.length ≤ 512) (nh : h.ns.length ≤ 512) (hm : MaxAt w)
  (c0 : g.checkC = 0) (c1 : h.checkC = 0) (s0 : g.Shut) (s1 : h.Shut) :
  Calls Tryz.prog 12 #[.agg #[.slice a g.ns.length ca, .int .i64 g.root], .agg #[.slice b h.ns.length cb, .int .i64 h.root]] w fun e w' => e = .returned (.bool (subB g h)) ∧ Below w.heap.size w w' := by
 have M := ((Mem.nil w).allocR #[.slice a g.ns.length ca, .int .i64 g.root] 24).allocR #[.slice b h.ns.length cb, .int .i64 h.root] 24
 simp only [heapSize_alloc] at M
 have HM := Tre.hid M
 have HIS := Tre.hid (is_at a b ca cb g h _ (hg.below M.below) (hh.below M.below) wg wh ng nh (hm.below M.below) c0 c1 s0 s1)
 obtain ⟨g0, g1⟩ := M.two 1 rfl
 obtain ⟨h0, h1⟩ := M.two 0 rfl
 clear M hg hh hm c0 c1 s0 s1
 go_enter Tryz.func12, Tryz.ntmps12
 go_wp2_with fail
 refine HIS.out.mono ?_
 rintro e w1 ⟨rfl, bq⟩
 have HB := Tre.hid (HM.out.quiet bq).below
 clear bq HIS g0 g1 h0 h1
 obtain ⟨r, hr⟩ : ∃ r, subB g h = r := ⟨_, rfl⟩
 have HR := Tre.hid hr
 rw [hr]
 clear hr
 cases r with
 | false =>
  go_wp2_with fail
  go_ret
  exact ⟨ret_bool HR.out.symm, HB.out⟩
 | true =>
  go_wp2_with fail
  go_ret
  exact ⟨ret_bool HR.out.symm, HB.out⟩
set_option maxRecDepth 100000 in
set_option maxHeartbeats 8000000 in
theorem alive12 (w : World) (E : LexEnv w) : Calls Tryz.prog 8 #[] w fun e w' => e = .returned (.bool true) ∧ Below w.heap.size w w' := by
 have HE := Tre.hid E
 have HM0 := Tre.hid (Mem.nil w)
 clear E
 go_enter Tryz.func8, Tryz.ntmps8
 have R0 := Tre.hid (load.Read_ok ⟨#[60, 32, 109, 32, 58, 32, 105, 110, 116, 32, 59, 32, 110, 32, 58, 32, 105, 110, 116, 32, 62]⟩ _ readsP _ (by decide) (HE.out.below HM0.out.below))
 go_wp2_with fail
 refine R0.out.mono ?_
 rintro e wa0 ⟨va0, ds0, rfl, hds0, mq⟩
 have HN0 := Tre.hid (HM0.out.call mq)
 obtain ⟨a0, c0, rfl, _⟩ := HN0.out.val 0 rfl
 have HD0 := Tre.hid hds0
 have HM1 := Tre.hid (HN0.out.allocR #[.slice a0 ds0.length c0, .int .i64 0] 24)
 clear mq hds0 R0 HN0 HM0
 have R1 := Tre.hid (load.Read_ok ⟨#[60, 32, 109, 32, 58, 32, 105, 110, 116, 32, 62]⟩ _ readsQ _ (by decide) (HE.out.below HM1.out.below))
 go_wp2_with fail
 refine R1.out.mono ?_
 rintro e wa1 ⟨va1, ds1, rfl, hds1, mq⟩
 have HN1 := Tre.hid (HM1.out.call mq)
 obtain ⟨a1, c1, rfl, _⟩ := HN1.out.val 0 rfl
 have HD1 := Tre.hid hds1
 have HM2 := Tre.hid (HN1.out.allocR #[.slice a1 ds1.length c1, .int .i64 0] 24)
 clear mq hds1 R1 HN1 HM1
 have R2 := Tre.hid (load.Read_ok ⟨#[60, 32, 62, 32, 45, 62, 32, 105, 110, 116]⟩ _ readsU _ (by decide) (HE.out.below HM2.out.below))
 go_wp2_with fail
 refine R2.out.mono ?_
 rintro e wa2 ⟨va2, ds2, rfl, hds2, mq⟩
 have HN2 := Tre.hid (HM2.out.call mq)
 obtain ⟨a2, c2, rfl, _⟩ := HN2.out.val 0 rfl
 have HD2 := Tre.hid hds2
 have HM3 := Tre.hid (HN2.out.allocR #[.slice a2 ds2.length c2, .int .i64 0] 24)
 clear mq hds2 R2 HN2 HM2
 have R3 := Tre.hid (load.Read_ok ⟨#[60, 32, 109, 32, 58, 32, 105, 110, 116, 32, 62, 32, 45, 62, 32, 105, 110, 116]⟩ _ readsV _ (by decide) (HE.out.below HM3.out.below))
 go_wp2_with fail
 refine R3.out.mono ?_
 rintro e wa3 ⟨va3, ds3, rfl, hds3, mq⟩
 have HN3 := Tre.hid (HM3.out.call mq)
 obtain ⟨a3, c3, rfl, _⟩ := HN3.out.val 0 rfl
 have HD3 := Tre.hid hds3
 have HM4 := Tre.hid (HN3.out.allocR #[.slice a3 ds3.length c3, .int .i64 0] 24)
 clear mq hds3 R3 HN3 HM3
 have hl0 : ds0.length = (graphOf0 tyP).ns.length := by rw [← HD0.out, List.length_map]
 have HA0 : Hid (NodesAt (wa3.alloc (.cells #[.slice a3 ds3.length c3, .int .i64 0] 24)) a0 (graphOf0 tyP).ns) := by have h := nodes_read (HM4.out.at_ 10 rfl) (HM4.out.at_ 11 rfl); rw [HD0.out] at h; exact h
 obtain ⟨x0, y0⟩ := HM4.out.two 9 rfl
 have hl1 : ds1.length = (graphOf0 tyQ).ns.length := by rw [← HD1.out, List.length_map]
 have HA1 : Hid (NodesAt (wa3.alloc (.cells #[.slice a3 ds3.length c3, .int .i64 0] 24)) a1 (graphOf0 tyQ).ns) := by have h := nodes_read (HM4.out.at_ 7 rfl) (HM4.out.at_ 8 rfl); rw [HD1.out] at h; exact h
 obtain ⟨x1, y1⟩ := HM4.out.two 6 rfl
 have hl2 : ds2.length = (graphOf0 tyU).ns.length := by rw [← HD2.out, List.length_map]
 have HA2 : Hid (NodesAt (wa3.alloc (.cells #[.slice a3 ds3.length c3, .int .i64 0] 24)) a2 (graphOf0 tyU).ns) := by have h := nodes_read (HM4.out.at_ 4 rfl) (HM4.out.at_ 5 rfl); rw [HD2.out] at h; exact h
 obtain ⟨x2, y2⟩ := HM4.out.two 3 rfl
 have hl3 : ds3.length = (graphOf0 tyV).ns.length := by rw [← HD3.out, List.length_map]
 have HA3 : Hid (NodesAt (wa3.alloc (.cells #[.slice a3 ds3.length c3, .int .i64 0] 24)) a3 (graphOf0 tyV).ns) := by have h := nodes_read (HM4.out.at_ 1 rfl) (HM4.out.at_ 2 rfl); rw [HD3.out] at h; exact h
 obtain ⟨x3, y3⟩ := HM4.out.two 0 rfl
 have HI0 : Hid (∀ W, Below w.heap.size w W → NodesAt W a0 (graphOf0 tyP).ns → NodesAt W a1 (graphOf0 tyQ).ns → Calls Tryz.prog 19 #[.agg #[.slice a0 ds0.length c0, .int .i64 0], .agg #[.slice a1 ds1.length c1, .int .i64 0]] W fun e w' => e = .returned (.tuple #[.bool true, .int .i64 0]) ∧ Below W.heap.size W w') := fun W hW h1 h2 => by
  have K := is_at a0 a1 c0 c1 (graphOf0 tyP) (graphOf0 tyQ) W h1 h2 weightP weightQ lenP lenQ (HE.out.max.below hW) okP okQ (shut_of okP freeP) (shut_of okQ freeQ)
  rw [subPQ, rootP, rootQ, ← hl0, ← hl1] at K
  exact K
 have HI1 : Hid (∀ W, Below w.heap.size w W → NodesAt W a1 (graphOf0 tyQ).ns → NodesAt W a0 (graphOf0 tyP).ns → Calls Tryz.prog 19 #[.agg #[.slice a1 ds1.length c1, .int .i64 0], .agg #[.slice a0 ds0.length c0, .int .i64 0]] W fun e w' => e = .returned (.tuple #[.bool false, .int .i64 0]) ∧ Below W.heap.size W w') := fun W hW h1 h2 => by
  have K := is_at a1 a0 c1 c0 (graphOf0 tyQ) (graphOf0 tyP) W h1 h2 weightQ weightP lenQ lenP (HE.out.max.below hW) okQ okP (shut_of okQ freeQ) (shut_of okP freeP)
  rw [subQP, rootQ, rootP, ← hl1, ← hl0] at K
  exact K
 have HI2 : Hid (∀ W, Below w.heap.size w W → NodesAt W a2 (graphOf0 tyU).ns → NodesAt W a3 (graphOf0 tyV).ns → Calls Tryz.prog 19 #[.agg #[.slice a2 ds2.length c2, .int .i64 0], .agg #[.slice a3 ds3.length c3, .int .i64 0]] W fun e w' => e = .returned (.tuple #[.bool true, .int .i64 0]) ∧ Below W.heap.size W w') := fun W hW h1 h2 => by
  have K := is_at a2 a3 c2 c3 (graphOf0 tyU) (graphOf0 tyV) W h1 h2 weightU weightV lenU lenV (HE.out.max.below hW) okU okV (shut_of okU freeU) (shut_of okV freeV)
  rw [subUV, rootU, rootV, ← hl2, ← hl3] at K
  exact K
 clear hl0 hl1 hl2 hl3
 go_wp2_with fail
 refine (HI0.out _ HM4.out.below HA0.out HA1.out).mono ?_
 rintro e w5 ⟨rfl, bq⟩
 have HM5 := Tre.hid (HM4.out.quiet bq)
 have HA0' := Tre.hid (HA0.out.below bq)
 have HA1' := Tre.hid (HA1.out.below bq)
 have HA2' := Tre.hid (HA2.out.below bq)
 have HA3' := Tre.hid (HA3.out.below bq)
 clear bq x0 y0 x1 y1 x2 y2 x3 y3 HI0
 obtain ⟨x0, y0⟩ := HM5.out.two 9 rfl
 obtain ⟨x1, y1⟩ := HM5.out.two 6 rfl
 obtain ⟨x2, y2⟩ := HM5.out.two 3 rfl
 obtain ⟨x3, y3⟩ := HM5.out.two 0 rfl
 go_wp2_with fail
 refine (HI1.out _ HM5.out.below HA1'.out HA0'.out).mono ?_
 rintro e w6 ⟨rfl, bq⟩
 have HM6 := Tre.hid (HM5.out.quiet bq)
 have HA2'' := Tre.hid (HA2'.out.below bq)
 have HA3'' := Tre.hid (HA3'.out.below bq)
 clear bq x0 y0 x1 y1 x2 y2 x3 y3 HI1
 obtain ⟨x0, y0⟩ := HM6.out.two 9 rfl
 obtain ⟨x1, y1⟩ := HM6.out.two 6 rfl
 obtain ⟨x2, y2⟩ := HM6.out.two 3 rfl
 obtain ⟨x3, y3⟩ := HM6.out.two 0 rfl
 go_wp2_with fail
 refine (HI2.out _ HM6.out.below HA2''.out HA3''.out).mono ?_
 rintro e w7 ⟨rfl, bq⟩
 have HB := Tre.hid (HM6.out.quiet bq).below
 clear bq x0 y0 x1 y1 x2 y2 x3 y3 HI2
 go_wp2_with fail
 go_ret
 exact ⟨rfl, HB.out⟩
end Go.Proofs.YtoieknnnadgfpaaGreatDoor.gr
namespace Go.Tre
/-! a constructor of two on top -/
def conN (s : ByteArray) (p q : Int) : Tre.Node := ⟨2, s, [p, q], [], false⟩
section
variable {g h g' h' : Tre.Graph} {s : ByteArray} {p q p' q' : Nat}
end
/-! nodes behind -/
def shiftN (k : Nat) (n : Tre.Node) : Tre.Node := { n with args := n.args.map fun a => a + (k : Int) }
def joinG (g h : Tre.Graph) : Tre.Graph := ⟨g.ns ++ h.ns.map (shiftN g.ns.length), g.root⟩
section
variable {g h : Tre.Graph}
end
def ofG (s : ByteArray) (g h : Tre.Graph) : Tre.Graph := topG (joinG g h) (conN s (g.root.toNat : Nat) ((h.root.toNat + g.ns.length : Nat)))
section
variable {a b c d : Tre.Graph} {s : ByteArray}
end
/-! a function that takes it, one that gives it -/
def intB : ByteArray := ⟨#[105, 110, 116]⟩
def intN : Tre.Node := ⟨2, intB, [], [], false⟩
def midG (g : Tre.Graph) : Tre.Graph := ⟨g.ns ++ [intN], g.root⟩
def funG (g : Tre.Graph) (gives : Bool) : Tre.Graph := topG (midG g) (if gives then conN arrowB (g.ns.length : Nat) (g.root.toNat : Nat) else conN arrowB (g.root.toNat : Nat) (g.ns.length : Nat))
section
variable {g h : Tre.Graph}
end
/-! with a label more -/
def moreN (n : Tre.Node) (i : Nat) (s : ByteArray) (a : Int) : Tre.Node := ⟨3, ByteArray.empty, n.args.insertIdx i a, n.labels.insertIdx i s, false⟩
section
variable {g h : Tre.Graph} {i : Nat} {s : ByteArray}
def moreG (g : Tre.Graph) (i : Nat) (s : ByteArray) : Tre.Graph := topG g (moreN (g.nd g.root.toNat) i s g.root)
theorem sub_trans {k : Tre.Graph} (c0 : g.checkC = 0) (c1 : h.checkC = 0) (c2 : k.checkC = 0) (s1 : subB g h = true) (s2 : subB h k = true) : subB g k = true := by
 have og := Graph.ok_of c0
 have oh := Graph.ok_of c1
 have ok := Graph.ok_of c2
 rw [subB_iff] at *
 exact s1.trans og oh ok og.root1 oh.root1 ok.root1 s2
theorem sub_refl (c0 : g.checkC = 0) : subB g g = true := by
 have og := Graph.ok_of c0
 rw [subB_iff]
 exact SubAt.refl og og.root1
end
end Go.Tre
