/- Layer 12: may; the document's examples. Layer 12, plain: functions and pairs of types; with a label more. Layer 12, plain: how a label more comes among labels that rise. Nodes of whatever memory, as values; slices of them that are copied. A cell of a row of nodes is set. inst.Close. Nodes whose arguments are their own, whose labels stand elsewhere; facts that are held beside resources. -/
import Derived.Test.YtoieknnnadgfpaaGreatDoorB12
import Derived.Test.YtoieknnnadgfpaaGreatDoorB21
import Derived.Test.YtoieknnnadgfpaaGreatDoorB34
import Derived.Test.YtoieknnnadgfpaaGreatDoorB11
import Derived.Test.YtoieknnnadgfpaaGreatDoorB05
import Derived.Test.YtoieknnnadgfpaaGreatDoorB07
import Derived.Test.YtoieknnnadgfpaaGreatDoorB30
import Derived.Test.YtoieknnnadgfpaaGreatDoorB08
import Derived.Test.YtoieknnnadgfpaaGreatDoorB03
import Derived.IntWalk
set_option linter.unusedVariables false
namespace Go.Proofs.YtoieknnnadgfpaaGreatDoor.gr
open Go.RowKit Go.Shelf Go.Maps Go.Tre lex
theorem graph_at {w : World} {a : Option Addr} {g : Tre.Graph} (hg : NodesAt w a g.ns) (og : g.Ok) : ∃ b o, a = some ⟨b, o, none⟩ := by
 have h0 : 0 < g.ns.length := by have h1 := og.root0; have h2 := og.root1; omega
 obtain ⟨b, o, e, _⟩ := hg.at_ 0 g.ns[0] (List.getElem?_eq_getElem h0)
 exact ⟨b, o, e⟩
theorem is_at (a b : Option Addr) (ca cb : Nat) (g h : Tre.Graph) (w : World) (hg : NodesAt w a g.ns) (hh : NodesAt w b h.ns) (wg : g.weight ≤ 2097152) (wh : h.weight ≤ 2097152) (ng : g.ns.length ≤ 512) (nh : h.ns.length ≤ 512) (hm : MaxAt w)
  (c0 : g.checkC = 0) (c1 : h.checkC = 0) (s0 : g.Shut) (s1 : h.Shut) :
  Calls Tryz.prog 19 #[.agg #[.slice a g.ns.length ca, .int .i64 g.root], .agg #[.slice b h.ns.length cb, .int .i64 h.root]] w fun e w' => e = .returned (.tuple #[.bool (subB g h), .int .i64 0]) ∧ Below w.heap.size w w' := by
 obtain ⟨b1, o1, rfl⟩ := graph_at hg (Graph.ok_of c0)
 obtain ⟨b2, o2, rfl⟩ := graph_at hh (Graph.ok_of c1)
 exact is_any b1 o1 ca b2 o2 cb g h w hg hh wg wh ng nh hm c0 c1 s0 s1
set_option maxRecDepth 100000 in
theorem mays_any (a b : Option Addr) (ca cb : Nat) (g h : Tre.Graph) (w : World) (hg : NodesAt w a g.ns) (hh : NodesAt w b h.ns) (wg : g.weight ≤ 2097152) (wh : h.weight ≤ 2097152) (ng : g.ns.length ≤ 512) (nh : h.ns.length ≤ 512) (hm : MaxAt w)
  (c0 : g.checkC = 0) (c1 : h.checkC = 0) (s0 : g.Shut) (s1 : h.Shut) :
  Calls Tryz.prog 12 #[.agg #[.slice a g.ns.length ca, .int .i64 g.root], .agg #[.slice b h.ns.length cb, .int .i64 h.root]] w fun e w' => e = .returned (.bool (subB g h)) ∧ Below w.heap.size w w' := by
 have M := ((Mem.nil w).allocR #[.slice a g.ns.length ca, .int .i64 g.root] 24).allocR #[.slice b h.ns.length cb, .int .i64 h.root] 24
 simp only [heapSize_alloc] at M
 have HM := Tre.hid M
 have HIS := Tre.hid (is_at a b ca cb g h _ (hg.below M.below) (hh.below M.below) wg wh ng nh (hm.below M.below) c0 c1 s0 s1)
 obtain ⟨g0, g1⟩ := M.two 1 rfl
 obtain ⟨h0, h1⟩ := M.two 0 rfl
 clear M hg hh hm c0 c1 s0 s1
 go_enter Tryz.func12, Tryz.ntmps12
 go_wp2_with fail
 refine HIS.out.mono ?_
 rintro e w1 ⟨rfl, bq⟩
 have HB := Tre.hid (HM.out.quiet bq).below
 clear bq HIS g0 g1 h0 h1
 obtain ⟨r, hr⟩ : ∃ r, subB g h = r := ⟨_, rfl⟩
 have HR := Tre.hid hr
 rw [hr]
 clear hr
 cases r with
 | false =>
  go_wp2_with fail
  go_ret
  exact ⟨ret_bool HR.out.symm, HB.out⟩
 | true =>
  go_wp2_with fail
  go_ret
  exact ⟨ret_bool HR.out.symm, HB.out⟩
set_option maxRecDepth 100000 in
set_option maxHeartbeats 8000000 in
theorem alive12 (w : World) (E : LexEnv w) : Calls Tryz.prog 8 #[] w fun e w' => e = .returned (.bool true) ∧ Below w.heap.size w w' := by
 have HE := Tre.hid E
 have HM0 := Tre.hid (Mem.nil w)
 clear E
 go_enter Tryz.func8, Tryz.ntmps8
 have R0 := Tre.hid (load.Read_ok ⟨#[60, 32, 109, 32, 58, 32, 105, 110, 116, 32, 59, 32, 110, 32, 58, 32, 105, 110, 116, 32, 62]⟩ _ readsP _ (by decide) (HE.out.below HM0.out.below))
 go_wp2_with fail
 refine R0.out.mono ?_
 rintro e wa0 ⟨va0, ds0, rfl, hds0, mq⟩
 have HN0 := Tre.hid (HM0.out.call mq)
 obtain ⟨a0, c0, rfl, _⟩ := HN0.out.val 0 rfl
 have HD0 := Tre.hid hds0
 have HM1 := Tre.hid (HN0.out.allocR #[.slice a0 ds0.length c0, .int .i64 0] 24)
 clear mq hds0 R0 HN0 HM0
 have R1 := Tre.hid (load.Read_ok ⟨#[60, 32, 109, 32, 58, 32, 105, 110, 116, 32, 62]⟩ _ readsQ _ (by decide) (HE.out.below HM1.out.below))
 go_wp2_with fail
 refine R1.out.mono ?_
 rintro e wa1 ⟨va1, ds1, rfl, hds1, mq⟩
 have HN1 := Tre.hid (HM1.out.call mq)
 obtain ⟨a1, c1, rfl, _⟩ := HN1.out.val 0 rfl
 have HD1 := Tre.hid hds1
 have HM2 := Tre.hid (HN1.out.allocR #[.slice a1 ds1.length c1, .int .i64 0] 24)
 clear mq hds1 R1 HN1 HM1
 have R2 := Tre.hid (load.Read_ok ⟨#[60, 32, 62, 32, 45, 62, 32, 105, 110, 116]⟩ _ readsU _ (by decide) (HE.out.below HM2.out.below))
 go_wp2_with fail
 refine R2.out.mono ?_
 rintro e wa2 ⟨va2, ds2, rfl, hds2, mq⟩
 have HN2 := Tre.hid (HM2.out.call mq)
 obtain ⟨a2, c2, rfl, _⟩ := HN2.out.val 0 rfl
 have HD2 := Tre.hid hds2
 have HM3 := Tre.hid (HN2.out.allocR #[.slice a2 ds2.length c2, .int .i64 0] 24)
 clear mq hds2 R2 HN2 HM2
 have R3 := Tre.hid (load.Read_ok ⟨#[60, 32, 109, 32, 58, 32, 105, 110, 116, 32, 62, 32, 45, 62, 32, 105, 110, 116]⟩ _ readsV _ (by decide) (HE.out.below HM3.out.below))
 go_wp2_with fail
 refine R3.out.mono ?_
 rintro e wa3 ⟨va3, ds3, rfl, hds3, mq⟩
 have HN3 := Tre.hid (HM3.out.call mq)
 obtain ⟨a3, c3, rfl, _⟩ := HN3.out.val 0 rfl
 have HD3 := Tre.hid hds3
 have HM4 := Tre.hid (HN3.out.allocR #[.slice a3 ds3.length c3, .int .i64 0] 24)
 clear mq hds3 R3 HN3 HM3
 have hl0 : ds0.length = (graphOf0 tyP).ns.length := by rw [← HD0.out, List.length_map]
 have HA0 : Hid (NodesAt (wa3.alloc (.cells #[.slice a3 ds3.length c3, .int .i64 0] 24)) a0 (graphOf0 tyP).ns) := by have h := nodes_read (HM4.out.at_ 10 rfl) (HM4.out.at_ 11 rfl); rw [HD0.out] at h; exact h
 obtain ⟨x0, y0⟩ := HM4.out.two 9 rfl
 have hl1 : ds1.length = (graphOf0 tyQ).ns.length := by rw [← HD1.out, List.length_map]
 have HA1 : Hid (NodesAt (wa3.alloc (.cells #[.slice a3 ds3.length c3, .int .i64 0] 24)) a1 (graphOf0 tyQ).ns) := by have h := nodes_read (HM4.out.at_ 7 rfl) (HM4.out.at_ 8 rfl); rw [HD1.out] at h; exact h
 obtain ⟨x1, y1⟩ := HM4.out.two 6 rfl
 have hl2 : ds2.length = (graphOf0 tyU).ns.length := by rw [← HD2.out, List.length_map]
 have HA2 : Hid (NodesAt (wa3.alloc (.cells #[.slice a3 ds3.length c3, .int .i64 0] 24)) a2 (graphOf0 tyU).ns) := by have h := nodes_read (HM4.out.at_ 4 rfl) (HM4.out.at_ 5 rfl); rw [HD2.out] at h; exact h
 obtain ⟨x2, y2⟩ := HM4.out.two 3 rfl
 have hl3 : ds3.length = (graphOf0 tyV).ns.length := by rw [← HD3.out, List.length_map]
 have HA3 : Hid (NodesAt (wa3.alloc (.cells #[.slice a3 ds3.length c3, .int .i64 0] 24)) a3 (graphOf0 tyV).ns) := by have h := nodes_read (HM4.out.at_ 1 rfl) (HM4.out.at_ 2 rfl); rw [HD3.out] at h; exact h
 obtain ⟨x3, y3⟩ := HM4.out.two 0 rfl
 have HI0 : Hid (∀ W, Below w.heap.size w W → NodesAt W a0 (graphOf0 tyP).ns → NodesAt W a1 (graphOf0 tyQ).ns → Calls Tryz.prog 19 #[.agg #[.slice a0 ds0.length c0, .int .i64 0], .agg #[.slice a1 ds1.length c1, .int .i64 0]] W fun e w' => e = .returned (.tuple #[.bool true, .int .i64 0]) ∧ Below W.heap.size W w') := fun W hW h1 h2 => by
  have K := is_at a0 a1 c0 c1 (graphOf0 tyP) (graphOf0 tyQ) W h1 h2 weightP weightQ lenP lenQ (HE.out.max.below hW) okP okQ (shut_of okP freeP) (shut_of okQ freeQ)
  rw [subPQ, rootP, rootQ, ← hl0, ← hl1] at K
  exact K
 have HI1 : Hid (∀ W, Below w.heap.size w W → NodesAt W a1 (graphOf0 tyQ).ns → NodesAt W a0 (graphOf0 tyP).ns → Calls Tryz.prog 19 #[.agg #[.slice a1 ds1.length c1, .int .i64 0], .agg #[.slice a0 ds0.length c0, .int .i64 0]] W fun e w' => e = .returned (.tuple #[.bool false, .int .i64 0]) ∧ Below W.heap.size W w') := fun W hW h1 h2 => by
  have K := is_at a1 a0 c1 c0 (graphOf0 tyQ) (graphOf0 tyP) W h1 h2 weightQ weightP lenQ lenP (HE.out.max.below hW) okQ okP (shut_of okQ freeQ) (shut_of okP freeP)
  rw [subQP, rootQ, rootP, ← hl1, ← hl0] at K
  exact K
 have HI2 : Hid (∀ W, Below w.heap.size w W → NodesAt W a2 (graphOf0 tyU).ns → NodesAt W a3 (graphOf0 tyV).ns → Calls Tryz.prog 19 #[.agg #[.slice a2 ds2.length c2, .int .i64 0], .agg #[.slice a3 ds3.length c3, .int .i64 0]] W fun e w' => e = .returned (.tuple #[.bool true, .int .i64 0]) ∧ Below W.heap.size W w') := fun W hW h1 h2 => by
  have K := is_at a2 a3 c2 c3 (graphOf0 tyU) (graphOf0 tyV) W h1 h2 weightU weightV lenU lenV (HE.out.max.below hW) okU okV (shut_of okU freeU) (shut_of okV freeV)
  rw [subUV, rootU, rootV, ← hl2, ← hl3] at K
  exact K
 clear hl0 hl1 hl2 hl3
 go_wp2_with fail
 refine (HI0.out _ HM4.out.below HA0.out HA1.out).mono ?_
 rintro e w5 ⟨rfl, bq⟩
 have HM5 := Tre.hid (HM4.out.quiet bq)
 have HA0' := Tre.hid (HA0.out.below bq)
 have HA1' := Tre.hid (HA1.out.below bq)
 have HA2' := Tre.hid (HA2.out.below bq)
 have HA3' := Tre.hid (HA3.out.below bq)
 clear bq x0 y0 x1 y1 x2 y2 x3 y3 HI0
 obtain ⟨x0, y0⟩ := HM5.out.two 9 rfl
 obtain ⟨x1, y1⟩ := HM5.out.two 6 rfl
 obtain ⟨x2, y2⟩ := HM5.out.two 3 rfl
 obtain ⟨x3, y3⟩ := HM5.out.two 0 rfl
 go_wp2_with fail
 refine (HI1.out _ HM5.out.below HA1'.out HA0'.out).mono ?_
 rintro e w6 ⟨rfl, bq⟩
 have HM6 := Tre.hid (HM5.out.quiet bq)
 have HA2'' := Tre.hid (HA2'.out.below bq)
 have HA3'' := Tre.hid (HA3'.out.below bq)
 clear bq x0 y0 x1 y1 x2 y2 x3 y3 HI1
 obtain ⟨x0, y0⟩ := HM6.out.two 9 rfl
 obtain ⟨x1, y1⟩ := HM6.out.two 6 rfl
 obtain ⟨x2, y2⟩ := HM6.out.two 3 rfl
 obtain ⟨x3, y3⟩ := HM6.out.two 0 rfl
 go_wp2_with fail
 refine (HI2.out _ HM6.out.below HA2''.out HA3''.out).mono ?_
 rintro e w7 ⟨rfl, bq⟩
 have HB := Tre.hid (HM6.out.quiet bq).below
 clear bq x0 y0 x1 y1 x2 y2 x3 y3 HI2
 go_wp2_with fail
 go_ret
 exact ⟨rfl, HB.out⟩
end Go.Proofs.YtoieknnnadgfpaaGreatDoor.gr
namespace Go.Tre
/-! a constructor of two on top -/
def conN (s : ByteArray) (p q : Int) : Tre.Node := ⟨2, s, [p, q], [], false⟩
section
variable {g h g' h' : Tre.Graph} {s : ByteArray} {p q p' q' : Nat}
end
/-! nodes behind -/
def shiftN (k : Nat) (n : Tre.Node) : Tre.Node := { n with args := n.args.map fun a => a + (k : Int) }
def joinG (g h : Tre.Graph) : Tre.Graph := ⟨g.ns ++ h.ns.map (shiftN g.ns.length), g.root⟩
section
variable {g h : Tre.Graph}
end
def ofG (s : ByteArray) (g h : Tre.Graph) : Tre.Graph := topG (joinG g h) (conN s (g.root.toNat : Nat) ((h.root.toNat + g.ns.length : Nat)))
section
variable {a b c d : Tre.Graph} {s : ByteArray}
end
/-! a function that takes it, one that gives it -/
def intB : ByteArray := ⟨#[105, 110, 116]⟩
def intN : Tre.Node := ⟨2, intB, [], [], false⟩
def midG (g : Tre.Graph) : Tre.Graph := ⟨g.ns ++ [intN], g.root⟩
def funG (g : Tre.Graph) (gives : Bool) : Tre.Graph := topG (midG g) (if gives then conN arrowB (g.ns.length : Nat) (g.root.toNat : Nat) else conN arrowB (g.root.toNat : Nat) (g.ns.length : Nat))
section
variable {g h : Tre.Graph}
end
/-! with a label more -/
theorem insert_split {α : Type} : ∀ (l : List α) (i : Nat) (x : α), i ≤ l.length → l.insertIdx i x = l.take i ++ x :: l.drop i
 | l, 0, x, _ => by simp
 | [], i + 1, x, h => by simp at h
 | a :: l, i + 1, x, h => by
  rw [List.insertIdx_succ_cons, insert_split l i x (by simpa using h)]
  rfl
def moreN (n : Tre.Node) (i : Nat) (s : ByteArray) (a : Int) : Tre.Node := ⟨3, ByteArray.empty, n.args.insertIdx i a, n.labels.insertIdx i s, false⟩
section
variable {g h : Tre.Graph} {i : Nat} {s : ByteArray}
theorem more_may (og : g.Ok) (h3 : (g.nd g.root.toNat).kind = 3) (hs : isName s = true) (hi : i ≤ (g.nd g.root.toNat).labels.length)
  (hlo : ∀ j x, j < i → (g.nd g.root.toNat).labels[j]? = some x → Op.bytesLess x.toList s.toList = true) (hhi : ∀ j x, i ≤ j → (g.nd g.root.toNat).labels[j]? = some x → Op.bytesLess s.toList x.toList = true) : mayB (moreN (g.nd g.root.toNat) i s g.root) g.ns.length = true := by
 have h := og.may _ og.root1
 have hd := obj_deg og og.root1 h3
 have hr : rising ((g.nd g.root.toNat).labels.insertIdx i s) = true := by
  rw [rising_iff]
  have h1 := rising_iff.1 hd.2
  constructor
  ·intro x hx
   rcases (List.mem_insertIdx hi).1 hx with rfl | hx
   ·exact hs
   ·exact h1.1 x hx
  ·have e : (g.nd g.root.toNat).labels.insertIdx i s = (g.nd g.root.toNat).labels.take i ++ s :: (g.nd g.root.toNat).labels.drop i := insert_split _ _ _ hi
   rw [e, List.pairwise_append, List.pairwise_cons]
   have pt : (g.nd g.root.toNat).labels = (g.nd g.root.toNat).labels.take i ++ (g.nd g.root.toNat).labels.drop i := (List.take_append_drop ..).symm
   have h2 := h1.2
   rw [pt, List.pairwise_append] at h2
   have inT : ∀ x ∈ (g.nd g.root.toNat).labels.take i, Op.bytesLess x.toList s.toList = true := fun x hx => by
    obtain ⟨j, hj⟩ := List.getElem?_of_mem hx
    rw [List.getElem?_take] at hj
    split at hj
    ·exact hlo j x (by assumption) hj
    ·cases hj
   have inD : ∀ x ∈ (g.nd g.root.toNat).labels.drop i, Op.bytesLess s.toList x.toList = true := fun x hx => by
    obtain ⟨j, hj⟩ := List.getElem?_of_mem hx
    rw [List.getElem?_drop] at hj
    exact hhi _ x (by omega) hj
   refine ⟨h2.1, ⟨inD, h2.2.1⟩, fun x hx y hy => ?_⟩
   rcases List.mem_cons.1 hy with rfl | hy
   ·exact inT x hx
   ·exact h2.2.2 x hx y hy
 unfold mayB at *
 rw [if_neg (by rw [h3]; decide), if_neg (by rw [h3]; decide), if_pos h3] at h
 have k3 : (moreN (g.nd g.root.toNat) i s g.root).kind = 3 := rfl
 rw [if_neg (by rw [k3]; decide), if_neg (by rw [k3]; decide), if_pos k3]
 simp only [Bool.and_eq_true, Bool.not_eq_true', List.any_eq_false, decide_eq_true_iff] at *
 have hd1 := hd.1
 unfold Graph.deg at hd1
 refine ⟨fun x hx => ?_, ⟨rfl, ?_⟩, hr⟩
 ·rcases (List.mem_insertIdx (by rw [← hd1]; exact hi)).1 hx with rfl | hx
  ·have h0 := og.root0
   have h1 := og.root1
   rw [outside_in h0 (by omega)]; simp
  ·exact h.1 x hx
 ·show (List.insertIdx _ i s).length = (List.insertIdx _ i _).length
  rw [List.length_insertIdx, List.length_insertIdx, hd1]
def moreG (g : Tre.Graph) (i : Nat) (s : ByteArray) : Tre.Graph := topG g (moreN (g.nd g.root.toNat) i s g.root)
theorem more_sub (c0 : g.checkC = 0) (h3 : (g.nd g.root.toNat).kind = 3) (hi : i ≤ (g.nd g.root.toNat).labels.length) (hm : (moreG g i s).checkC = 0) (hnew : s ∉ (g.nd g.root.toNat).labels) : subB (moreG g i s) g = true := by
 have og := Graph.ok_of c0
 have om := Graph.ok_of hm
 have hd := obj_deg og og.root1 h3
 have hd1 := hd.1
 unfold Graph.deg at hd1
 have e : (moreG g i s).nd g.ns.length = moreN (g.nd g.root.toNat) i s g.root := top_last
 have hname : (g.nd g.root.toNat).name = ByteArray.empty := by
  have w := words_of (og.may _ og.root1)
  have h := og.may _ og.root1
  unfold mayB at h
  rw [Bool.and_eq_true, if_neg (by rw [h3]; decide), if_neg (by rw [h3]; decide), if_pos h3] at h
  simp only [Bool.and_eq_true, decide_eq_true_iff] at h
  exact data_inj (List.eq_nil_of_length_eq_zero (by simpa using h.2.1.1))
 rw [subB_iff, show (moreG g i s).root.toNat = g.ns.length from top_root]
 refine .mk ⟨by rw [e]; exact h3.symm, by rw [e, hname]; rfl, fun _ => ⟨by simp, fun _ x hx => ?_⟩⟩ (fun a' b' t' f => ?_)
 ·rw [e]; exact (List.mem_insertIdx hi).2 (.inr hx)
 ·rcases f with ⟨_, rfl, p, q, x, h1, h2, rfl, rfl⟩ | ⟨h4, _⟩
  ·rw [e] at h1
   have h1' : ((g.nd g.root.toNat).labels.insertIdx i s)[p]? = some x := h1
   have hne : x ≠ s := fun e' => hnew (e' ▸ List.mem_of_getElem? h2)
   have ek : (moreG g i s).kid g.ns.length p = g.kid g.root.toNat q := by
    unfold Graph.kid
    rw [e, List.getD_eq_getElem?_getD, List.getD_eq_getElem?_getD]
    show (((g.nd g.root.toNat).args.insertIdx i g.root)[p]?.getD (0 : Int)).toNat = _
    rw [List.getElem?_insertIdx] at h1' ⊢
    by_cases c1 : p < i
    ·rw [if_pos c1] at h1' ⊢
     rw [rising_inj hd.2 h1' h2]
    ·rw [if_neg c1] at h1' ⊢
     by_cases c2 : p = i
     ·rw [if_pos c2, if_pos (by omega)] at h1'
      exact absurd (Option.some.inj h1').symm hne
     ·rw [if_neg c2] at h1' ⊢
      rw [rising_inj hd.2 h1' h2]
   rw [ek]
   have hl : g.kid g.root.toNat q < g.ns.length := og.kid_lt og.root1 (by unfold Graph.deg; rw [← hd1]; exact idx_lt h2)
   exact (SubAt.refl og hl).sim og og (top_sim og) (Sim.id og) ⟨rfl, hl⟩ ⟨rfl, hl⟩
  ·rw [e] at h4; exact absurd rfl h4
theorem sub_trans {k : Tre.Graph} (c0 : g.checkC = 0) (c1 : h.checkC = 0) (c2 : k.checkC = 0) (s1 : subB g h = true) (s2 : subB h k = true) : subB g k = true := by
 have og := Graph.ok_of c0
 have oh := Graph.ok_of c1
 have ok := Graph.ok_of c2
 rw [subB_iff] at *
 exact s1.trans og oh ok og.root1 oh.root1 ok.root1 s2
end
end Go.Tre
namespace Go.Tre
def unB : ByteArray := ⟨#[117, 110, 117, 115, 117, 97, 108]⟩
theorem un_list : unB.toList = [117, 110, 117, 115, 117, 97, 108] := ByteArray.toList_eq unB
theorem less_tri {x y : List UInt8} (hne : ¬ x = y) (h : Op.bytesLess x y = false) : Op.bytesLess y x = true := by
 rw [Go.Proofs.bytesLess_eq, decide_eq_false_iff_not] at h
 rw [Go.Proofs.bytesLess_eq, decide_eq_true_iff]
 exact Classical.byContradiction fun h2 => hne (List.le_antisymm h2 h)
theorem toList_inj {a b : ByteArray} (h : a.toList = b.toList) : a = b := by
 rw [ByteArray.toList_eq, ByteArray.toList_eq] at h
 exact data_inj h
def Own (L : List ByteArray) (A : List Int) (r : Int) (i : Nat) : Bool → List ByteArray → List Int → Prop
 | false, S, T => S = L.take i ∧ T = A.take i ∧ ∀ t x, t < i → L[t]? = some x → Op.bytesLess x.toList unB.toList = true
 | true, S, T => ∃ j, j < i ∧ S = (L.take i).insertIdx j unB ∧ T = (A.take i).insertIdx j r ∧ (∀ t x, t < j → L[t]? = some x → Op.bytesLess x.toList unB.toList = true) ∧ ∃ y, L[j]? = some y ∧ Op.bytesLess unB.toList y.toList = true
theorem insert_end {α : Type} (l : List α) (x : α) : l.insertIdx l.length x = l ++ [x] := by
 rw [insert_split l _ x (Nat.le_refl _), List.take_length, List.drop_length]
theorem insert_snoc {α : Type} (l : List α) (j : Nat) (x y : α) (h : j ≤ l.length) : (l ++ [y]).insertIdx j x = l.insertIdx j x ++ [y] := by
 rw [insert_split _ _ _ (by rw [List.length_append]; omega), insert_split _ _ _ h, List.take_append_of_le_length h, List.drop_append_of_le_length h]
 simp
section
variable {L S : List ByteArray} {A T : List Int} {r : Int} {i : Nat} {b : Bool}
theorem Own.start : Own L A r 0 false [] [] := ⟨rfl, rfl, fun t x h => by omega⟩
theorem Own.less {s : ByteArray} {a : Int} (h : Own L A r i false S T) (hs : L[i]? = some s) (ha : A[i]? = some a) (hl : Op.bytesLess s.toList unB.toList = true) : Own L A r (i + 1) false (S ++ [s]) (T ++ [a]) := by
 obtain ⟨rfl, rfl, h3⟩ := h
 refine ⟨by rw [List.take_add_one, hs]; rfl, by rw [List.take_add_one, ha]; rfl, fun t x ht hx => ?_⟩
 by_cases e : t = i
 ·subst e; rw [hs] at hx; cases hx; exact hl
 ·exact h3 t x (by omega) hx
theorem Own.more {s : ByteArray} {a : Int} (h : Own L A r i false S T) (hs : L[i]? = some s) (ha : A[i]? = some a) (hl : Op.bytesLess unB.toList s.toList = true) : Own L A r (i + 1) true (S ++ [unB] ++ [s]) (T ++ [r] ++ [a]) := by
 obtain ⟨rfl, rfl, h3⟩ := h
 have l1 : (L.take i).length = i := by rw [List.length_take]; have := idx_lt hs; omega
 have l2 : (A.take i).length = i := by rw [List.length_take]; have := idx_lt ha; omega
 refine ⟨i, by omega, ?_, ?_, h3, s, hs, hl⟩
 ·rw [List.take_add_one, hs, Option.toList_some, insert_snoc _ _ _ _ (by omega)]
  have := insert_end (L.take i) unB
  rw [l1] at this
  rw [this]
 ·rw [List.take_add_one, ha, Option.toList_some, insert_snoc _ _ _ _ (by omega)]
  have := insert_end (A.take i) r
  rw [l2] at this
  rw [this]
theorem Own.on {s : ByteArray} {a : Int} (h : Own L A r i true S T) (hs : L[i]? = some s) (ha : A[i]? = some a) : Own L A r (i + 1) true (S ++ [s]) (T ++ [a]) := by
 obtain ⟨j, h1, rfl, rfl, h3, h4⟩ := h
 have l1 : (L.take i).length = i := by rw [List.length_take]; have := idx_lt hs; omega
 have l2 : (A.take i).length = i := by rw [List.length_take]; have := idx_lt ha; omega
 refine ⟨j, by omega, ?_, ?_, h3, h4⟩
 ·rw [List.take_add_one, hs, Option.toList_some, insert_snoc _ _ _ _ (by omega)]
 ·rw [List.take_add_one, ha, Option.toList_some, insert_snoc _ _ _ _ (by omega)]
theorem Own.len (h : Own L A r i b S T) (hi : i ≤ L.length) (hA : A.length = L.length) : S.length ≤ i + 1 ∧ T.length = S.length := by
 cases b with
 | false =>
  obtain ⟨rfl, rfl, _⟩ := h
  rw [List.length_take, List.length_take]; omega
 | true =>
  obtain ⟨j, h1, rfl, rfl, _⟩ := h
  rw [List.length_insertIdx_of_le_length (by rw [List.length_take]; omega), List.length_insertIdx_of_le_length (by rw [List.length_take]; omega), List.length_take, List.length_take]
  omega
theorem Own.at_end (h : Own L A r L.length b S T) (hA : A.length = L.length) (hr : rising L = true) : ∃ j, j ≤ L.length ∧ (if b then S else S ++ [unB]) = L.insertIdx j unB ∧ (if b then T else T ++ [r]) = A.insertIdx j r ∧
  (∀ t x, t < j → L[t]? = some x → Op.bytesLess x.toList unB.toList = true) ∧ (∀ t x, j ≤ t → L[t]? = some x → Op.bytesLess unB.toList x.toList = true) := by
 cases b with
 | false =>
  obtain ⟨rfl, rfl, h3⟩ := h
  refine ⟨L.length, Nat.le_refl _, ?_, ?_, h3, fun t x ht hx => absurd (idx_lt hx) (by omega)⟩
  ·rw [insert_end, List.take_length]; rfl
  ·rw [← hA, insert_end, List.take_length]; rfl
 | true =>
  obtain ⟨j, h1, h5, h6, h3, y, hy, h4⟩ := h
  rw [List.take_length] at h5
  rw [← hA, List.take_length] at h6
  refine ⟨j, by omega, h5, h6, h3, fun t x ht hx => ?_⟩
  by_cases e : t = j
  ·subst e; rw [hy] at hx; cases hx; exact h4
  ·have hp := (rising_iff.1 hr).2
   rw [List.pairwise_iff_getElem] at hp
   have := hp j t (by omega) (idx_lt hx) (by omega)
   rw [List.getElem?_eq_getElem (by omega)] at hy
   rw [List.getElem?_eq_getElem (idx_lt hx)] at hx
   rw [Option.some.inj hy, Option.some.inj hx] at this
   exact less_trans h4 this
end
theorem un_name : isName unB = true := by decide
section
variable {g h : Tre.Graph} {j : Nat}
theorem more_weight (og : g.Ok) (h3 : (g.nd g.root.toNat).kind = 3) (hj : j ≤ (g.nd g.root.toNat).labels.length) : (moreG g j unB).weight ≤ 2 * g.weight + 9 := by
 have h1 : (g.nd g.root.toNat).weight ≤ g.weight := by
  rw [Graph.nd_eq og.root1]
  exact node_weight (List.getElem_mem og.root1)
 have hd := obj_deg og og.root1 h3
 have hd1 := hd.1
 unfold Graph.deg at hd1
 have h2 : (moreN (g.nd g.root.toNat) j unB g.root).weight ≤ (g.nd g.root.toNat).weight + 9 := by
  unfold Node.weight moreN
  simp only
  rw [List.length_insertIdx_of_le_length (by omega), insert_split _ _ _ hj, List.map_append, List.sum_append, List.map_cons, List.sum_cons]
  have e : (((g.nd g.root.toNat).labels.take j).map fun s => s.size + 1).sum + (((g.nd g.root.toNat).labels.drop j).map fun s => s.size + 1).sum = ((g.nd g.root.toNat).labels.map fun s => s.size + 1).sum := by
   rw [← List.sum_append, ← List.map_append, List.take_append_drop]
  have e1 : unB.size = 7 := rfl
  have e2 : ByteArray.empty.size = 0 := rfl
  omega
 unfold Graph.weight moreG topG at *
 simp only [List.map_append, List.sum_append, List.map_cons, List.map_nil, List.sum_cons, List.sum_nil] at *
 omega
theorem more_shut (og : g.Ok) (sg : g.Shut) (hj : j ≤ (g.nd g.root.toNat).args.length) : (moreG g j unB).Shut := by
 refine top_shut og sg rfl (fun b hb => ?_)
 obtain ⟨z, hz, rfl⟩ := List.mem_map.1 hb
 rcases (List.mem_insertIdx hj).1 hz with rfl | hz
 ·exact .refl
 ·exact Rch.refl.step (List.mem_map.2 ⟨z, hz, rfl⟩)
theorem sub_kind (s : subB g h = true) : (g.nd g.root.toNat).kind = (h.nd h.root.toNat).kind := by
 rw [subB_iff] at s
 exact SubAt.ok s |>.1
end
end Go.Tre
namespace Go.Proofs.YtoieknnnadgfpaaGreatDoor.gr
open Go.RowKit Go.Shelf Go.Maps Go.Tre lex
def NodeVal (w : World) (d : NodeV) : Prop :=
 ∃ aa ca al cl, d.va = .slice aa d.n.args.length ca ∧ d.vl = .slice al d.n.labels.length cl ∧ IntsAt w aa d.n.args ∧ StrsAt w al d.n.labels ∧ d.n.args.length ≤ ca ∧ d.n.labels.length ≤ cl
theorem NodeVal.below {w w' : World} {d : NodeV} (h : NodeVal w d) (b : Below w.heap.size w w') : NodeVal w' d := by
 obtain ⟨aa, ca, al, cl, h1, h2, h3, h4, h5, h6⟩ := h
 exact ⟨aa, ca, al, cl, h1, h2, h3.below b, h4.below b, h5, h6⟩
theorem NodeVal.kids {w : World} {d : NodeV} (h : ∀ r ∈ kids d, r.P w) : NodeVal w d := by
 obtain ⟨aa, ca, ea, la, ra⟩ := row_read (h _ (by simp [gr.kids]) : (rowR 3 1 d.va d.n.args.length (d.n.args.map (Value.int .i64))).P w)
 obtain ⟨al, cl, el, ll, rl⟩ := row_read (h _ (by simp [gr.kids]) : (rowR 9 1 d.vl d.n.labels.length (d.n.labels.map Value.string)).P w)
 exact ⟨aa, ca, al, cl, ea, el, ra, rl, la, ll⟩
theorem nodeAt_of {w : World} {b p : Nat} {d : NodeV} (hv : NodeVal w d) (hc : ∀ j, j < 5 → w.cell? ⟨b, p + j, none⟩ = d.cells[j]?) : NodeAt w b p d.n := by
 obtain ⟨aa, ca, al, cl, ea, el, ra, rl, la, ll⟩ := hv
 refine ⟨aa, ca, al, cl, (hc 0 (by omega)).trans rfl, (hc 1 (by omega)).trans rfl, ?_, ?_, (hc 4 (by omega)).trans rfl, ra, rl, la, ll⟩
 ·rw [← ea]; exact (hc 2 (by omega)).trans rfl
 ·rw [← el]; exact (hc 3 (by omega)).trans rfl
theorem nodesAt_of {w : World} {a : Option Addr} {c : Nat} {ds : List NodeV} (h : (nodesR (.slice a ds.length c) ds).P w) (hv : ∀ d ∈ ds, NodeVal w d) : NodesAt w a (ds.map NodeV.n) := by
 refine ⟨fun k n hn => ?_⟩
 rw [List.getElem?_map] at hn
 obtain ⟨d, hd, rfl⟩ := Option.map_eq_some_iff.1 hn
 obtain ⟨a', c', e, _, hrow⟩ := row_read (show w.ownsRow 0 _ 5 (.slice a _ c) _ _ from h)
 cases e
 obtain ⟨b, off, e0, _⟩ := hrow.at_ (k * 5 + 0) _ ((cells_at ds k 0 d hd (by omega)).trans rfl)
 refine ⟨b, off, e0, nodeAt_of (hv d (List.mem_of_getElem? hd)) (fun j hj => ?_)⟩
 have hl : j < d.cells.length := hj
 obtain ⟨b', off', e', c'⟩ := hrow.at_ (k * 5 + j) d.cells[j] ((cells_at ds k j d hd hj).trans (List.getElem?_eq_getElem hl))
 rw [e0] at e'
 cases e'
 rw [Nat.add_assoc, c', List.getElem?_eq_getElem hl]
theorem nodes_vals {w : World} {b off : Nat} {ns : List Tre.Node} (h : NodesAt w (some ⟨b, off, none⟩) ns) :
  ∃ ds : List NodeV, ds.map NodeV.n = ns ∧ (∀ j u, (ds.flatMap NodeV.cells)[j]? = some u → w.cell? ⟨b, off + j, none⟩ = some u) ∧ ∀ d ∈ ds, NodeVal w d := by
 have step : ∀ (k : Nat) (n : Tre.Node), ns[k]? = some n → ∃ d : NodeV, d.n = n ∧ NodeVal w d ∧ ∀ j, j < 5 → w.cell? ⟨b, off + k * 5 + j, none⟩ = d.cells[j]? := by
  intro k n hn
  obtain ⟨b', off', e, aa, ca, al, cl, h0, h1, h2, h3, h4, h5, h6, h7, h8⟩ := h.at_ k n hn
  cases e
  refine ⟨⟨n, .slice aa n.args.length ca, .slice al n.labels.length cl⟩, rfl, ⟨aa, ca, al, cl, rfl, rfl, h5, h6, h7, h8⟩, fun j hj => ?_⟩
  match j, hj with
  | 0, _ => exact h0
  | 1, _ => exact h1
  | 2, _ => exact h2
  | 3, _ => exact h3
  | 4, _ => exact h4
 have all : ∀ m, m ≤ ns.length → ∃ ds : List NodeV, ds.map NodeV.n = ns.take m ∧ (∀ k d, ds[k]? = some d → ∀ j, j < 5 → w.cell? ⟨b, off + k * 5 + j, none⟩ = d.cells[j]?) ∧ ∀ d ∈ ds, NodeVal w d := by
  intro m
  induction m with
  | zero => intro _; exact ⟨[], by simp, by simp, by simp⟩
  | succ m ih =>
   intro hm
   obtain ⟨ds, h1, h2, h3⟩ := ih (by omega)
   obtain ⟨d, e, hv, hc⟩ := step m ns[m] (List.getElem?_eq_getElem (by omega))
   have hl : ds.length = m := by have := congrArg List.length h1; simp at this; omega
   refine ⟨ds ++ [d], ?_, fun k d' hk j hj => ?_, fun d' hd' => ?_⟩
   ·rw [List.map_append, h1, List.take_add_one, List.getElem?_eq_getElem (by omega), List.map_singleton, e]; rfl
   ·by_cases hkl : k < ds.length
    ·rw [List.getElem?_append_left hkl] at hk
     exact h2 k d' hk j hj
    ·have hkm : k = m := by
      have := (List.getElem?_eq_some_iff.1 hk).1
      simp at this
      omega
     subst hkm
     rw [List.getElem?_append_right (by omega), hl, Nat.sub_self] at hk
     cases hk
     exact hc j hj
   ·rcases List.mem_append.1 hd' with h | h
    ·exact h3 d' h
    ·simp at h; subst h; exact hv
 obtain ⟨ds, h1, h2, h3⟩ := all ns.length (Nat.le_refl _)
 refine ⟨ds, by rw [h1, List.take_length], fun j u hu => ?_, h3⟩
 have hj := (List.getElem?_eq_some_iff.1 hu).1
 rw [cells_len] at hj
 have hk : j / 5 < ds.length := by omega
 have hd : ds[j / 5]? = some ds[j / 5] := List.getElem?_eq_getElem hk
 have e : j = j / 5 * 5 + j % 5 := by omega
 rw [e] at hu ⊢
 rw [cells_at ds (j / 5) (j % 5) _ hd (by omega)] at hu
 rw [← Nat.add_assoc]
 exact (h2 _ _ hd _ (by omega)).trans hu
theorem cells_one (ds : List NodeV) : (∀ d ∈ ds, ∃ w, NodeVal w d) → ∀ u ∈ ds.flatMap NodeV.cells, u.oneCell' = true := by
 intro h u hu
 obtain ⟨d, hd, hu⟩ := List.mem_flatMap.1 hu
 obtain ⟨w, aa, ca, al, cl, e1, e2, _⟩ := h d hd
 simp only [NodeV.cells, List.mem_cons, List.not_mem_nil, or_false] at hu
 rcases hu with rfl | rfl | rfl | rfl | rfl
 ·rfl
 ·rfl
 ·rw [e1]; rfl
 ·rw [e2]; rfl
 ·rfl
theorem add_plain (b off j : Nat) : (⟨b, off, none⟩ : Addr).add j = ⟨b, off + j, none⟩ := by
 unfold Addr.add
 by_cases h : j = 0 <;> simp [h]
end Go.Proofs.YtoieknnnadgfpaaGreatDoor.gr
namespace Go.Proofs.YtoieknnnadgfpaaGreatDoor.gr
open Go.RowKit Go.Shelf Go.Maps Go.Tre lex
theorem cells_set (ds : List NodeV) (k j : Nat) (d d' : NodeV) (u : Value) (hd : ds[k]? = some d) (hj : j < 5) (hc : d.cells.set j u = d'.cells) : (ds.flatMap NodeV.cells).set (k * 5 + j) u = (ds.set k d').flatMap NodeV.cells := by
 refine List.ext_getElem? (fun i => ?_)
 have hk := (List.getElem?_eq_some_iff.1 hd).1
 have e : i = i / 5 * 5 + i % 5 := by omega
 have h5 : i % 5 < 5 := by omega
 by_cases hi : i / 5 < ds.length
 ·have hx : ds[i / 5]? = some ds[i / 5] := List.getElem?_eq_getElem hi
  rw [List.getElem?_set, cells_len]
  by_cases hik : i / 5 = k
  ·have hset : (ds.set k d')[i / 5]? = some d' := by rw [hik, List.getElem?_set, if_pos rfl, if_pos hk]
   have h2 := cells_at (ds.set k d') (i / 5) (i % 5) d' hset h5
   rw [← e] at h2
   have h1 := cells_at ds (i / 5) (i % 5) d (by rw [hik]; exact hd) h5
   rw [← e] at h1
   rw [h2, ← hc, List.getElem?_set]
   have hl : d.cells.length = 5 := rfl
   by_cases hij : j = i % 5
   ·rw [if_pos (by omega), if_pos (by omega), if_pos hij, if_pos (by omega)]
   ·rw [if_neg (by omega), if_neg hij, h1]
  ·have hset : (ds.set k d')[i / 5]? = some ds[i / 5] := by rw [List.getElem?_set, if_neg (fun h => hik h.symm)]; exact hx
   have h2 := cells_at (ds.set k d') (i / 5) (i % 5) _ hset h5
   rw [← e] at h2
   have h1 := cells_at ds (i / 5) (i % 5) _ hx h5
   rw [← e] at h1
   rw [if_neg (by omega), h1, h2]
 ·rw [List.getElem?_eq_none (by rw [List.length_set, cells_len]; omega), List.getElem?_eq_none (by rw [cells_len, List.length_set]; omega)]
end Go.Proofs.YtoieknnnadgfpaaGreatDoor.gr
namespace Go.Tre
end Go.Tre
namespace Go.Proofs.YtoieknnnadgfpaaGreatDoor.gr
open Go.RowKit Go.Shelf Go.Maps Go.Tre lex
def closeV (d : NodeV) : NodeV := if d.n.kind = 1 then ⟨⟨2, unitB, [], [], false⟩, .slice none 0 0, .slice none 0 0⟩ else ⟨{ d.n with isOpen := false }, d.va, d.vl⟩
theorem eqNilNodes (b o n c : Nat) (w : World) : (binOp .eql 22 (.slice (some ⟨b, o, none⟩) n c) (.slice none 0 0)).run Tryz.prog w = .ok (.bool false) w := by kernel_rfl
set_option maxRecDepth 100000 in
theorem cloneNodes (b1 o1 c n : Nat) (ds : List NodeV) (w : World) (hn : ds.length = n) (hc : ∀ j u, (ds.flatMap NodeV.cells)[j]? = some u → w.cell? ⟨b1, o1 + j, none⟩ = some u) (h1 : ∀ u ∈ ds.flatMap NodeV.cells, u.oneCell' = true) (hl : n ≤ 8388608) :
  Calls Tryz.prog 24 #[.slice (some ⟨b1, o1, none⟩) n c] w fun e w' => ∃ v, e = .returned v ∧ Mem w w' [nodesR v ds] := by
 obtain ⟨ni, I1, I2, I3, I4⟩ := info_parts infoN
 have J1 := Tre.hid I1
 have J2 := Tre.hid I2
 have J3 := Tre.hid I3
 have J4 := Tre.hid I4
 have M0 := (Mem.nil w).allocRow #[] 33 5 0 (by unfold maxLen; omega) rfl
 have HM0 := Tre.hid M0
 have HR : Hid (Row (w.alloc (.cells #[] 33)) 5 (some ⟨b1, o1, none⟩) n (ds.flatMap NodeV.cells)) := ⟨by rw [cells_len, hn], fun j u hu => ⟨b1, o1, rfl, cell_below M0.below (hc j u hu)⟩⟩
 have H1 := Tre.hid h1
 have HN := Tre.hid hn
 clear I1 I2 I3 I4 hc h1 hn M0
 have heq := eqNilNodes
 go_enter Tryz.func24, Tryz.ntmps24
 go_wp2_with (at_builtin; refine wpList_append_row _ rfl _ _ 22 rfl 33 ni _ 5 80 Tryz.underlying22 J1.out J2.out J3.out J4.out rfl (by omega) (.slice (some ⟨w.heap.size, 0, none⟩) 0 0) 0 [] rfl (HM0.out.row 0 rfl) (some ⟨b1, o1, none⟩) n c (ds.flatMap NodeV.cells) rfl HR.out H1.out (by unfold maxLen; omega) (by omega) ?_; intro v' w9 hown4 hgrow4 hat4; simp only [Nat.zero_add, List.nil_append] at hown4; have HM4 := Tre.hid (HM0.out.grow 0 rfl hgrow4 hown4 hat4); clear hown4 hgrow4 hat4)
 go_ret
 refine ⟨_, rfl, ?_⟩
 unfold nodesR
 rw [HN.out]
 exact HM4.out
end Go.Proofs.YtoieknnnadgfpaaGreatDoor.gr
namespace Go.Proofs.YtoieknnnadgfpaaGreatDoor.gr
open Go.RowKit Go.Shelf Go.Maps Go.Tre lex
def argsR (ds : List NodeV) : Res := manyR (ds.map fun d => rowR 3 1 d.va d.n.args.length (d.n.args.map (Value.int .i64)))
def LabsOf (w : World) (ds : List NodeV) : Prop := ∀ d ∈ ds, ∃ al cl, d.vl = .slice al d.n.labels.length cl ∧ StrsAt w al d.n.labels ∧ d.n.labels.length ≤ cl
def _root_.Go.Tre.factR (p : Prop) : Res := ⟨fun _ => False, fun _ => p, fun _ _ h _ => h, fun _ _ _ h => h.elim⟩
theorem _root_.Go.Tre.Mem.addFact {w0 w : World} {rs : List Res} {p : Prop} (h : Mem w0 w rs) (hp : p) : Mem w0 w (factR p :: rs) :=
 h.add ⟨rfl, rfl, rfl, Nat.le_refl _, fun _ _ _ => rfl⟩ (factR p) hp (fun _ hb => hb.elim)
end Go.Proofs.YtoieknnnadgfpaaGreatDoor.gr
