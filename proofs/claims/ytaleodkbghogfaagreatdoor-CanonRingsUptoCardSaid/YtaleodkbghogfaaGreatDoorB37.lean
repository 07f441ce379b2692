/- canon.Key. Layer 9: the document's example. Plain: rings of objects: how many nodes their least graphs have. Layer 9, plain: rings, one node of which is changed; a cell of a row of nodes. -/
import Derived.Test.YtaleodkbghogfaaGreatDoorB36
import Derived.Test.YtaleodkbghogfaaGreatDoorB20
import Derived.Test.YtaleodkbghogfaaGreatDoorB34
import Derived.Deep.CutBlock
import Derived.Test.YtaleodkbghogfaaGreatDoorB33
import Derived.Test.YtaleodkbghogfaaGreatDoorB19
import Derived.Test.YtaleodkbghogfaaGreatDoorB35
set_option linter.unusedVariables false
namespace Go.Tre
open Go.RowKit
open Go.Lib (decDigits itoa)
def argK (l : List Int) : List UInt8 := (l.map itoa).flatMap (fun l => 32 :: l)
theorem argK_succ {l : List Int} {k : Nat} (h : k < l.length) : argK (l.take (k + 1)) = argK (l.take k) ++ (32 :: itoa l[k]) := by
 unfold argK
 rw [List.take_add_one, List.getElem?_eq_getElem h, List.map_append, List.flatMap_append]
 simp only [Option.toList_some, List.map_cons, List.map_nil, List.flatMap_cons, List.flatMap_nil, List.append_nil]
theorem argK_len {l : List Int} (h : ∀ a ∈ l, 0 ≤ a ∧ a ≤ 8388608) : (argK l).length ≤ 22 * l.length := by
 unfold argK
 induction l with
 | nil => simp
 | cons a l ih =>
  have h1 := h a (by simp)
  have := Lib.itoa_length_le a (by omega) (by omega)
  have := ih (fun x hx => h x (by simp [hx]))
  simp only [List.map_cons, List.flatMap_cons, List.length_append, List.length_cons]
  omega
theorem nodeK_eq (n : Tre.Node) : nodeK n = headK n ++ (labText n.labels ++ argK n.args) := by
 unfold nodeK pieceK labText argK
 rw [List.flatMap_append]
theorem keyK_succ {l : List Tre.Node} {k : Nat} (h : k < l.length) : keyK (l.take (k + 1)) = keyK (l.take k) ++ headK l[k] ++ labText l[k].labels ++ argK l[k].args ++ [59] := by
 unfold keyK
 rw [List.take_add_one, List.getElem?_eq_getElem h, List.flatMap_append]
 simp only [Option.toList_some, List.flatMap_cons, List.flatMap_nil, List.append_nil, nodeK_eq, List.append_assoc]
theorem headK_len (n : Tre.Node) : (headK n).length ≤ 3 + n.name.size := by
 have := Lib.size_eq n.name
 unfold headK
 split
 ·simp only [List.length_cons, List.length_nil]; omega
 ·split
  ·cases n.isOpen <;> simp <;> omega
  ·omega
theorem nodeK_len {n : Tre.Node} (h : ∀ a ∈ n.args, 0 ≤ a ∧ a ≤ 8388608) : (nodeK n ++ [59]).length ≤ 22 * n.weight := by
 have h1 := headK_len n
 have h2 := argK_len h
 have h3 := labText_len n.labels
 rw [nodeK_eq]
 unfold Node.weight
 simp only [List.length_append, List.length_cons, List.length_nil]
 omega
theorem keyK_len : ∀ {l : List Tre.Node}, (∀ n ∈ l, ∀ a ∈ n.args, 0 ≤ a ∧ a ≤ 8388608) → (keyK l).length ≤ 22 * (l.map Tre.Node.weight).sum
 | [], _ => by simp [keyK]
 | n :: l, h => by
  have h1 := nodeK_len (h n (by simp))
  have h2 := keyK_len (l := l) (fun m hm => h m (by simp [hm]))
  have e : keyK (n :: l) = (nodeK n ++ [59]) ++ keyK l := by simp [keyK]
  rw [e, List.length_append]
  simp only [List.map_cons, List.sum_cons]
  omega
end Go.Tre
namespace Go.Proofs.YtaleodkbghogfaaGreatDoor.gr
open Go.RowKit Go.Shelf Go.Maps Go.Tre lex
open Go.Lib (decDigits itoa)
theorem fieldG (n c : Nat) (a : Option Addr) (r : Int) (w : World) : (Instr.field 24 (.agg #[.slice a n c, .int .i64 r]) 0).run Tryz.prog w = .ok (.slice a n c) w := by kernel_rfl
theorem itoa_int (a : Int) (w : World) (h0 : 0 ≤ a) (h1 : a ≤ 8388608) (ht : TabAt w) :
  Calls Tryz.prog 24 #[.int .i64 a] w fun e w' => e = .returned (.string ⟨(itoa a).toArray⟩) ∧ Below w.heap.size w w' := by
 obtain ⟨n, rfl⟩ := Int.eq_ofNat_of_zero_le h0
 rw [Lib.itoa_nonneg]
 exact itoa_any n w (by omega) ht
set_option maxRecDepth 100000 in
set_option maxHeartbeats 8000000 in
theorem key_any (a : Option Addr) (ca : Nat) (g : Tre.Graph) (w : World) (hg : NodesAt w a g.ns) (wg : g.weight ≤ 2097152) (hm : MaxAt w) (ht : TabAt w) (c0 : g.checkC = 0) :
  Calls Tryz.prog 11 #[.agg #[.slice a g.ns.length ca, .int .i64 g.root]] w fun e w' => e = .returned (.string ⟨(keyK g.leastG.ns).toArray⟩) ∧ Below w.heap.size w w' := by
 have MA := (Mem.nil w).allocR #[.slice a g.ns.length ca, .int .i64 g.root] 24
 have M := MA.allocR #[.pointer none, .slice none 0 0] 52
 simp only [heapSize_alloc] at M
 obtain ⟨g0, g1⟩ := M.two 1 rfl
 have HL := Tre.hid (least_any a ca g _ (hg.below M.below) wg (hm.below M.below) (ht.below M.below) c0)
 have HT := Tre.hid ht
 have OL := Graph.ok_of (least_ok c0)
 have HA : Hid (∀ n ∈ g.leastG.ns, ∀ a ∈ n.args, 0 ≤ a ∧ a ≤ 8388608) := fun n hn a ha => by
  obtain ⟨i, hi, rfl⟩ := List.getElem_of_mem hn
  rw [← Graph.nd_eq hi, OL.kids_eq hi] at ha
  obtain ⟨z, hz, rfl⟩ := List.mem_map.1 ha
  have h1 := OL.kids_lt hi z hz
  have h2 := OL.len
  omega
 have HW : Hid (g.leastG.weight ≤ 2097152) := by
  show _ ≤ _
  refine Nat.le_trans (Graph.trim_weight _) ?_
  rw [quot_weight]; exact wg
 have HWN : Hid (∀ n ∈ g.leastG.ns, n.weight ≤ 2097152) := fun n hn => Nat.le_trans (node_weight hn) HW.out
 have HB : Hid (∀ k, (keyK (g.leastG.ns.take k)).length ≤ 46137344) := fun k => by
  have h1 := keyK_len (l := g.leastG.ns.take k) (fun n hn => HA.out n (List.mem_of_mem_take hn))
  have h2 := sum_take_le Tre.Node.weight g.leastG.ns k
  have h3 := HW.out
  unfold Graph.weight at h3
  omega
 have hl5 : g.leastG.ns.length ≤ 1048576 := OL.len
 generalize g.leastG.ns = L at *
 have HM0 := Tre.hid M
 clear MA M hg hm ht wg OL HW c0
 go_enter Tryz.func11, Tryz.ntmps11
 go_wp2_with fail
 refine HL.out.mono ?_
 rintro e w1 ⟨v1, ds, rfl, hds, m1⟩
 have M1 := HM0.out.call m1
 obtain ⟨a1, c1, rfl, _⟩ := M1.val 0 rfl
 have hdl : ds.length = L.length := by rw [← hds, List.length_map]
 have HDS := Tre.hid hds
 have HM1 : Hid (BldM w w1 (w.heap.size + 1) (keyK (L.take 0)) [nodesR (.slice a1 ds.length c1) ds, kidsR ds, cellsR w.heap.size 24 #[.slice a g.ns.length ca, .int .i64 g.root]]) :=
  ⟨.pointer none, .slice none 0 0, .inl rfl, ((M1.front 2 rfl).addNil 5 1).front 1 rfl⟩
 have HLW : Hid (∀ n ∈ L, n.name.size ≤ 2097152 ∧ (labText n.labels).length ≤ 2097152 ∧ (argK n.args).length ≤ 46137344 ∧ (∀ j, (labText (n.labels.take j)).length ≤ 2097152) ∧ (∀ j, (argK (n.args.take j)).length ≤ 46137344) ∧ (∀ j (h : j < n.labels.length), n.labels[j].size ≤ 2097152) ∧ n.labels.length ≤ 2097152 ∧ n.args.length ≤ 2097152) := fun n hn => by
  have h1 := HWN.out n hn
  unfold Node.weight at h1
  have h2 := labText_len n.labels
  have h3 := argK_len (HA.out n hn)
  have h9 : n.labels.length ≤ 2097152 := Nat.le_trans (length_le_sum _ (fun s => by omega) n.labels) (by omega : (n.labels.map fun s => s.size + 1).sum ≤ 2097152)
  refine ⟨by omega, by omega, by omega, fun j => ?_, fun j => ?_, fun j hj => ?_, h9, by omega⟩
  ·rw [labText_len]; have := sum_take_le (fun s : ByteArray => s.size + 1) n.labels j; omega
  ·have h4 := argK_len (l := n.args.take j) (fun x hx => HA.out n hn x (List.mem_of_mem_take hx))
   rw [List.length_take] at h4
   omega
  ·have h4 := sum_take_succ (fun s : ByteArray => s.size + 1) n.labels j n.labels[j] (List.getElem?_eq_getElem hj)
   have h5 := sum_take_le (fun s : ByteArray => s.size + 1) n.labels (j + 1)
   omega
 clear M1 m1 hds HM0 HL g0 g1 HWN
 obtain ⟨bb, hbb⟩ : ∃ bb : Nat, w.heap.size + 1 = bb := ⟨_, rfl⟩
 rw [hbb] at HM1 ⊢
 clear hbb
 have hfd := fieldG
 have HDL := Tre.hid hdl
 clear hdl
 go_wp2_with fail
 clear hfd
 go_loopw [14] (fun v14 wr => ∃ k : Nat, k ≤ L.length ∧ v14 = .int .i64 k ∧ Hid (BldM w wr bb (keyK (L.take k)) [nodesR (.slice a1 ds.length c1) ds, kidsR ds, cellsR w.heap.size 24 #[.slice a g.ns.length ca, .int .i64 g.root]])) (fun v14 _ => L.length - (intOf v14).toNat)
 case atStart => exact ⟨0, Nat.zero_le _, rfl, HM1.out⟩
 case round =>
  obtain ⟨k, hk, rfl, hQ⟩ := hrel
  by_cases hlt : k < L.length
  ·obtain ⟨b1, c1', ax, cx, lx, dx, e1, x0, x1, x2, x3, x4, hca, hcl, hrows⟩ := node_held (hQ.out.rest.at_ 0 rfl) (hQ.out.rest.at_ 1 rfl) HDS.out hlt
   cases e1
   have HKS := Tre.hid (keyK_succ hlt)
   have HAX := Tre.hid (HA.out L[k] (List.getElem_mem hlt))
   obtain ⟨q1, q2, q3, q4, q5, q6, q7, q8⟩ := HLW.out L[k] (List.getElem_mem hlt)
   have Q4 := Tre.hid q4
   have Q5 := Tre.hid q5
   have Q6 := Tre.hid q6
   have hkb := HB.out k
   generalize hX : L[k] = X at *
   generalize hacc : keyK (L.take k) = acc at *
   have HR := Tre.hid hrows
   have hh := headK_len X
   have i1 : (0 : Int) ≤ (k : Int) := by omega
   have i2 : (k : Int) < (ds.length : Int) := by have := HDL.out; omega
   have HB1 := hQ.out.allocR #[.int .i64 X.kind, .string X.name, .slice ax X.args.length cx, .slice lx X.labels.length dx, .bool X.isOpen] 33
   obtain ⟨bx, hbx⟩ : ∃ bx : Nat, wr.heap.size = bx := ⟨_, rfl⟩
   rw [hbx] at HB1
   obtain ⟨z0, z1, z2, z3, z4⟩ := five HB1.rest 0 rfl
   have HBX := Tre.hid HB1
   clear HB1 hX hacc q4 q5 q6 hrows
   go_upto_block 2 with fail
   go_cut [] (fun wx => Hid (BldM w wx bb (acc ++ headK X) [cellsR bx 33 #[.int .i64 X.kind, .string X.name, .slice ax X.args.length cx, .slice lx X.labels.length dx, .bool X.isOpen], nodesR (.slice (some ⟨b1, 0, none⟩) ds.length c1) ds, kidsR ds, cellsR w.heap.size 24 #[.slice a g.ns.length ca, .int .i64 g.root]]))
   case first =>
    by_cases k1 : X.kind = 1
    ·have t1 : (X.kind == 1) = true := by simp [k1]
     have HE : Hid (headK X = [118]) := by show _ = _; unfold headK; rw [if_pos k1]
     have WB := Tre.hid (wByte 118 HBX.out (by omega))
     clear HBX hbx k1 hh
     go_wp2_with fail
     refine WB.out.mono ?_
     rintro e w2 ⟨rfl, h2⟩
     have H2 := Tre.hid h2
     clear h2 z0 z1 z2 z3 z4
     go_wp2_with fail
     go_meet
     rw [HE.out]
     exact H2.out
    ·have t1 : (X.kind == 1) = false := by simp [k1]
     by_cases k3 : X.kind = 3
     ·have t3 : (X.kind == 3) = true := by simp [k3]
      have HE : Hid (headK X = [60] ++ ((if X.isOpen then [46, 46] else []) ++ X.name.data.toList)) := by show _ = _; unfold headK; rw [if_neg k1, if_pos k3]; rfl
      have WB := Tre.hid (wByte 60 HBX.out (by omega))
      clear HBX hbx k1 k3 hh
      go_wp2_with fail
      refine WB.out.mono ?_
      rintro e w2 ⟨rfl, h2⟩
      clear z0 z1 z2 z3 z4
      obtain ⟨z0, z1, z2, z3, z4⟩ := five h2.rest 0 rfl
      have H2 := Tre.hid h2
      clear h2 WB
      cases ho : X.isOpen with
      | true =>
       rw [ho] at z4
       have WS := Tre.hid (wStr ⟨#[46, 46]⟩ H2.out (by rw [List.length_append]; show _ + 1 + 2 ≤ _; omega))
       have HE2 : Hid (headK X = [60] ++ ([46, 46] ++ X.name.data.toList)) := by show _ = _; rw [HE.out, ho]; rfl
       clear ho HE
       go_wp2_with fail
       refine WS.out.mono ?_
       rintro e w3 ⟨rfl, h3⟩
       clear z0 z1 z2 z3 z4 H2 WS
       obtain ⟨z0, z1, z2, z3, z4⟩ := five h3.rest 0 rfl
       have WN := Tre.hid (wStr X.name h3 (by simp only [List.length_append, List.length_cons, List.length_nil]; show _ + 2 + _ ≤ _; omega))
       clear h3
       go_wp2_with fail
       refine WN.out.mono ?_
       rintro e w4 ⟨rfl, h4⟩
       have H4 := Tre.hid h4
       clear h4 z0 z1 z2 z3 z4 WN
       go_wp2_with fail
       go_meet
       rw [HE2.out, ← List.append_assoc, ← List.append_assoc]
       exact H4.out
      | false =>
       rw [ho] at z4
       have HE2 : Hid (headK X = [60] ++ X.name.data.toList) := by show _ = _; rw [HE.out, ho]; rfl
       have WN := Tre.hid (wStr X.name H2.out (by simp only [List.length_append, List.length_cons, List.length_nil]; omega))
       clear ho HE H2
       go_wp2_with fail
       refine WN.out.mono ?_
       rintro e w4 ⟨rfl, h4⟩
       have H4 := Tre.hid h4
       clear h4 z0 z1 z2 z3 z4 WN
       go_wp2_with fail
       go_meet
       rw [HE2.out, ← List.append_assoc]
       exact H4.out
     ·have t3 : (X.kind == 3) = false := by simp [k3]
      have HE : Hid (headK X = X.name.data.toList) := by show _ = _; unfold headK; rw [if_neg k1, if_neg k3]
      have WN := Tre.hid (wStr X.name HBX.out (by omega))
      clear HBX hbx k1 k3 hh
      go_wp2_with fail
      refine WN.out.mono ?_
      rintro e w4 ⟨rfl, h4⟩
      have H4 := Tre.hid h4
      clear h4 z0 z1 z2 z3 z4 WN
      go_wp2_with fail
      go_meet
      rw [HE.out]
      exact H4.out
   case rest =>
    clear HBX hbx z0 z1 z2 z3 z4 hQ
    obtain ⟨z0, z1, z2, z3, z4⟩ := five hcut.out.rest 0 rfl
    have HC := Tre.hid hcut.out
    clear hcut
    generalize hhd : headK X = hd at *
    have hcl0 : hd.length + acc.length ≤ 100000000 := by omega
    clear hhd hh hkb
    have HLT := Tre.hid hlt
    have HC0 : Hid (BldM w wc bb (acc ++ hd ++ labText (X.labels.take 0)) [cellsR bx 33 #[.int .i64 X.kind, .string X.name, .slice ax X.args.length cx, .slice lx X.labels.length dx, .bool X.isOpen], nodesR (.slice (some ⟨b1, 0, none⟩) ds.length c1) ds, kidsR ds, cellsR w.heap.size 24 #[.slice a g.ns.length ca, .int .i64 g.root]]) := by show BldM _ _ _ _ _; have := HC.out; rw [show labText (X.labels.take 0) = [] from rfl, List.append_nil]; exact this
    clear HC hlt
    go_wp2_with fail
    go_loopw [35] (fun v35 wr => ∃ j : Nat, j ≤ X.labels.length ∧ v35 = .int .i64 j ∧ Hid (BldM w wr bb (acc ++ hd ++ labText (X.labels.take j)) [cellsR bx 33 #[.int .i64 X.kind, .string X.name, .slice ax X.args.length cx, .slice lx X.labels.length dx, .bool X.isOpen], nodesR (.slice (some ⟨b1, 0, none⟩) ds.length c1) ds, kidsR ds, cellsR w.heap.size 24 #[.slice a g.ns.length ca, .int .i64 g.root]])) (fun v35 _ => X.labels.length - (intOf v35).toNat)
    case atStart => exact ⟨0, Nat.zero_le _, rfl, HC0.out⟩
    case round =>
     obtain ⟨j, hj, rfl, hI⟩ := hrel
     by_cases hjl : j < X.labels.length
     ·have hrow := (HR.out _ (hI.out.rest.at_ 2 rfl)).2
      obtain ⟨b2, o2, rfl, hc⟩ := hrow.at_ j (.string X.labels[j]) (by rw [List.getElem?_map, List.getElem?_eq_getElem hjl]; rfl)
      have hs := Q6.out j hjl
      have hj4 := Q4.out j
      have HE : Hid ((acc ++ hd ++ labText (X.labels.take j)) ++ ((⟨#[32]⟩ : ByteArray) ++ X.labels[j]).data.toList = acc ++ hd ++ labText (X.labels.take (j + 1))) := by
       show _ = _
       rw [labText_succ hjl]
       simp [ByteArray.data_append]
      have j1 : (0 : Int) ≤ (j : Int) := by omega
      have j2 : (j : Int) < (X.labels.length : Int) := by omega
      have hcat : ¬ (9223372036854775807 < 1 + X.labels[j].size) := by omega
      have WS := Tre.hid (wStr ((⟨#[32]⟩ : ByteArray) ++ X.labels[j]) hI.out (by rw [ByteArray.size_append, List.length_append, List.length_append]; show _ + (1 + _) ≤ _; omega))
      generalize X.labels[j] = lab at *
      clear hI hrow
      go_wp2_with fail
      refine WS.out.mono ?_
      rintro e w5 ⟨rfl, h5⟩
      rw [HE.out] at h5
      have H5 := Tre.hid h5
      clear h5 WS
      go_wp2_with fail
      go_roundw
      case rel => exact ⟨j + 1, by omega, by go_num, H5.out⟩
      case measure => simp [intOf]; omega
     ·have e : j = X.labels.length := by omega
      subst e
      have hI' := hI.out
      rw [List.take_length] at hI'
      clear hI z0 z1 z2 z3 z4
      obtain ⟨z0, z1, z2, z3, z4⟩ := five hI'.rest 0 rfl
      generalize hlb : labText X.labels = lt at *
      have HA0 : Hid (BldM w wr bb (acc ++ hd ++ lt ++ argK (X.args.take 0)) [cellsR bx 33 #[.int .i64 X.kind, .string X.name, .slice ax X.args.length cx, .slice lx X.labels.length dx, .bool X.isOpen], nodesR (.slice (some ⟨b1, 0, none⟩) ds.length c1) ds, kidsR ds, cellsR w.heap.size 24 #[.slice a g.ns.length ca, .int .i64 g.root]]) := by show BldM _ _ _ _ _; rw [show argK (X.args.take 0) = [] from rfl, List.append_nil]; exact hI'
      clear hI'
      go_wp2_with fail
      go_loopw [46] (fun v46 wr => ∃ j : Nat, j ≤ X.args.length ∧ v46 = .int .i64 j ∧ Hid (BldM w wr bb (acc ++ hd ++ lt ++ argK (X.args.take j)) [cellsR bx 33 #[.int .i64 X.kind, .string X.name, .slice ax X.args.length cx, .slice lx X.labels.length dx, .bool X.isOpen], nodesR (.slice (some ⟨b1, 0, none⟩) ds.length c1) ds, kidsR ds, cellsR w.heap.size 24 #[.slice a g.ns.length ca, .int .i64 g.root]])) (fun v46 _ => X.args.length - (intOf v46).toNat)
      case atStart => exact ⟨0, Nat.zero_le _, rfl, HA0.out⟩
      case round =>
       obtain ⟨j, hj, rfl, hI⟩ := hrel
       by_cases hjl : j < X.args.length
       ·have hrow := (HR.out _ (hI.out.rest.at_ 2 rfl)).1
        obtain ⟨b2, o2, rfl, hc⟩ := hrow.at_ j (.int .i64 X.args[j]) (by rw [List.getElem?_map, List.getElem?_eq_getElem hjl]; rfl)
        have hj5 := Q5.out j
        have hpos := HAX.out X.args[j] (List.getElem_mem hjl)
        have hil := Lib.itoa_length_le X.args[j] (by omega) (by omega)
        have HE : Hid ((acc ++ hd ++ lt ++ argK (X.args.take j)) ++ ((⟨#[32]⟩ : ByteArray) ++ ⟨(itoa X.args[j]).toArray⟩).data.toList = acc ++ hd ++ lt ++ argK (X.args.take (j + 1))) := by
         show _ = _
         rw [argK_succ hjl]
         simp [ByteArray.data_append]
        have j1 : (0 : Int) ≤ (j : Int) := by omega
        have j2 : (j : Int) < (X.args.length : Int) := by omega
        have hcat : ¬ (9223372036854775807 < 1 + (itoa X.args[j]).length) := by omega
        have HIT := Tre.hid (itoa_int X.args[j] wr hpos.1 hpos.2 (HT.out.below hI.out.below))
        have hI2 := hI
        generalize X.args[j] = z at *
        clear hI hrow
        go_wp2_with fail
        refine HIT.out.mono ?_
        rintro e w5 ⟨rfl, q5⟩
        have WS := Tre.hid (wStr ((⟨#[32]⟩ : ByteArray) ++ ⟨(itoa z).toArray⟩) (hI2.out.quiet q5) (by have hz := size_mk (itoa z); rw [ByteArray.size_append, hz]; simp only [List.length_append]; show _ + (1 + _) ≤ _; omega))
        clear HIT hI2 q5
        go_wp2_with fail
        refine WS.out.mono ?_
        rintro e w6 ⟨rfl, h6⟩
        rw [HE.out] at h6
        have H6 := Tre.hid h6
        clear h6 WS
        go_wp2_with fail
        go_roundw
        case rel => exact ⟨j + 1, by omega, by go_num, H6.out⟩
        case measure => simp [intOf]; omega
       ·have e : j = X.args.length := by omega
        subst e
        have hI' := hI.out
        rw [List.take_length] at hI'
        have WB := Tre.hid (wByte 59 hI' (by simp only [List.length_append]; omega))
        clear hI hI' z0 z1 z2 z3 z4
        go_wp2_with fail
        refine WB.out.mono ?_
        rintro e w7 ⟨rfl, h7⟩
        rw [← HKS.out] at h7
        have H7 := Tre.hid (h7.subs (ss := [nodesR (.slice (some ⟨b1, 0, none⟩) ds.length c1) ds, kidsR ds, cellsR w.heap.size 24 #[.slice a g.ns.length ca, .int .i64 g.root]]) (List.sublist_cons_self ..))
        clear h7 WB
        go_wp2_with fail
        go_roundw
        case rel => exact ⟨k + 1, by have := HLT.out; omega, by go_num, H7.out⟩
        case measure => have := HLT.out; simp [intOf]; omega
  ·have e : k = L.length := by omega
   subst e
   have hQ' := hQ.out
   rw [List.take_length] at hQ'
   have HBT := Tre.hid (bText hQ')
   clear hQ hQ'
   have hdl := HDL.out
   go_wp2_with fail
   refine HBT.out.mono ?_
   rintro e w8 ⟨rfl, b8⟩
   go_wp2_with fail
   go_ret
   exact ⟨rfl, b8⟩
end Go.Proofs.YtaleodkbghogfaaGreatDoor.gr
namespace Go.Proofs.YtaleodkbghogfaaGreatDoor.gr
open Go.RowKit Go.Shelf Go.Maps Go.Tre lex
set_option maxRecDepth 100000 in
set_option maxHeartbeats 8000000 in
theorem alive09 (w : World) (E : LexEnv w) (ht : TabAt w) : Calls Tryz.prog 8 #[] w fun e w' => e = .returned (.bool true) ∧ Below w.heap.size w w' := by
 have HE := Tre.hid E
 have HT := Tre.hid ht
 have HM0 := Tre.hid (Mem.nil w)
 have hfd := fieldG
 have R1 := Tre.hid (load.Read_ok ⟨#[105, 110, 116, 32, 45, 62, 32, 105, 110, 116, 32, 45, 62, 32, 39, 97, 32, 97, 115, 32, 39, 97]⟩ _ readsA w (by decide) E)
 clear E ht
 go_enter Tryz.func8, Tryz.ntmps8
 go_wp2_with fail
 refine R1.out.mono ?_
 rintro e w1 ⟨v1, ds, rfl, hds, m1⟩
 have M1 := HM0.out.call m1
 obtain ⟨a1, c1, rfl, _⟩ := M1.val 0 rfl
 have HDS := Tre.hid hds
 have M2 := M1.allocR #[.slice a1 ds.length c1, .int .i64 0] 24
 have HM2 := Tre.hid M2
 clear m1 hds M1 M2 R1 HM0
 have R2 := Tre.hid (load.Read_ok ⟨#[105, 110, 116, 32, 45, 62, 32, 39, 97, 32, 97, 115, 32, 39, 97]⟩ _ readsB _ (by decide) (HE.out.below HM2.out.below))
 go_wp2_with fail
 refine R2.out.mono ?_
 rintro e w3 ⟨v3, dt, rfl, hdt, m3⟩
 have M3 := HM2.out.call m3
 obtain ⟨a3, c3, rfl, _⟩ := M3.val 0 rfl
 have HDT := Tre.hid hdt
 obtain ⟨p0, p1⟩ := M3.two 2 rfl
 have M4 := M3.allocR #[.slice a3 dt.length c3, .int .i64 0] 24
 have HM4 := Tre.hid M4
 clear m3 hdt M3 M4 R2
 have hlA : ds.length = (graphOf tyA).ns.length := by rw [← HDS.out, List.length_map]
 have hlB : dt.length = (graphOf tyB).ns.length := by rw [← HDT.out, List.length_map]
 have HKA : Hid (∀ W, NodesAt W a1 (graphOf tyA).ns → MaxAt W → TabAt W → Calls Tryz.prog 11 #[.agg #[.slice a1 ds.length c1, .int .i64 0]] W fun e w' => e = .returned (.string ⟨#[45, 62, 32, 49, 32, 48, 59, 105, 110, 116, 59]⟩) ∧ Below W.heap.size W w') := fun W h1 h2 h3 => by
  have K := key_any a1 c1 (graphOf tyA) W h1 weightA h2 h3 okA
  rw [keyA, rootA, ← hlA] at K
  exact K
 have HKB : Hid (∀ W, NodesAt W a3 (graphOf tyB).ns → MaxAt W → TabAt W → Calls Tryz.prog 11 #[.agg #[.slice a3 dt.length c3, .int .i64 0]] W fun e w' => e = .returned (.string ⟨#[45, 62, 32, 49, 32, 48, 59, 105, 110, 116, 59]⟩) ∧ Below W.heap.size W w') := fun W h1 h2 h3 => by
  have K := key_any a3 c3 (graphOf tyB) W h1 weightB h2 h3 okB
  rw [keyB, rootB, ← hlB] at K
  exact K
 have HLA : Hid (∀ W, NodesAt W a1 (graphOf tyA).ns → MaxAt W → TabAt W → Calls Tryz.prog 13 #[.agg #[.slice a1 ds.length c1, .int .i64 0]] W fun e w' => ∃ v d2, e = .returned (.agg #[v, .int .i64 0]) ∧ d2.map NodeV.n = (graphOf tyA).leastG.ns ∧ Mem W w' [nodesR v d2, kidsR d2]) := fun W h1 h2 h3 => by
  have K := least_any a1 c1 (graphOf tyA) W h1 weightA h2 h3 okA
  rw [rootA, ← hlA] at K
  exact K
 clear hlA hlB
 obtain ⟨z0, z1⟩ := HM4.out.two 0 rfl
 obtain ⟨y0, y1⟩ := HM4.out.two 3 rfl
 have NA := nodes_read (HM4.out.at_ 4 rfl) (HM4.out.at_ 5 rfl)
 rw [HDS.out] at NA
 have NB := nodes_read (HM4.out.at_ 1 rfl) (HM4.out.at_ 2 rfl)
 rw [HDT.out] at NB
 have HNA := Tre.hid NA
 have HNB := Tre.hid NB
 have HX := Tre.hid (HE.out.max.below HM4.out.below)
 have HT4 := Tre.hid (HT.out.below HM4.out.below)
 clear NA NB HE HT HM2
 go_wp2_with fail
 refine (HKA.out _ HNA.out HX.out HT4.out).mono ?_
 rintro e w5 ⟨rfl, q5⟩
 clear z0 z1 y0 y1
 have HM5 := Tre.hid (HM4.out.quiet q5)
 have HNA5 := Tre.hid (HNA.out.below q5)
 have HNB5 := Tre.hid (HNB.out.below q5)
 have HX5 := Tre.hid (HX.out.below q5)
 have HT5 := Tre.hid (HT4.out.below q5)
 clear q5 HM4 HNA HNB HX HT4
 obtain ⟨z0, z1⟩ := HM5.out.two 0 rfl
 obtain ⟨y0, y1⟩ := HM5.out.two 3 rfl
 go_wp2_with fail
 refine (HKB.out _ HNB5.out HX5.out HT5.out).mono ?_
 rintro e w6 ⟨rfl, q6⟩
 clear z0 z1 y0 y1
 have HM6 := Tre.hid (HM5.out.quiet q6)
 have HNA6 := Tre.hid (HNA5.out.below q6)
 have HX6 := Tre.hid (HX5.out.below q6)
 have HT6 := Tre.hid (HT5.out.below q6)
 clear q6 HM5 HNA5 HNB5 HX5 HT5
 obtain ⟨y0, y1⟩ := HM6.out.two 3 rfl
 go_wp2_with fail
 refine (HLA.out _ HNA6.out HX6.out HT6.out).mono ?_
 rintro e w7 ⟨v7, d7, rfl, hd7, m7⟩
 obtain ⟨a7, c7, rfl, _⟩ := m7.val 0 rfl
 have h7 : d7.length = 2 := by rw [← leastA, ← hd7, List.length_map]
 rw [h7]
 have HM7 := Tre.hid (HM6.out.quiet m7.below)
 clear m7 hd7 h7
 go_wp2_with fail
 go_ret
 exact ⟨rfl, HM7.out.below⟩
end Go.Proofs.YtaleodkbghogfaaGreatDoor.gr
namespace Go.Tre
def ringNode (k : Nat) (lab : Nat → ByteArray) (op : Nat → Bool) (i : Nat) : Tre.Node := ⟨3, ByteArray.empty, [(((i + 1) % k : Nat) : Int)], [lab i], op i⟩
def ringG (k : Nat) (lab : Nat → ByteArray) (op : Nat → Bool) : Tre.Graph := ⟨(List.range k).map (ringNode k lab op), 0⟩
section
variable {k : Nat} {lab : Nat → ByteArray} {op : Nat → Bool}
theorem ring_len : (ringG k lab op).ns.length = k := by simp [ringG]
theorem ring_nd {i : Nat} (h : i < k) : (ringG k lab op).nd i = ringNode k lab op i := by
 rw [Graph.nd_eq (by rw [ring_len]; exact h)]
 simp [ringG]
theorem ring_ok (h0 : 0 < k) (h1 : k ≤ 1048576) (hn : ∀ i, isName (lab i) = true) : (ringG k lab op).checkC = 0 := by
 refine check_mk (by rw [ring_len]; exact h1) (Int.le_refl _) (by rw [ring_len]; show (0 : Int) < k; omega) (fun n hm => ?_)
 rw [ring_len]
 obtain ⟨i, _, rfl⟩ := List.mem_map.1 hm
 have hlt : (i + 1) % k < k := Nat.mod_lt _ h0
 have ho : outside k (((i + 1) % k : Nat) : Int) = false := by
  unfold outside
  simp only [Bool.or_eq_false_iff, decide_eq_false_iff_not]
  omega
 have hr : rising [lab i] = true := by
  unfold rising
  simp [labelOk, hn i]
 unfold mayB ringNode
 simp only [List.any_cons, List.any_nil, ho, hr]
 rfl
theorem ring_kid_lt {i : Nat} (h0 : 0 < k) : (i + 1) % k < k := Nat.mod_lt _ h0
theorem ring_all {l : ByteArray} (hl : ∀ i, lab i = l) (ho : ∀ i, op i = false) : ∀ m, (ringG k lab op).iterL m = List.replicate k 0
 | 0 => by show List.replicate _ 0 = _; rw [ring_len]
 | m + 1 => by
  show (ringG k lab op).refineL _ = _
  rw [ring_all hl ho m]
  unfold Graph.refineL
  rw [ring_len]
  have hz : ∀ a : Nat, (List.replicate k 0).getD a 0 = 0 := fun a => by
   rw [List.getD_eq_getElem?_getD, List.getElem?_replicate]; split <;> rfl
  have hc : (fun a => (List.replicate k 0).getD a 0) = fun _ : Nat => 0 := funext hz
  rw [hc]
  refine List.ext_getElem (by simp) (fun i h1 h2 => ?_)
  have hi : i < k := by simpa using h1
  rw [List.getElem_map, List.getElem_range, List.getElem_replicate]
  have h3 : (ringG k lab op).keyL (fun _ => 0) i = (ringG k lab op).keyL (fun _ => 0) 0 := by
   unfold Graph.keyL
   rw [ring_nd hi, ring_nd (show 0 < k by omega)]
   have e : ∀ j, lookL (ringNode k lab op j) (fun _ => 0) = lookL (ringNode k (fun _ => l) (fun _ => false) 0) (fun _ => 0) := fun j => by
    simp [lookL, ringNode, hl j]
   have f : ∀ j, freeC (ringNode k lab op j) = false := fun j => by simp [freeC, ringNode, ho j]
   rw [e i, e 0, f i, f 0]
   rfl
  have h4 := (refine_iff (g := ringG k lab op) (cl := fun _ => 0)).2 h3
  rw [h4]
  have := refine_le (g := ringG k lab op) (cl := fun _ => 0) (i := 0)
  omega
theorem ring_cls0 {l : ByteArray} (hl : ∀ i, lab i = l) (ho : ∀ i, op i = false) (a : Nat) : (ringG k lab op).cls a = 0 := by
 unfold Graph.cls Graph.classesL
 rw [ring_all hl ho, List.getD_eq_getElem?_getD, List.getElem?_replicate]; split <;> rfl
theorem ring_one {l : ByteArray} (hl : ∀ i, lab i = l) (ho : ∀ i, op i = false) (h0 : 0 < k) (h1 : k ≤ 1048576) (hn : isName l = true) : (ringG k lab op).leastG.ns.length = 1 := by
 have ok := ring_ok (k := k) (lab := lab) (op := op) h0 h1 (fun i => by rw [hl]; exact hn)
 have qok := quot_ok ok
 show (ringG k lab op).quotG.trim.ns.length = 1
 rw [trim_len]
 have hall : ∀ a ∈ (ringG k lab op).quotG.reachL, a < 1 := by
  intro a ha
  have hr := (Graph.mem_reach qok).1 ha
  have hroot : (ringG k lab op).quotG.root.toNat = 0 := by
   show ((((ringG k lab op).cls _ : Nat)) : Int).toNat = 0
   rw [ring_cls0 hl ho]; rfl
  rw [hroot] at hr
  have : a = 0 := by
   induction hr with
   | refl => rfl
   | step hb hc ih =>
    have ihb := ih ((Graph.mem_reach qok).2 (by rw [hroot]; exact hb))
    subst ihb
    unfold Graph.kids at hc
    rw [quot_nd (by rw [ring_len]; exact h0), cls_kids] at hc
    obtain ⟨x, _, rfl⟩ := List.mem_map.1 hc
    exact ring_cls0 hl ho _
  omega
 have h2 := nodup_len (Graph.reach_nodup _) hall
 have h3 := List.length_pos_of_mem (mem_root qok)
 omega
theorem ring_step {a b : Nat} (og : (ringG k lab op).Ok) (ha : a < k) (hb : b < k) (hne : a ≠ b) (h : (ringG k lab op).cls a = (ringG k lab op).cls b) :
  (op a = false ∧ op b = false ∧ lab a = lab b) ∧ (ringG k lab op).cls ((a + 1) % k) = (ringG k lab op).cls ((b + 1) % k) := by
 have h1 := (key_inj og (by rw [ring_len]; exact ha) (by rw [ring_len]; exact hb) ((cls_iff (by rw [ring_len]; exact ha) (by rw [ring_len]; exact hb)).1 h)).2
 rcases h1 with e | ⟨f1, f2, _, _, h3, h4⟩
 ·exact absurd e hne
 ·rw [ring_nd ha] at f1 h3 h4
  rw [ring_nd hb] at f2 h3 h4
  have g1 : op a = false := by simpa [freeC, ringNode] using f1
  have g2 : op b = false := by simpa [freeC, ringNode] using f2
  have g3 : lab a = lab b := by simpa [ringNode] using h3
  have g4 : (ringG k lab op).cls ((a + 1) % k) = (ringG k lab op).cls ((b + 1) % k) := by
   have h5 : [(ringG k lab op).cls ((((a + 1) % k : Nat) : Int)).toNat] = [(ringG k lab op).cls ((((b + 1) % k : Nat) : Int)).toNat] := h4
   rw [Int.toNat_natCast, Int.toNat_natCast] at h5
   exact (List.cons.inj h5).1
  exact ⟨⟨g1, g2, g3⟩, g4⟩
theorem mod_inj {a b t : Nat} (ha : a < k) (hb : b < k) (h : (a + t) % k = (b + t) % k) : a = b := by
 have h1 : (a + t) % k = ((a + t % k)) % k := by rw [Nat.add_mod, Nat.add_mod a (t % k), Nat.mod_mod]
 have h2 : (b + t) % k = ((b + t % k)) % k := by rw [Nat.add_mod, Nat.add_mod b (t % k), Nat.mod_mod]
 rw [h1, h2] at h
 have ht : t % k < k := Nat.mod_lt _ (by omega)
 generalize t % k = s at h ht
 by_cases h3 : a + s < k
 ·rw [Nat.mod_eq_of_lt h3] at h
  by_cases h4 : b + s < k
  ·rw [Nat.mod_eq_of_lt h4] at h; omega
  ·rw [Nat.mod_eq_sub_mod (by omega), Nat.mod_eq_of_lt (by omega)] at h; omega
 ·rw [Nat.mod_eq_sub_mod (by omega), Nat.mod_eq_of_lt (by omega)] at h
  by_cases h4 : b + s < k
  ·rw [Nat.mod_eq_of_lt h4] at h; omega
  ·rw [Nat.mod_eq_sub_mod (by omega), Nat.mod_eq_of_lt (by omega)] at h; omega
theorem ring_iter {a b : Nat} (og : (ringG k lab op).Ok) (ha : a < k) (hb : b < k) (hne : a ≠ b) (h : (ringG k lab op).cls a = (ringG k lab op).cls b) :
  ∀ t, (ringG k lab op).cls ((a + t) % k) = (ringG k lab op).cls ((b + t) % k)
 | 0 => by rw [Nat.add_zero, Nat.add_zero, Nat.mod_eq_of_lt ha, Nat.mod_eq_of_lt hb]; exact h
 | t + 1 => by
  have ih := ring_iter og ha hb hne h t
  have hk : 0 < k := by omega
  have := (ring_step og (Nat.mod_lt (a + t) hk) (Nat.mod_lt (b + t) hk) (fun e => hne (mod_inj ha hb e)) ih).2
  rw [Nat.mod_add_mod, Nat.mod_add_mod] at this
  exact this
theorem ring_apart {i : Nat} (og : (ringG k lab op).Ok) (hi : i < k) (hx : op i = true ∨ ∀ j, j ≠ i → lab j ≠ lab i) {a b : Nat} (ha : a < k) (hb : b < k) (h : (ringG k lab op).cls a = (ringG k lab op).cls b) : a = b := by
 by_cases hne : a = b
 ·exact hne
 ·exfalso
  have hk : 0 < k := by omega
  have h1 := ring_iter og ha hb hne h (i + k - a)
  have e1 : (a + (i + k - a)) % k = i := by rw [show a + (i + k - a) = i + k by omega, Nat.add_mod_right, Nat.mod_eq_of_lt hi]
  have hb2 : (b + (i + k - a)) % k ≠ i := fun e => hne (mod_inj ha hb (e1.trans e.symm))
  rw [e1] at h1
  have h2 := (ring_step og hi (Nat.mod_lt _ hk) (Ne.symm hb2) h1).1
  rcases hx with hx | hx
  ·rw [h2.1] at hx; cases hx
  ·exact hx _ hb2 h2.2.2.symm
theorem ring_many {i : Nat} (h0 : 0 < k) (h1 : k ≤ 1048576) (hn : ∀ i, isName (lab i) = true) (hi : i < k) (hx : op i = true ∨ ∀ j, j ≠ i → lab j ≠ lab i) : (ringG k lab op).leastG.ns.length = k := by
 have ok := ring_ok (k := k) (lab := lab) (op := op) h0 h1 hn
 have og := Graph.ok_of ok
 have qok := quot_ok ok
 have hcls : ∀ a, a < k → (ringG k lab op).cls a = a := fun a ha => by
  have hl : a < (ringG k lab op).ns.length := by rw [ring_len]; exact ha
  have h2 := cls_lt og hl
  rw [ring_len] at h2
  exact ring_apart og hi hx h2 ha ((cls_iff (by rw [ring_len]; exact h2) hl).2 (cls_key hl))
 show (ringG k lab op).quotG.trim.ns.length = k
 rw [trim_len]
 have hroot : (ringG k lab op).quotG.root.toNat = 0 := by
  show ((((ringG k lab op).cls 0 : Nat)) : Int).toNat = 0
  rw [hcls 0 h0]; rfl
 have hall : ∀ a, a < k → a ∈ (ringG k lab op).quotG.reachL := by
  intro a
  induction a with
  | zero => intro _; have := mem_root qok; rwa [hroot] at this
  | succ a ih =>
   intro ha
   have h3 := ih (by omega)
   refine (Graph.mem_reach qok).2 (((Graph.mem_reach qok).1 h3).step ?_)
   unfold Graph.kids
   rw [quot_nd (by rw [ring_len]; omega), cls_kids, ring_nd (show a < k by omega)]
   show a + 1 ∈ [(ringG k lab op).cls ((((a + 1) % k : Nat) : Int)).toNat]
   rw [Int.toNat_natCast, Nat.mod_eq_of_lt ha, hcls _ ha]
   exact List.mem_singleton.2 rfl
 have h2 := nodup_len (Graph.reach_nodup (ringG k lab op).quotG) (fun a ha => by have := Graph.reach_lt _ a ha; rwa [quot_len, ring_len] at this)
 have h3 : (List.range k).length ≤ (ringG k lab op).quotG.reachL.length := List.Nodup.length_le_of_subset List.nodup_range (fun a ha => hall a (List.mem_range.1 ha))
 rw [List.length_range] at h3
 omega
theorem next_name : isName ⟨#[110, 101, 120, 116]⟩ = true := by decide +kernel
theorem other_name : isName ⟨#[111, 116, 104, 101, 114]⟩ = true := by decide +kernel
end
end Go.Tre
namespace Go.Tre
def nextB : ByteArray := ⟨#[110, 101, 120, 116]⟩
def otherB : ByteArray := ⟨#[111, 116, 104, 101, 114]⟩
theorem ring_set {k i : Nat} (f : Nat → Tre.Node) (x : Tre.Node) : ((List.range k).map f).set i x = (List.range k).map (fun m => if m = i then x else f m) := by
 refine List.ext_getElem (by simp) (fun m h1 h2 => ?_)
 have hm : m < k := by simpa using h1
 rw [List.getElem_set, List.getElem_map, List.getElem_map, List.getElem_range]
 by_cases e : i = m
 ·subst e; simp
 ·rw [if_neg e, if_neg (fun h => e h.symm)]
theorem ring_open {k i : Nat} (b : Bool) (hi : i < k) : ((ringG k (fun _ => nextB) (fun _ => false)).ns.set i { ringNode k (fun _ => nextB) (fun _ => false) i with isOpen := b }) = (ringG k (fun _ => nextB) (fun m => if m = i then b else false)).ns := by
 show ((List.range k).map _).set i _ = (List.range k).map _
 rw [ring_set]
 refine List.map_congr_left (fun m _ => ?_)
 by_cases e : m = i
 ·subst e; rw [if_pos rfl]; simp [ringNode]
 ·rw [if_neg e]; simp [ringNode, e]
theorem ring_other {k i : Nat} (hi : i < k) : ((ringG k (fun _ => nextB) (fun _ => false)).ns.set i { ringNode k (fun _ => nextB) (fun _ => false) i with labels := [otherB] }) = (ringG k (fun m => if m = i then otherB else nextB) (fun _ => false)).ns := by
 show ((List.range k).map _).set i _ = (List.range k).map _
 rw [ring_set]
 refine List.map_congr_left (fun m _ => ?_)
 by_cases e : m = i
 ·subst e; rw [if_pos rfl]; simp [ringNode]
 ·rw [if_neg e]; simp [ringNode, e]
theorem names_next : ∀ i : Nat, isName ((fun _ : Nat => nextB) i) = true := fun _ => next_name
theorem names_other (j : Nat) : ∀ i : Nat, isName ((fun m : Nat => if m = j then otherB else nextB) i) = true := fun i => by
 by_cases e : i = j
 ·simp only [if_pos e]; exact other_name
 ·simp only [if_neg e]; exact next_name
theorem ring_first {k : Nat} (h0 : 0 < k) (h1 : k ≤ 1048576) : (ringG k (fun _ => nextB) (fun _ => false)).leastG.ns.length = 1 := ring_one (l := nextB) (fun _ => rfl) (fun _ => rfl) h0 h1 next_name
theorem ring_opened {k i : Nat} (h1 : k ≤ 1048576) (hi : i < k) : (ringG k (fun _ => nextB) (fun m => if m = i then true else false)).leastG.ns.length = k :=
 ring_many (by omega) h1 names_next hi (.inl (by simp))
theorem ring_othered {k i : Nat} (h1 : k ≤ 1048576) (hi : i < k) : (ringG k (fun m => if m = i then otherB else nextB) (fun _ => false)).leastG.ns.length = k :=
 ring_many (by omega) h1 (names_other i) hi (.inr (fun j hj => by simp only [if_neg hj, if_true]; decide))
theorem ring_weight {k : Nat} {lab : Nat → ByteArray} {op : Nat → Bool} (hl : ∀ i, (lab i).size ≤ 5) (hk : k ≤ 21) : (ringG k lab op).weight ≤ 200 := by
 have key : ∀ l : List Nat, ((l.map (ringNode k lab op)).map Tre.Node.weight).sum ≤ 8 * l.length := fun l => by
  induction l with
  | nil => simp
  | cons a l ih =>
   have := hl a
   have e : (ringNode k lab op a).weight = 3 + (lab a).size := by
    unfold Node.weight ringNode
    have h0 : ByteArray.empty.size = 0 := rfl
    simp only [h0, List.length_cons, List.length_nil, List.map_cons, List.map_nil, List.sum_cons, List.sum_nil]
    omega
   simp only [List.map_cons, List.sum_cons, List.length_cons]
   omega
 have := key (List.range k)
 rw [List.length_range] at this
 show ((List.map _ _).map _).sum ≤ _
 omega
end Go.Tre
namespace Go.Proofs.YtaleodkbghogfaaGreatDoor.gr
open Go.RowKit Go.Shelf Go.Maps Go.Tre lex
theorem cells_set (ds : List NodeV) (k j : Nat) (d d' : NodeV) (u : Value) (hd : ds[k]? = some d) (hj : j < 5) (hc : d.cells.set j u = d'.cells) : (ds.flatMap NodeV.cells).set (k * 5 + j) u = (ds.set k d').flatMap NodeV.cells := by
 refine List.ext_getElem? (fun i => ?_)
 have hk := (List.getElem?_eq_some_iff.1 hd).1
 have e : i = i / 5 * 5 + i % 5 := by omega
 have h5 : i % 5 < 5 := by omega
 by_cases hi : i / 5 < ds.length
 ·have hx : ds[i / 5]? = some ds[i / 5] := List.getElem?_eq_getElem hi
  rw [List.getElem?_set, cells_len]
  by_cases hik : i / 5 = k
  ·have hset : (ds.set k d')[i / 5]? = some d' := by rw [hik, List.getElem?_set, if_pos rfl, if_pos hk]
   have h2 := cells_at (ds.set k d') (i / 5) (i % 5) d' hset h5
   rw [← e] at h2
   have h1 := cells_at ds (i / 5) (i % 5) d (by rw [hik]; exact hd) h5
   rw [← e] at h1
   rw [h2, ← hc, List.getElem?_set]
   have hl : d.cells.length = 5 := rfl
   by_cases hij : j = i % 5
   ·rw [if_pos (by omega), if_pos (by omega), if_pos hij, if_pos (by omega)]
   ·rw [if_neg (by omega), if_neg hij, h1]
  ·have hset : (ds.set k d')[i / 5]? = some ds[i / 5] := by rw [List.getElem?_set, if_neg (fun h => hik h.symm)]; exact hx
   have h2 := cells_at (ds.set k d') (i / 5) (i % 5) _ hset h5
   rw [← e] at h2
   have h1 := cells_at ds (i / 5) (i % 5) _ hx h5
   rw [← e] at h1
   rw [if_neg (by omega), h1, h2]
 ·rw [List.getElem?_eq_none (by rw [List.length_set, cells_len]; omega), List.getElem?_eq_none (by rw [cells_len, List.length_set]; omega)]
end Go.Proofs.YtaleodkbghogfaaGreatDoor.gr
