/- canon.Key. Layer 9: the document's example. Layer 9, plain: a graph whose closed nodes stand twice has the same least one; a type beside itself or another one. -/
import Derived.Test.YtaleodkbghogfaaGreatDoorB36
import Derived.Test.YtaleodkbghogfaaGreatDoorB20
import Derived.Test.YtaleodkbghogfaaGreatDoorB34
import Derived.Deep.CutBlock
import Derived.Test.YtaleodkbghogfaaGreatDoorB33
import Derived.Test.YtaleodkbghogfaaGreatDoorB19
set_option linter.unusedVariables false
namespace Go.Tre
open Go.RowKit
open Go.Lib (decDigits itoa)
def argK (l : List Int) : List UInt8 := (l.map itoa).flatMap (fun l => 32 :: l)
theorem argK_succ {l : List Int} {k : Nat} (h : k < l.length) : argK (l.take (k + 1)) = argK (l.take k) ++ (32 :: itoa l[k]) := by
 unfold argK
 rw [List.take_add_one, List.getElem?_eq_getElem h, List.map_append, List.flatMap_append]
 simp only [Option.toList_some, List.map_cons, List.map_nil, List.flatMap_cons, List.flatMap_nil, List.append_nil]
theorem argK_len {l : List Int} (h : ∀ a ∈ l, 0 ≤ a ∧ a ≤ 8388608) : (argK l).length ≤ 22 * l.length := by
 unfold argK
 induction l with
 | nil => simp
 | cons a l ih =>
  have h1 := h a (by simp)
  have := Lib.itoa_length_le a (by omega) (by omega)
  have := ih (fun x hx => h x (by simp [hx]))
  simp only [List.map_cons, List.flatMap_cons, List.length_append, List.length_cons]
  omega
theorem nodeK_eq (n : Tre.Node) : nodeK n = headK n ++ (labText n.labels ++ argK n.args) := by
 unfold nodeK pieceK labText argK
 rw [List.flatMap_append]
theorem keyK_succ {l : List Tre.Node} {k : Nat} (h : k < l.length) : keyK (l.take (k + 1)) = keyK (l.take k) ++ headK l[k] ++ labText l[k].labels ++ argK l[k].args ++ [59] := by
 unfold keyK
 rw [List.take_add_one, List.getElem?_eq_getElem h, List.flatMap_append]
 simp only [Option.toList_some, List.flatMap_cons, List.flatMap_nil, List.append_nil, nodeK_eq, List.append_assoc]
theorem headK_len (n : Tre.Node) : (headK n).length ≤ 3 + n.name.size := by
 have := Lib.size_eq n.name
 unfold headK
 split
 ·simp only [List.length_cons, List.length_nil]; omega
 ·split
  ·cases n.isOpen <;> simp <;> omega
  ·omega
theorem nodeK_len {n : Tre.Node} (h : ∀ a ∈ n.args, 0 ≤ a ∧ a ≤ 8388608) : (nodeK n ++ [59]).length ≤ 22 * n.weight := by
 have h1 := headK_len n
 have h2 := argK_len h
 have h3 := labText_len n.labels
 rw [nodeK_eq]
 unfold Node.weight
 simp only [List.length_append, List.length_cons, List.length_nil]
 omega
theorem keyK_len : ∀ {l : List Tre.Node}, (∀ n ∈ l, ∀ a ∈ n.args, 0 ≤ a ∧ a ≤ 8388608) → (keyK l).length ≤ 22 * (l.map Tre.Node.weight).sum
 | [], _ => by simp [keyK]
 | n :: l, h => by
  have h1 := nodeK_len (h n (by simp))
  have h2 := keyK_len (l := l) (fun m hm => h m (by simp [hm]))
  have e : keyK (n :: l) = (nodeK n ++ [59]) ++ keyK l := by simp [keyK]
  rw [e, List.length_append]
  simp only [List.map_cons, List.sum_cons]
  omega
end Go.Tre
namespace Go.Proofs.YtaleodkbghogfaaGreatDoor.gr
open Go.RowKit Go.Shelf Go.Maps Go.Tre lex
open Go.Lib (decDigits itoa)
theorem fieldG (n c : Nat) (a : Option Addr) (r : Int) (w : World) : (Instr.field 24 (.agg #[.slice a n c, .int .i64 r]) 0).run Tryz.prog w = .ok (.slice a n c) w := by kernel_rfl
theorem itoa_int (a : Int) (w : World) (h0 : 0 ≤ a) (h1 : a ≤ 8388608) (ht : TabAt w) :
  Calls Tryz.prog 24 #[.int .i64 a] w fun e w' => e = .returned (.string ⟨(itoa a).toArray⟩) ∧ Below w.heap.size w w' := by
 obtain ⟨n, rfl⟩ := Int.eq_ofNat_of_zero_le h0
 rw [Lib.itoa_nonneg]
 exact itoa_any n w (by omega) ht
set_option maxRecDepth 100000 in
set_option maxHeartbeats 8000000 in
theorem key_any (a : Option Addr) (ca : Nat) (g : Tre.Graph) (w : World) (hg : NodesAt w a g.ns) (wg : g.weight ≤ 2097152) (hm : MaxAt w) (ht : TabAt w) (c0 : g.checkC = 0) :
  Calls Tryz.prog 11 #[.agg #[.slice a g.ns.length ca, .int .i64 g.root]] w fun e w' => e = .returned (.string ⟨(keyK g.leastG.ns).toArray⟩) ∧ Below w.heap.size w w' := by
 have MA := (Mem.nil w).allocR #[.slice a g.ns.length ca, .int .i64 g.root] 24
 have M := MA.allocR #[.pointer none, .slice none 0 0] 52
 simp only [heapSize_alloc] at M
 obtain ⟨g0, g1⟩ := M.two 1 rfl
 have HL := Tre.hid (least_any a ca g _ (hg.below M.below) wg (hm.below M.below) (ht.below M.below) c0)
 have HT := Tre.hid ht
 have OL := Graph.ok_of (least_ok c0)
 have HA : Hid (∀ n ∈ g.leastG.ns, ∀ a ∈ n.args, 0 ≤ a ∧ a ≤ 8388608) := fun n hn a ha => by
  obtain ⟨i, hi, rfl⟩ := List.getElem_of_mem hn
  rw [← Graph.nd_eq hi, OL.kids_eq hi] at ha
  obtain ⟨z, hz, rfl⟩ := List.mem_map.1 ha
  have h1 := OL.kids_lt hi z hz
  have h2 := OL.len
  omega
 have HW : Hid (g.leastG.weight ≤ 2097152) := by
  show _ ≤ _
  refine Nat.le_trans (Graph.trim_weight _) ?_
  rw [quot_weight]; exact wg
 have HWN : Hid (∀ n ∈ g.leastG.ns, n.weight ≤ 2097152) := fun n hn => Nat.le_trans (node_weight hn) HW.out
 have HB : Hid (∀ k, (keyK (g.leastG.ns.take k)).length ≤ 46137344) := fun k => by
  have h1 := keyK_len (l := g.leastG.ns.take k) (fun n hn => HA.out n (List.mem_of_mem_take hn))
  have h2 := sum_take_le Tre.Node.weight g.leastG.ns k
  have h3 := HW.out
  unfold Graph.weight at h3
  omega
 have hl5 : g.leastG.ns.length ≤ 1048576 := OL.len
 generalize g.leastG.ns = L at *
 have HM0 := Tre.hid M
 clear MA M hg hm ht wg OL HW c0
 go_enter Tryz.func11, Tryz.ntmps11
 go_wp2_with fail
 refine HL.out.mono ?_
 rintro e w1 ⟨v1, ds, rfl, hds, m1⟩
 have M1 := HM0.out.call m1
 obtain ⟨a1, c1, rfl, _⟩ := M1.val 0 rfl
 have hdl : ds.length = L.length := by rw [← hds, List.length_map]
 have HDS := Tre.hid hds
 have HM1 : Hid (BldM w w1 (w.heap.size + 1) (keyK (L.take 0)) [nodesR (.slice a1 ds.length c1) ds, kidsR ds, cellsR w.heap.size 24 #[.slice a g.ns.length ca, .int .i64 g.root]]) :=
  ⟨.pointer none, .slice none 0 0, .inl rfl, ((M1.front 2 rfl).addNil 5 1).front 1 rfl⟩
 have HLW : Hid (∀ n ∈ L, n.name.size ≤ 2097152 ∧ (labText n.labels).length ≤ 2097152 ∧ (argK n.args).length ≤ 46137344 ∧ (∀ j, (labText (n.labels.take j)).length ≤ 2097152) ∧ (∀ j, (argK (n.args.take j)).length ≤ 46137344) ∧ (∀ j (h : j < n.labels.length), n.labels[j].size ≤ 2097152) ∧ n.labels.length ≤ 2097152 ∧ n.args.length ≤ 2097152) := fun n hn => by
  have h1 := HWN.out n hn
  unfold Node.weight at h1
  have h2 := labText_len n.labels
  have h3 := argK_len (HA.out n hn)
  have h9 : n.labels.length ≤ 2097152 := Nat.le_trans (length_le_sum _ (fun s => by omega) n.labels) (by omega : (n.labels.map fun s => s.size + 1).sum ≤ 2097152)
  refine ⟨by omega, by omega, by omega, fun j => ?_, fun j => ?_, fun j hj => ?_, h9, by omega⟩
  ·rw [labText_len]; have := sum_take_le (fun s : ByteArray => s.size + 1) n.labels j; omega
  ·have h4 := argK_len (l := n.args.take j) (fun x hx => HA.out n hn x (List.mem_of_mem_take hx))
   rw [List.length_take] at h4
   omega
  ·have h4 := sum_take_succ (fun s : ByteArray => s.size + 1) n.labels j n.labels[j] (List.getElem?_eq_getElem hj)
   have h5 := sum_take_le (fun s : ByteArray => s.size + 1) n.labels (j + 1)
   omega
 clear M1 m1 hds HM0 HL g0 g1 HWN
 obtain ⟨bb, hbb⟩ : ∃ bb : Nat, w.heap.size + 1 = bb := ⟨_, rfl⟩
 rw [hbb] at HM1 ⊢
 clear hbb
 have hfd := fieldG
 have HDL := Tre.hid hdl
 clear hdl
 go_wp2_with fail
 clear hfd
 go_loopw [14] (fun v14 wr => ∃ k : Nat, k ≤ L.length ∧ v14 = .int .i64 k ∧ Hid (BldM w wr bb (keyK (L.take k)) [nodesR (.slice a1 ds.length c1) ds, kidsR ds, cellsR w.heap.size 24 #[.slice a g.ns.length ca, .int .i64 g.root]])) (fun v14 _ => L.length - (intOf v14).toNat)
 case atStart => exact ⟨0, Nat.zero_le _, rfl, HM1.out⟩
 case round =>
  obtain ⟨k, hk, rfl, hQ⟩ := hrel
  by_cases hlt : k < L.length
  ·obtain ⟨b1, c1', ax, cx, lx, dx, e1, x0, x1, x2, x3, x4, hca, hcl, hrows⟩ := node_held (hQ.out.rest.at_ 0 rfl) (hQ.out.rest.at_ 1 rfl) HDS.out hlt
   cases e1
   have HKS := Tre.hid (keyK_succ hlt)
   have HAX := Tre.hid (HA.out L[k] (List.getElem_mem hlt))
   obtain ⟨q1, q2, q3, q4, q5, q6, q7, q8⟩ := HLW.out L[k] (List.getElem_mem hlt)
   have Q4 := Tre.hid q4
   have Q5 := Tre.hid q5
   have Q6 := Tre.hid q6
   have hkb := HB.out k
   generalize hX : L[k] = X at *
   generalize hacc : keyK (L.take k) = acc at *
   have HR := Tre.hid hrows
   have hh := headK_len X
   have i1 : (0 : Int) ≤ (k : Int) := by omega
   have i2 : (k : Int) < (ds.length : Int) := by have := HDL.out; omega
   have HB1 := hQ.out.allocR #[.int .i64 X.kind, .string X.name, .slice ax X.args.length cx, .slice lx X.labels.length dx, .bool X.isOpen] 33
   obtain ⟨bx, hbx⟩ : ∃ bx : Nat, wr.heap.size = bx := ⟨_, rfl⟩
   rw [hbx] at HB1
   obtain ⟨z0, z1, z2, z3, z4⟩ := five HB1.rest 0 rfl
   have HBX := Tre.hid HB1
   clear HB1 hX hacc q4 q5 q6 hrows
   go_upto_block 2 with fail
   go_cut [] (fun wx => Hid (BldM w wx bb (acc ++ headK X) [cellsR bx 33 #[.int .i64 X.kind, .string X.name, .slice ax X.args.length cx, .slice lx X.labels.length dx, .bool X.isOpen], nodesR (.slice (some ⟨b1, 0, none⟩) ds.length c1) ds, kidsR ds, cellsR w.heap.size 24 #[.slice a g.ns.length ca, .int .i64 g.root]]))
   case first =>
    by_cases k1 : X.kind = 1
    ·have t1 : (X.kind == 1) = true := by simp [k1]
     have HE : Hid (headK X = [118]) := by show _ = _; unfold headK; rw [if_pos k1]
     have WB := Tre.hid (wByte 118 HBX.out (by omega))
     clear HBX hbx k1 hh
     go_wp2_with fail
     refine WB.out.mono ?_
     rintro e w2 ⟨rfl, h2⟩
     have H2 := Tre.hid h2
     clear h2 z0 z1 z2 z3 z4
     go_wp2_with fail
     go_meet
     rw [HE.out]
     exact H2.out
    ·have t1 : (X.kind == 1) = false := by simp [k1]
     by_cases k3 : X.kind = 3
     ·have t3 : (X.kind == 3) = true := by simp [k3]
      have HE : Hid (headK X = [60] ++ ((if X.isOpen then [46, 46] else []) ++ X.name.data.toList)) := by show _ = _; unfold headK; rw [if_neg k1, if_pos k3]; rfl
      have WB := Tre.hid (wByte 60 HBX.out (by omega))
      clear HBX hbx k1 k3 hh
      go_wp2_with fail
      refine WB.out.mono ?_
      rintro e w2 ⟨rfl, h2⟩
      clear z0 z1 z2 z3 z4
      obtain ⟨z0, z1, z2, z3, z4⟩ := five h2.rest 0 rfl
      have H2 := Tre.hid h2
      clear h2 WB
      cases ho : X.isOpen with
      | true =>
       rw [ho] at z4
       have WS := Tre.hid (wStr ⟨#[46, 46]⟩ H2.out (by rw [List.length_append]; show _ + 1 + 2 ≤ _; omega))
       have HE2 : Hid (headK X = [60] ++ ([46, 46] ++ X.name.data.toList)) := by show _ = _; rw [HE.out, ho]; rfl
       clear ho HE
       go_wp2_with fail
       refine WS.out.mono ?_
       rintro e w3 ⟨rfl, h3⟩
       clear z0 z1 z2 z3 z4 H2 WS
       obtain ⟨z0, z1, z2, z3, z4⟩ := five h3.rest 0 rfl
       have WN := Tre.hid (wStr X.name h3 (by simp only [List.length_append, List.length_cons, List.length_nil]; show _ + 2 + _ ≤ _; omega))
       clear h3
       go_wp2_with fail
       refine WN.out.mono ?_
       rintro e w4 ⟨rfl, h4⟩
       have H4 := Tre.hid h4
       clear h4 z0 z1 z2 z3 z4 WN
       go_wp2_with fail
       go_meet
       rw [HE2.out, ← List.append_assoc, ← List.append_assoc]
       exact H4.out
      | false =>
       rw [ho] at z4
       have HE2 : Hid (headK X = [60] ++ X.name.data.toList) := by show _ = _; rw [HE.out, ho]; rfl
       have WN := Tre.hid (wStr X.name H2.out (by simp only [List.length_append, List.length_cons, List.length_nil]; omega))
       clear ho HE H2
       go_wp2_with fail
       refine WN.out.mono ?_
       rintro e w4 ⟨rfl, h4⟩
       have H4 := Tre.hid h4
       clear h4 z0 z1 z2 z3 z4 WN
       go_wp2_with fail
       go_meet
       rw [HE2.out, ← List.append_assoc]
       exact H4.out
     ·have t3 : (X.kind == 3) = false := by simp [k3]
      have HE : Hid (headK X = X.name.data.toList) := by show _ = _; unfold headK; rw [if_neg k1, if_neg k3]
      have WN := Tre.hid (wStr X.name HBX.out (by omega))
      clear HBX hbx k1 k3 hh
      go_wp2_with fail
      refine WN.out.mono ?_
      rintro e w4 ⟨rfl, h4⟩
      have H4 := Tre.hid h4
      clear h4 z0 z1 z2 z3 z4 WN
      go_wp2_with fail
      go_meet
      rw [HE.out]
      exact H4.out
   case rest =>
    clear HBX hbx z0 z1 z2 z3 z4 hQ
    obtain ⟨z0, z1, z2, z3, z4⟩ := five hcut.out.rest 0 rfl
    have HC := Tre.hid hcut.out
    clear hcut
    generalize hhd : headK X = hd at *
    have hcl0 : hd.length + acc.length ≤ 100000000 := by omega
    clear hhd hh hkb
    have HLT := Tre.hid hlt
    have HC0 : Hid (BldM w wc bb (acc ++ hd ++ labText (X.labels.take 0)) [cellsR bx 33 #[.int .i64 X.kind, .string X.name, .slice ax X.args.length cx, .slice lx X.labels.length dx, .bool X.isOpen], nodesR (.slice (some ⟨b1, 0, none⟩) ds.length c1) ds, kidsR ds, cellsR w.heap.size 24 #[.slice a g.ns.length ca, .int .i64 g.root]]) := by show BldM _ _ _ _ _; have := HC.out; rw [show labText (X.labels.take 0) = [] from rfl, List.append_nil]; exact this
    clear HC hlt
    go_wp2_with fail
    go_loopw [35] (fun v35 wr => ∃ j : Nat, j ≤ X.labels.length ∧ v35 = .int .i64 j ∧ Hid (BldM w wr bb (acc ++ hd ++ labText (X.labels.take j)) [cellsR bx 33 #[.int .i64 X.kind, .string X.name, .slice ax X.args.length cx, .slice lx X.labels.length dx, .bool X.isOpen], nodesR (.slice (some ⟨b1, 0, none⟩) ds.length c1) ds, kidsR ds, cellsR w.heap.size 24 #[.slice a g.ns.length ca, .int .i64 g.root]])) (fun v35 _ => X.labels.length - (intOf v35).toNat)
    case atStart => exact ⟨0, Nat.zero_le _, rfl, HC0.out⟩
    case round =>
     obtain ⟨j, hj, rfl, hI⟩ := hrel
     by_cases hjl : j < X.labels.length
     ·have hrow := (HR.out _ (hI.out.rest.at_ 2 rfl)).2
      obtain ⟨b2, o2, rfl, hc⟩ := hrow.at_ j (.string X.labels[j]) (by rw [List.getElem?_map, List.getElem?_eq_getElem hjl]; rfl)
      have hs := Q6.out j hjl
      have hj4 := Q4.out j
      have HE : Hid ((acc ++ hd ++ labText (X.labels.take j)) ++ ((⟨#[32]⟩ : ByteArray) ++ X.labels[j]).data.toList = acc ++ hd ++ labText (X.labels.take (j + 1))) := by
       show _ = _
       rw [labText_succ hjl]
       simp [ByteArray.data_append]
      have j1 : (0 : Int) ≤ (j : Int) := by omega
      have j2 : (j : Int) < (X.labels.length : Int) := by omega
      have hcat : ¬ (9223372036854775807 < 1 + X.labels[j].size) := by omega
      have WS := Tre.hid (wStr ((⟨#[32]⟩ : ByteArray) ++ X.labels[j]) hI.out (by rw [ByteArray.size_append, List.length_append, List.length_append]; show _ + (1 + _) ≤ _; omega))
      generalize X.labels[j] = lab at *
      clear hI hrow
      go_wp2_with fail
      refine WS.out.mono ?_
      rintro e w5 ⟨rfl, h5⟩
      rw [HE.out] at h5
      have H5 := Tre.hid h5
      clear h5 WS
      go_wp2_with fail
      go_roundw
      case rel => exact ⟨j + 1, by omega, by go_num, H5.out⟩
      case measure => simp [intOf]; omega
     ·have e : j = X.labels.length := by omega
      subst e
      have hI' := hI.out
      rw [List.take_length] at hI'
      clear hI z0 z1 z2 z3 z4
      obtain ⟨z0, z1, z2, z3, z4⟩ := five hI'.rest 0 rfl
      generalize hlb : labText X.labels = lt at *
      have HA0 : Hid (BldM w wr bb (acc ++ hd ++ lt ++ argK (X.args.take 0)) [cellsR bx 33 #[.int .i64 X.kind, .string X.name, .slice ax X.args.length cx, .slice lx X.labels.length dx, .bool X.isOpen], nodesR (.slice (some ⟨b1, 0, none⟩) ds.length c1) ds, kidsR ds, cellsR w.heap.size 24 #[.slice a g.ns.length ca, .int .i64 g.root]]) := by show BldM _ _ _ _ _; rw [show argK (X.args.take 0) = [] from rfl, List.append_nil]; exact hI'
      clear hI'
      go_wp2_with fail
      go_loopw [46] (fun v46 wr => ∃ j : Nat, j ≤ X.args.length ∧ v46 = .int .i64 j ∧ Hid (BldM w wr bb (acc ++ hd ++ lt ++ argK (X.args.take j)) [cellsR bx 33 #[.int .i64 X.kind, .string X.name, .slice ax X.args.length cx, .slice lx X.labels.length dx, .bool X.isOpen], nodesR (.slice (some ⟨b1, 0, none⟩) ds.length c1) ds, kidsR ds, cellsR w.heap.size 24 #[.slice a g.ns.length ca, .int .i64 g.root]])) (fun v46 _ => X.args.length - (intOf v46).toNat)
      case atStart => exact ⟨0, Nat.zero_le _, rfl, HA0.out⟩
      case round =>
       obtain ⟨j, hj, rfl, hI⟩ := hrel
       by_cases hjl : j < X.args.length
       ·have hrow := (HR.out _ (hI.out.rest.at_ 2 rfl)).1
        obtain ⟨b2, o2, rfl, hc⟩ := hrow.at_ j (.int .i64 X.args[j]) (by rw [List.getElem?_map, List.getElem?_eq_getElem hjl]; rfl)
        have hj5 := Q5.out j
        have hpos := HAX.out X.args[j] (List.getElem_mem hjl)
        have hil := Lib.itoa_length_le X.args[j] (by omega) (by omega)
        have HE : Hid ((acc ++ hd ++ lt ++ argK (X.args.take j)) ++ ((⟨#[32]⟩ : ByteArray) ++ ⟨(itoa X.args[j]).toArray⟩).data.toList = acc ++ hd ++ lt ++ argK (X.args.take (j + 1))) := by
         show _ = _
         rw [argK_succ hjl]
         simp [ByteArray.data_append]
        have j1 : (0 : Int) ≤ (j : Int) := by omega
        have j2 : (j : Int) < (X.args.length : Int) := by omega
        have hcat : ¬ (9223372036854775807 < 1 + (itoa X.args[j]).length) := by omega
        have HIT := Tre.hid (itoa_int X.args[j] wr hpos.1 hpos.2 (HT.out.below hI.out.below))
        have hI2 := hI
        generalize X.args[j] = z at *
        clear hI hrow
        go_wp2_with fail
        refine HIT.out.mono ?_
        rintro e w5 ⟨rfl, q5⟩
        have WS := Tre.hid (wStr ((⟨#[32]⟩ : ByteArray) ++ ⟨(itoa z).toArray⟩) (hI2.out.quiet q5) (by have hz := size_mk (itoa z); rw [ByteArray.size_append, hz]; simp only [List.length_append]; show _ + (1 + _) ≤ _; omega))
        clear HIT hI2 q5
        go_wp2_with fail
        refine WS.out.mono ?_
        rintro e w6 ⟨rfl, h6⟩
        rw [HE.out] at h6
        have H6 := Tre.hid h6
        clear h6 WS
        go_wp2_with fail
        go_roundw
        case rel => exact ⟨j + 1, by omega, by go_num, H6.out⟩
        case measure => simp [intOf]; omega
       ·have e : j = X.args.length := by omega
        subst e
        have hI' := hI.out
        rw [List.take_length] at hI'
        have WB := Tre.hid (wByte 59 hI' (by simp only [List.length_append]; omega))
        clear hI hI' z0 z1 z2 z3 z4
        go_wp2_with fail
        refine WB.out.mono ?_
        rintro e w7 ⟨rfl, h7⟩
        rw [← HKS.out] at h7
        have H7 := Tre.hid (h7.subs (ss := [nodesR (.slice (some ⟨b1, 0, none⟩) ds.length c1) ds, kidsR ds, cellsR w.heap.size 24 #[.slice a g.ns.length ca, .int .i64 g.root]]) (List.sublist_cons_self ..))
        clear h7 WB
        go_wp2_with fail
        go_roundw
        case rel => exact ⟨k + 1, by have := HLT.out; omega, by go_num, H7.out⟩
        case measure => have := HLT.out; simp [intOf]; omega
  ·have e : k = L.length := by omega
   subst e
   have hQ' := hQ.out
   rw [List.take_length] at hQ'
   have HBT := Tre.hid (bText hQ')
   clear hQ hQ'
   have hdl := HDL.out
   go_wp2_with fail
   refine HBT.out.mono ?_
   rintro e w8 ⟨rfl, b8⟩
   go_wp2_with fail
   go_ret
   exact ⟨rfl, b8⟩
end Go.Proofs.YtaleodkbghogfaaGreatDoor.gr
namespace Go.Proofs.YtaleodkbghogfaaGreatDoor.gr
open Go.RowKit Go.Shelf Go.Maps Go.Tre lex
set_option maxRecDepth 100000 in
set_option maxHeartbeats 8000000 in
theorem alive09 (w : World) (E : LexEnv w) (ht : TabAt w) : Calls Tryz.prog 8 #[] w fun e w' => e = .returned (.bool true) ∧ Below w.heap.size w w' := by
 have HE := Tre.hid E
 have HT := Tre.hid ht
 have HM0 := Tre.hid (Mem.nil w)
 have hfd := fieldG
 have R1 := Tre.hid (load.Read_ok ⟨#[105, 110, 116, 32, 45, 62, 32, 105, 110, 116, 32, 45, 62, 32, 39, 97, 32, 97, 115, 32, 39, 97]⟩ _ readsA w (by decide) E)
 clear E ht
 go_enter Tryz.func8, Tryz.ntmps8
 go_wp2_with fail
 refine R1.out.mono ?_
 rintro e w1 ⟨v1, ds, rfl, hds, m1⟩
 have M1 := HM0.out.call m1
 obtain ⟨a1, c1, rfl, _⟩ := M1.val 0 rfl
 have HDS := Tre.hid hds
 have M2 := M1.allocR #[.slice a1 ds.length c1, .int .i64 0] 24
 have HM2 := Tre.hid M2
 clear m1 hds M1 M2 R1 HM0
 have R2 := Tre.hid (load.Read_ok ⟨#[105, 110, 116, 32, 45, 62, 32, 39, 97, 32, 97, 115, 32, 39, 97]⟩ _ readsB _ (by decide) (HE.out.below HM2.out.below))
 go_wp2_with fail
 refine R2.out.mono ?_
 rintro e w3 ⟨v3, dt, rfl, hdt, m3⟩
 have M3 := HM2.out.call m3
 obtain ⟨a3, c3, rfl, _⟩ := M3.val 0 rfl
 have HDT := Tre.hid hdt
 obtain ⟨p0, p1⟩ := M3.two 2 rfl
 have M4 := M3.allocR #[.slice a3 dt.length c3, .int .i64 0] 24
 have HM4 := Tre.hid M4
 clear m3 hdt M3 M4 R2
 have hlA : ds.length = (graphOf tyA).ns.length := by rw [← HDS.out, List.length_map]
 have hlB : dt.length = (graphOf tyB).ns.length := by rw [← HDT.out, List.length_map]
 have HKA : Hid (∀ W, NodesAt W a1 (graphOf tyA).ns → MaxAt W → TabAt W → Calls Tryz.prog 11 #[.agg #[.slice a1 ds.length c1, .int .i64 0]] W fun e w' => e = .returned (.string ⟨#[45, 62, 32, 49, 32, 48, 59, 105, 110, 116, 59]⟩) ∧ Below W.heap.size W w') := fun W h1 h2 h3 => by
  have K := key_any a1 c1 (graphOf tyA) W h1 weightA h2 h3 okA
  rw [keyA, rootA, ← hlA] at K
  exact K
 have HKB : Hid (∀ W, NodesAt W a3 (graphOf tyB).ns → MaxAt W → TabAt W → Calls Tryz.prog 11 #[.agg #[.slice a3 dt.length c3, .int .i64 0]] W fun e w' => e = .returned (.string ⟨#[45, 62, 32, 49, 32, 48, 59, 105, 110, 116, 59]⟩) ∧ Below W.heap.size W w') := fun W h1 h2 h3 => by
  have K := key_any a3 c3 (graphOf tyB) W h1 weightB h2 h3 okB
  rw [keyB, rootB, ← hlB] at K
  exact K
 have HLA : Hid (∀ W, NodesAt W a1 (graphOf tyA).ns → MaxAt W → TabAt W → Calls Tryz.prog 13 #[.agg #[.slice a1 ds.length c1, .int .i64 0]] W fun e w' => ∃ v d2, e = .returned (.agg #[v, .int .i64 0]) ∧ d2.map NodeV.n = (graphOf tyA).leastG.ns ∧ Mem W w' [nodesR v d2, kidsR d2]) := fun W h1 h2 h3 => by
  have K := least_any a1 c1 (graphOf tyA) W h1 weightA h2 h3 okA
  rw [rootA, ← hlA] at K
  exact K
 clear hlA hlB
 obtain ⟨z0, z1⟩ := HM4.out.two 0 rfl
 obtain ⟨y0, y1⟩ := HM4.out.two 3 rfl
 have NA := nodes_read (HM4.out.at_ 4 rfl) (HM4.out.at_ 5 rfl)
 rw [HDS.out] at NA
 have NB := nodes_read (HM4.out.at_ 1 rfl) (HM4.out.at_ 2 rfl)
 rw [HDT.out] at NB
 have HNA := Tre.hid NA
 have HNB := Tre.hid NB
 have HX := Tre.hid (HE.out.max.below HM4.out.below)
 have HT4 := Tre.hid (HT.out.below HM4.out.below)
 clear NA NB HE HT HM2
 go_wp2_with fail
 refine (HKA.out _ HNA.out HX.out HT4.out).mono ?_
 rintro e w5 ⟨rfl, q5⟩
 clear z0 z1 y0 y1
 have HM5 := Tre.hid (HM4.out.quiet q5)
 have HNA5 := Tre.hid (HNA.out.below q5)
 have HNB5 := Tre.hid (HNB.out.below q5)
 have HX5 := Tre.hid (HX.out.below q5)
 have HT5 := Tre.hid (HT4.out.below q5)
 clear q5 HM4 HNA HNB HX HT4
 obtain ⟨z0, z1⟩ := HM5.out.two 0 rfl
 obtain ⟨y0, y1⟩ := HM5.out.two 3 rfl
 go_wp2_with fail
 refine (HKB.out _ HNB5.out HX5.out HT5.out).mono ?_
 rintro e w6 ⟨rfl, q6⟩
 clear z0 z1 y0 y1
 have HM6 := Tre.hid (HM5.out.quiet q6)
 have HNA6 := Tre.hid (HNA5.out.below q6)
 have HX6 := Tre.hid (HX5.out.below q6)
 have HT6 := Tre.hid (HT5.out.below q6)
 clear q6 HM5 HNA5 HNB5 HX5 HT5
 obtain ⟨y0, y1⟩ := HM6.out.two 3 rfl
 go_wp2_with fail
 refine (HLA.out _ HNA6.out HX6.out HT6.out).mono ?_
 rintro e w7 ⟨v7, d7, rfl, hd7, m7⟩
 obtain ⟨a7, c7, rfl, _⟩ := m7.val 0 rfl
 have h7 : d7.length = 2 := by rw [← leastA, ← hd7, List.length_map]
 rw [h7]
 have HM7 := Tre.hid (HM6.out.quiet m7.below)
 clear m7 hd7 h7
 go_wp2_with fail
 go_ret
 exact ⟨rfl, HM7.out.below⟩
end Go.Proofs.YtaleodkbghogfaaGreatDoor.gr
namespace Go.Tre
def twArg (g : Tre.Graph) (bit : Nat → Nat → Bool) (k i : Nat) (a : Int) : Int := if freeC (g.nd a.toNat) = false ∧ bit k i = true then a + g.ns.length else a
def twNode (g : Tre.Graph) (bit : Nat → Nat → Bool) (k : Nat) : Tre.Node := { g.nd (k % g.ns.length) with args := (g.nd (k % g.ns.length)).args.mapIdx fun i a => twArg g bit k i a }
def twiceG (g : Tre.Graph) (bit : Nat → Nat → Bool) : Tre.Graph := ⟨(List.range (2 * g.ns.length)).map (twNode g bit), g.root⟩
section
variable {g : Tre.Graph} {bit : Nat → Nat → Bool}
theorem tw_len : (twiceG g bit).ns.length = 2 * g.ns.length := by simp [twiceG]
theorem tw_nd {k : Nat} (h : k < 2 * g.ns.length) : (twiceG g bit).nd k = twNode g bit k := by
 rw [Graph.nd_eq (by rw [tw_len]; exact h)]
 simp [twiceG]
theorem tw_kids_len {k : Nat} (h : k < 2 * g.ns.length) : ((twiceG g bit).kids k).length = (g.kids (k % g.ns.length)).length := by
 unfold Graph.kids
 rw [tw_nd h]
 simp [twNode]
theorem tw_kid (og : g.Ok) {k i : Nat} (h : k < 2 * g.ns.length) (hi : i < (g.kids (k % g.ns.length)).length) :
  ((twiceG g bit).kids k).getD i 0 = (g.kids (k % g.ns.length)).getD i 0 + (if freeC (g.nd ((g.kids (k % g.ns.length)).getD i 0)) = false ∧ bit k i = true then g.ns.length else 0) := by
 have hk : k % g.ns.length < g.ns.length := Nat.mod_lt _ (by have := og.root1; omega)
 have hi' : i < g.deg (k % g.ns.length) := by rw [g.kids_len] at hi; exact hi
 obtain ⟨y, hy, _, _⟩ := og.arg hk hi'
 unfold Graph.kids
 rw [tw_nd h, List.getD_eq_getElem?_getD, List.getD_eq_getElem?_getD, List.getElem?_map, List.getElem?_map]
 simp only [twNode, List.getElem?_mapIdx, hy, Tre.qd, Option.getD_some, Int.toNat_natCast]
 unfold twArg
 simp only [Int.toNat_natCast]
 split <;> omega
theorem tw_bis (og : g.Ok) : Bis g (twiceG g bit) (fun a b => a < g.ns.length ∧ b < 2 * g.ns.length ∧ b % g.ns.length = a ∧ (freeC (g.nd a) = true → b = a)) := by
 have hn : 0 < g.ns.length := by have := og.root1; omega
 refine ⟨?_, ?_, ?_, ?_⟩
 ·rintro a b ⟨h1, h2, _, _⟩
  rw [tw_len]; exact ⟨h1, h2⟩
 ·rintro a b ⟨h1, h2, rfl, _⟩
  rw [tw_nd h2]
  unfold alikeB twNode
  simp
 ·rintro a b ⟨h1, h2, rfl, _⟩
  refine all2_of (tw_kids_len h2).symm (fun i hi => ?_)
  have hl : (g.kids (b % g.ns.length)).getD i 0 < g.ns.length := og.kids_lt h1 _ (by
   rw [List.getD_eq_getElem?_getD, List.getElem?_eq_getElem hi]; exact List.getElem_mem hi)
  rw [tw_kid og h2 hi]
  generalize (g.kids (b % g.ns.length)).getD i 0 = c at *
  by_cases hc : freeC (g.nd c) = false ∧ bit b i = true
  ·rw [if_pos hc]
   refine ⟨hl, by omega, by rw [Nat.add_mod_right, Nat.mod_eq_of_lt hl], fun e => ?_⟩
   rw [hc.1] at e; cases e
  ·rw [if_neg hc]
   exact ⟨hl, by omega, by rw [Nat.add_zero, Nat.mod_eq_of_lt hl], fun _ => rfl⟩
 ·rintro a b a' b' ⟨h1, h2, h3, h4⟩ ⟨h1', h2', h3', h4'⟩ hf
  have hf' : freeC (g.nd a) = true := by rw [(words_of (og.may a h1)).openOf]; exact hf
  constructor
  ·rintro rfl
   rw [h4 hf', h4' hf']
  ·rintro rfl
   rw [← h3, h3']
theorem tw_ok (c0 : g.checkC = 0) (hn : 2 * g.ns.length ≤ 1048576) : (twiceG g bit).checkC = 0 := by
 have og := Graph.ok_of c0
 have h1 := og.root1
 have h0 := og.root0
 refine check_mk (by rw [tw_len]; exact hn) h0 (by rw [tw_len]; show g.root < _; omega) (fun n hm => ?_)
 rw [tw_len]
 obtain ⟨k, hk, rfl⟩ := List.mem_map.1 hm
 rw [List.mem_range] at hk
 have hkm : k % g.ns.length < g.ns.length := Nat.mod_lt _ (by omega)
 have h := og.may _ hkm
 unfold mayB at *
 simp only [Bool.and_eq_true, Bool.not_eq_true', List.any_eq_false] at *
 refine ⟨fun x hx => ?_, ?_⟩
 ·simp only [twNode, List.mem_mapIdx] at hx
  obtain ⟨i, hi, rfl⟩ := hx
  obtain ⟨y, hy, _, hy2⟩ := og.arg hkm (show i < g.deg (k % g.ns.length) from hi)
  rw [List.getElem?_eq_getElem hi] at hy
  rw [Option.some.inj hy]
  unfold twArg outside
  split
  ·simp; omega
  ·simp; omega
 ·have := h.2
  simpa [twNode] using this
theorem tw_least (c0 : g.checkC = 0) (hn : 2 * g.ns.length ≤ 1048576) : g.leastG = (twiceG g bit).leastG := by
 have og := Graph.ok_of c0
 have h1 := og.root1
 exact ((tw_bis og).iso c0 (tw_ok c0 hn) ⟨h1, by show g.root.toNat < _; omega, Nat.mod_eq_of_lt h1, fun _ => rfl⟩).trim (quot_ok c0) (quot_ok (tw_ok c0 hn))
end

/-! a type beside itself; beside another one -/
def pairG (g : Tre.Graph) : Tre.Graph := ⟨g.ns ++ [starN g.root g.root], g.ns.length⟩
def unusB : ByteArray := ⟨#[117, 110, 117, 115, 117, 97, 108]⟩
def unusN (a : Int) : Tre.Node := ⟨3, ByteArray.empty, [a], [unusB], false⟩
def oddG (g : Tre.Graph) : Tre.Graph := ⟨g.ns ++ [unusN g.ns.length, starN g.root g.ns.length], g.ns.length + 1⟩
theorem mayB_wider {n : Tre.Node} {s t : Nat} (h : mayB n s = true) (hst : s ≤ t) : mayB n t = true := by
 unfold mayB at *
 simp only [Bool.and_eq_true, Bool.not_eq_true', List.any_eq_false] at *
 refine ⟨fun x hx => ?_, h.2⟩
 have := h.1 x hx
 unfold outside at *
 simp at *
 omega
section
variable {g : Tre.Graph}
theorem outside_in {n : Nat} {a : Int} (h0 : 0 ≤ a) (h1 : a < n) : outside n a = false := by
 unfold outside
 simp only [Bool.or_eq_false_iff, decide_eq_false_iff_not]
 omega
theorem star_may {n : Nat} {a b : Int} (ha : 0 ≤ a) (ha' : a < n) (hb : 0 ≤ b) (hb' : b < n) : mayB (starN a b) n = true := by
 unfold mayB starN
 simp only [List.any_cons, List.any_nil, outside_in ha ha', outside_in hb hb']
 rfl
theorem unus_name : isName unusB = true := by decide +kernel
theorem unus_may {n : Nat} {a : Int} (ha : 0 ≤ a) (ha' : a < n) : mayB (unusN a) n = true := by
 have hr : rising [unusB] = true := by
  unfold rising
  simp [labelOk, unus_name]
 unfold mayB unusN
 simp only [List.any_cons, List.any_nil, outside_in ha ha', hr]
 rfl
theorem pair_nd {a : Nat} (h : a < g.ns.length) : (pairG g).nd a = g.nd a := by
 rw [Graph.nd_eq h, Graph.nd_eq (by simp [pairG]; omega)]
 simp only [pairG]
 rw [List.getElem_append_left h]
theorem odd_nd {a : Nat} (h : a < g.ns.length) : (oddG g).nd a = g.nd a := by
 rw [Graph.nd_eq h, Graph.nd_eq (by simp [oddG]; omega)]
 simp only [oddG]
 rw [List.getElem_append_left h]
theorem pair_ok (c0 : g.checkC = 0) (hn : g.ns.length + 1 ≤ 1048576) : (pairG g).checkC = 0 := by
 have og := Graph.ok_of c0
 have h1 := og.root1
 have h0 := og.root0
 have hl : (pairG g).ns.length = g.ns.length + 1 := by simp [pairG]
 refine check_mk (by rw [hl]; exact hn) (by show (0 : Int) ≤ (g.ns.length : Int); omega) (by rw [hl]; show (g.ns.length : Int) < _; omega) (fun n hm => ?_)
 rw [hl]
 rcases List.mem_append.1 hm with hm | hm
 ·obtain ⟨i, hi, rfl⟩ := List.getElem_of_mem hm
  rw [← Graph.nd_eq hi]
  exact mayB_wider (og.may i hi) (by omega)
 ·rw [List.mem_singleton] at hm
  subst hm
  exact star_may h0 (by omega) h0 (by omega)
theorem odd_ok (c0 : g.checkC = 0) (hn : g.ns.length + 2 ≤ 1048576) : (oddG g).checkC = 0 := by
 have og := Graph.ok_of c0
 have h1 := og.root1
 have h0 := og.root0
 have hl : (oddG g).ns.length = g.ns.length + 2 := by simp [oddG]
 refine check_mk (by rw [hl]; exact hn) (by show (0 : Int) ≤ (g.ns.length : Int) + 1; omega) (by rw [hl]; show (g.ns.length : Int) + 1 < _; omega) (fun n hm => ?_)
 rw [hl]
 rcases List.mem_append.1 hm with hm | hm
 ·obtain ⟨i, hi, rfl⟩ := List.getElem_of_mem hm
  rw [← Graph.nd_eq hi]
  exact mayB_wider (og.may i hi) (by omega)
 ·rcases List.mem_cons.1 hm with rfl | hm
  ·exact unus_may (by omega) (by omega)
  ·rw [List.mem_singleton] at hm
   subst hm
   exact star_may h0 (by omega) (by omega) (by omega)
theorem pair_root_kids (h0 : 0 ≤ g.root) : (pairG g).kids g.ns.length = [g.root.toNat, g.root.toNat] := by
 unfold Graph.kids
 rw [Graph.nd_eq (by simp [pairG])]
 simp [pairG, starN]
theorem odd_root_kids : (oddG g).kids (g.ns.length + 1) = [g.root.toNat, g.ns.length] := by
 unfold Graph.kids
 rw [Graph.nd_eq (by simp [oddG])]
 simp [oddG, starN]
theorem odd_mid_kids : (oddG g).kids g.ns.length = [g.ns.length] := by
 unfold Graph.kids
 rw [Graph.nd_eq (by simp [oddG])]
 simp [oddG, unusN]
theorem pair_least (c0 : g.checkC = 0) (hn : g.ns.length + 1 ≤ 1048576) : (pairG g).leastG.ns.length = g.leastG.ns.length + 1 ∨ (pairG g).leastG.ns.length = g.leastG.ns.length := by
 have og := Graph.ok_of c0
 have hr : (pairG g).root.toNat = g.ns.length := by show ((g.ns.length : Nat) : Int).toNat = _; simp
 have h := ext_len (h := pairG g) c0 (pair_ok c0 hn) (fun a ha => pair_nd ha) (by simp [pairG]) (by
  rw [hr]; exact Rch.refl.step (by rw [pair_root_kids og.root0]; simp)) [g.ns.length] (fun a ha => by
  rw [hr] at ha
  induction ha with
  | refl => exact .inl (by simp)
  | @step b c hb hc ih =>
   rcases ih with ih | ih
   ·rw [List.mem_singleton] at ih
    subst ih
    rw [pair_root_kids og.root0] at hc
    have : c = g.root.toNat := by simpa using hc
    rw [this]; exact .inr .refl
   ·refine .inr (ih.step ?_)
    unfold Graph.kids at hc ⊢
    rwa [pair_nd (ih.lt og og.root1)] at hc)
 simp only [List.length_cons, List.length_nil] at h
 omega
theorem odd_least (c0 : g.checkC = 0) (hn : g.ns.length + 2 ≤ 1048576) : (oddG g).leastG.ns.length ≤ g.leastG.ns.length + 2 ∧ g.leastG.ns.length ≤ (oddG g).leastG.ns.length := by
 have og := Graph.ok_of c0
 have hr : (oddG g).root.toNat = g.ns.length + 1 := by show ((g.ns.length : Int) + 1).toNat = _; omega
 have h := ext_len (h := oddG g) c0 (odd_ok c0 hn) (fun a ha => odd_nd ha) (by simp [oddG]) (by
  rw [hr]; exact Rch.refl.step (by rw [odd_root_kids]; simp)) [g.ns.length, g.ns.length + 1] (fun a ha => by
  rw [hr] at ha
  induction ha with
  | refl => exact .inl (by simp)
  | @step b c hb hc ih =>
   rcases ih with ih | ih
   ·rcases List.mem_cons.1 ih with rfl | ih
    ·rw [odd_mid_kids] at hc
     have : c = g.ns.length := by simpa using hc
     rw [this]; exact .inl (by simp)
    ·rw [List.mem_singleton] at ih
     subst ih
     rw [odd_root_kids] at hc
     rcases List.mem_cons.1 hc with rfl | hc
     ·exact .inr .refl
     ·rw [List.mem_singleton] at hc
      rw [hc]; exact .inl (by simp)
   ·refine .inr (ih.step ?_)
    unfold Graph.kids at hc ⊢
    rwa [odd_nd (ih.lt og og.root1)] at hc)
 simp only [List.length_cons, List.length_nil] at h
 omega
end
end Go.Tre
