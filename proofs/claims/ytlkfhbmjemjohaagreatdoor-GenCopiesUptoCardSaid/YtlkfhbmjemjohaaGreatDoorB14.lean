/- solve: node. solve: node at an object. solve: a class's least node; the pairs' clone. -/
import Derived.Test.YtlkfhbmjemjohaaGreatDoorB13
import Derived.Laws.IdiomRangeMap
import Derived.Sort.OwnSorted
import Derived.Sort.KeysCollected
set_option linter.unusedVariables false
namespace Go.Tre
theorem take_map_succ {α β : Type} (f : α → β) {l : List α} {k : Nat} (h : k < l.length) : (l.map f).take (k + 1) = (l.map f).take k ++ [f l[k]] := by
 rw [List.take_add_one, List.getElem?_map, List.getElem?_eq_getElem h]; rfl
end Go.Tre
namespace Go.Proofs.YtlkfhbmjemjohaaGreatDoor.sol
open Go.RowKit Go.Shelf Go.Maps Go.MapKept Go.ChangeMaps Go.Tre lex gr
abbrev leastV (b12 b10 : Nat) : Value := .func (.func 28) #[] #[.pointer (some ⟨b12, 0, none⟩), .pointer (some ⟨b10, 0, none⟩)]
theorem hcf1 (args : Array Value) (w : World) : (callFunc 28 args).run Tryz.prog w = .ok (.enter 28 args) w := by kernel_rfl
set_option maxRecDepth 100000 in
set_option maxHeartbeats 16000000 in
theorem node_flat (b12 b10 N n : Nat) (kd : Int) (nx : ByteArray) (ox : Bool) (aa : Option Addr) (ca : Nat) (A on : List Nat) (w : World) (hA : IntsAt w aa (A.map fun x : Nat => (x : Int))) (lA : A.length = n) (hn : n ≤ 4194304) (hlt : ∀ a ∈ A, a < N)
  (hL : ∀ (a : Nat) (W : World), a < N → Below w.heap.size w W → Calls Tryz.prog 28 #[.int .i64 (a : Int), .pointer (some ⟨b12, 0, none⟩), .pointer (some ⟨b10, 0, none⟩)] W fun e w' => e = .returned (.int .i64 ((leastF on a : Nat) : Int)) ∧ Below W.heap.size W w') :
  Calls Tryz.prog 29 #[.agg #[.int .i64 kd, .string nx, .slice aa n ca, .map none, .bool ox], leastV b12 b10] w fun e w' => ∃ (a1 : Option Addr) (c1 : Nat), e = .returned (.agg #[.int .i64 kd, .string nx, .slice a1 n c1, .slice none 0 0, .bool ox]) ∧ Mem w w' [rowR 3 1 (.slice a1 n c1) n (A.map fun a => Value.int .i64 ((leastF on a : Nat) : Int)), rowR 9 1 (.slice none 0 0) 0 []] := by
 have HA := Tre.hid hA
 have HLA := Tre.hid lA
 have HLT := Tre.hid hlt
 have HCLS := Tre.hid hL
 have M0 := (((Mem.nil w).allocR #[.int .i64 kd, .string nx, .slice aa n ca, .map none, .bool ox] 72).allocR #[.int .i64 0, .string ⟨#[]⟩, .slice none 0 0, .slice none 0 0, .bool false] 40).allocR #[.int .i64 kd, .string nx, .slice none 0 0, .slice none 0 0, .bool ox] 40
 simp only [heapSize_alloc] at M0
 have HM0 := Tre.hid (M0.addNil 3 1)
 obtain ⟨ji, K1, K2, K3, K4⟩ := info_parts infoI
 have L1 := Tre.hid K1
 have L2 := Tre.hid K2
 have L3 := Tre.hid K3
 have L4 := Tre.hid K4
 have hcf := hcf1
 clear hA lA hlt hL M0 K1 K2 K3 K4
 go_enter Tryz.func29, Tryz.ntmps29
 go_wp2_with fail
 generalize hz0 : w.heap.size + 1 + 1 = bN at HM0 ⊢
 generalize hz1 : w.heap.size + 1 = bE at hz0 HM0 ⊢
 generalize hz2 : w.heap.size = bC at hz1 HM0 ⊢
 generalize hww : World.alloc _ _ = w1 at HM0 ⊢
 clear hz0 hz1 hz2 hww
 go_loopw [21] (fun v21 wr => ∃ (k : Nat) (a1 : Option Addr) (c1 : Nat), k ≤ n ∧ v21 = .int .i64 k ∧ Hid (Mem w wr [cellsR bN 40 #[.int .i64 kd, .string nx, .slice a1 k c1, .slice none 0 0, .bool ox], rowR 3 1 (.slice a1 k c1) k ((A.map fun a => Value.int .i64 ((leastF on a : Nat) : Int)).take k), cellsR bE 40 #[.int .i64 0, .string ⟨#[]⟩, .slice none 0 0, .slice none 0 0, .bool false], cellsR bC 72 #[.int .i64 kd, .string nx, .slice aa n ca, .map none, .bool ox]]))
  (fun v21 _ => n - (intOf v21).toNat)
 case atStart => exact ⟨0, none, 0, Nat.zero_le _, rfl, HM0.out.front 1 rfl⟩
 case round =>
 clear HM0
 obtain ⟨k, a1, c1, hk, rfl, HM⟩ := hrel
 by_cases hlt : k < n
 ·have hkA : k < A.length := by rw [HLA.out]; exact hlt
  obtain ⟨gx, ox', rfl, hav⟩ := HA.out.at_ k (.int .i64 ((A[k] : Nat) : Int)) (by rw [List.getElem?_map, List.getElem?_map, List.getElem?_eq_getElem hkA]; rfl)
  have hu := HLT.out A[k] (List.getElem_mem hkA)
  have HTK := Tre.hid (take_map_succ (fun a => Value.int .i64 ((leastF on a : Nat) : Int)) hkA)
  generalize A[k] = u at *
  have ha0 : wr.cell? ⟨gx, ox' + k, none⟩ = some (.int .i64 (u : Int)) := cell_below HM.out.below hav
  have t0 : wr.cell? ⟨bN, 2, none⟩ = some (.slice a1 k c1) := HM.out.cell 0 rfl 2 rfl
  have t3 : (k : Int) < (n : Int) := by omega
  clear hav
  go_wp2_with fail
  have cS : Cond (fun w' => w'.cell? ⟨bN, 2, none⟩ = some (.slice a1 k c1)) := ⟨⟩
  refine cS.keep [6, 8] ?_ (fun hH0 => ?_)
  ·exact HM.out.cell 0 rfl 2 rfl
  have HQ := Tre.hid HM.out.drew
  generalize hq : World.drew _ = wq0 at HQ hH0 ⊢
  clear hq HM t0 ha0 t3
  refine lPq 0 (some 25) (v := ?_) rfl ?_ (keep_of hH0) ?_
  rotate_left
  ·intro w; go_simp <;> with_reducible rfl
  try simp only [Act.put, zqf, zqg, zqh]
  refine lPq 2 (some 27) (v := ?_) rfl ?_ (keep_of hH0) ?_
  rotate_left
  ·intro w; go_simp <;> with_reducible rfl
  try simp only [Act.put, zqf, zqg, zqh]
  refine lPq 3 (some 28) (v := ?_) rfl ?_ (keep_of hH0) ?_
  rotate_left
  ·intro w; go_simp <;> with_reducible rfl
  try simp only [Act.put, zqf, zqg, zqh]
  refine lTq 1 (some 26) (v := ?_) rfl ?_ hH0 ?_
  rotate_left
  ·intro w hSw; (try dsimp only at hSw); go_simp <;> with_reducible rfl
  try simp only [Act.put, zqf, zqg, zqh]
  refine lOne 4 (by kernel_rfl) (LStep.op (fun K hK => ?_))
  go_simp
  refine (HCLS.out u wq0 hu HQ.out.below).mono ?_
  rintro e' wq1 ⟨rfl, b1⟩
  have t1 : wq1.cell? ⟨bN, 2, none⟩ = some (.slice a1 k c1) := cell_below b1 (HQ.out.cell 0 rfl 2 rfl)
  have HQ1 := Tre.hid (HQ.out.quiet b1)
  clear b1
  (try dsimp only)
  refine hK.out _ _ ?_ (fun hH1 => ?_)
  ·exact t1
  clear hK K hH0
  try simp only [Act.put, zqf, zqg, zqh]
  refine lOne 5 (by kernel_rfl) (LStep.op (fun K hK => ?_))
  clear t1
  have MA := HQ1.out.allocRow #[.int .i64 ((leastF on u : Nat) : Int)] 3 1 1 (by unfold maxLen; omega) rfl
  go_simp
  generalize hnb : wq1.heap.size = nb at MA ⊢
  generalize hw : wq1.alloc (.cells #[.int .i64 ((leastF on u : Nat) : Int)] 3) = wq2 at MA ⊢
  have t2 : wq2.cell? ⟨bN, 2, none⟩ = some (.slice a1 k c1) := MA.cell 1 rfl 2 rfl
  have HQ2 := Tre.hid MA
  clear MA hnb hw
  refine hK.out _ _ ?_ (fun hH2 => ?_)
  ·exact t2
  clear hK K hH1
  try simp only [Act.put, zqf, zqg, zqh]
  refine lOne 6 (by kernel_rfl) (LFall.op (by kernel_rfl) (fun K hK => ?_))
  clear t2
  refine wp_append_row _ _ _ 31 (by rfl) 3 ji _ 1 8 Tryz.underlying31 L1.out L2.out L3.out L4.out rfl (by omega) (.slice a1 k c1) k ((A.map fun a => Value.int .i64 ((leastF on a : Nat) : Int)).take k) (by rfl) (HQ2.out.row 2 rfl) (some ⟨nb, 0, none⟩) 1 1 [.int .i64 ((leastF on u : Nat) : Int)] (by rfl) ⟨rfl, fun j u hj => ⟨_, 0, rfl, by rw [Nat.zero_add]; exact HQ2.out.cellAt 0 rfl j hj⟩⟩ (by simp [Value.oneCell']) (by unfold maxLen; omega) (by omega) ?_
  intro v' wq3 hown4 hgrow4 hat4
  have M4 := HQ2.out.grow 2 rfl hgrow4 hown4 hat4
  obtain ⟨a4, c4, rfl, _⟩ := M4.val 2 rfl
  have HQ3 := Tre.hid (M4.del 0)
  clear M4 hown4 hgrow4 hat4
  refine hK.out _ _ ?_
  clear hK K hH2
  try simp only [Act.put, zqf]
  refine lPq 7 (some 32) (v := ?_) rfl ?_ (keep_fell (by kernel_rfl)) ?_
  rotate_left
  ·intro w; go_simp <;> with_reducible rfl
  try simp only [Act.put]
  refine lOne 8 (by kernel_rfl) (LFall.op (by kernel_rfl) (fun K hK => ?_))
  have g0 : wq3.cell? ⟨bN, 2, none⟩ = some (.slice a1 k c1) := HQ3.out.cell 0 rfl 2 rfl
  have f0 := HQ3.out.free 0 rfl 2
  have H9 := HQ3.out.setCell 0 rfl 2 (.slice a4 (k + 1) c4)
  go_simp
  generalize hw : wq3.setCell ⟨bN, 2, none⟩ _ = wq4 at H9 ⊢
  have HM9 := Tre.hid H9
  clear H9 hw g0 f0
  refine hK.out _ _ ?_
  clear hK K
  try simp only [Act.put, zqf, zqg, zqh]
  refine lDone (by kernel_rfl) ?_
  go_wp2_with fail
  go_roundw
  case rel =>
   refine ⟨k + 1, a4, c4, by omega, by go_num, ?_⟩
   show Mem _ _ _
   rw [HTK.out]
   exact HM9.out
  case measure => simp [intOf]; omega
 ·have e : k = n := by omega
  subst e
  have h0 := HM.out
  rw [List.take_of_length_le (by rw [List.length_map, HLA.out]; exact Nat.le_refl _)] at h0
  have HM1 := Tre.hid h0
  have c3 : wr.cell? ⟨bC, 3, none⟩ = some (.map none) := h0.cell 3 rfl 3 rfl
  have hrm := fun W => run_range_nilMap (P := Tryz.prog) W 44 9 3 Tryz.underlying44
  have hnm := fun W ty => run_next_nilMap (P := Tryz.prog) W ty 0 0 #[]
  have HM2 := Tre.hid (h0.alloc (.mapIter none 0 #[] 0))
  have n3 : (wr.alloc (.mapIter none 0 #[] 0)).cell? ⟨bN, 3, none⟩ = some (.slice none 0 0) := HM2.out.cell 0 rfl 3 rfl
  clear HM h0
  go_wp2_with fail
  refine wp_loop_rounds 1 ?_
  rw [rounds_succ]
  go_wp2_with fail
  generalize hww : wr.alloc (.mapIter none 0 #[] 0) = w5 at HM2 ⊢
  clear hww hrm hnm c3 HM1 n3
  refine (Tryz.slices_Sort_string_none none 0 w5).mono ?_
  rintro e' w6 ⟨rfl, rfl⟩
  have n3 : w6.cell? ⟨bN, 3, none⟩ = some (.slice none 0 0) := HM2.out.cell 0 rfl 3 rfl
  go_wp2_with fail
  refine wp_loop_rounds 1 ?_
  rw [rounds_succ]
  obtain ⟨y0, y1, y2, _, y4⟩ := five HM2.out 0 rfl
  obtain ⟨z0, z1, z2, z3, z4⟩ := five HM2.out 2 rfl
  have e0 := HM2.out.free 2 rfl 0
  have e1 := HM2.out.free 2 rfl 1
  have e2 := HM2.out.free 2 rfl 2
  have e3 := HM2.out.free 2 rfl 3
  have e4 := HM2.out.free 2 rfl 4
  have HE := Tre.hid (((((HM2.out.setCell 2 rfl 0 (.int .i64 kd)).setCell 2 rfl 1 (.string nx)).setCell 2 rfl 2 (.slice a1 k c1)).setCell 2 rfl 3 (.slice none 0 0)).setCell 2 rfl 4 (.bool ox))
  go_wp2_with fail
  clear z0 z1 z2 z3 z4
  obtain ⟨z0, z1, z2, z3, z4⟩ := five HE.out 2 rfl
  exact bodyPost_ret (v := .agg #[.int .i64 kd, .string nx, .slice a1 k c1, .slice none 0 0, .bool ox]) (by simp [results, Tryz.results29, go_sem, z0, z1, z2, z3, z4]) rfl ⟨a1, c1, rfl, ((((HE.out.del 3).del 2).del 0).addNil 9 1).front 1 rfl⟩
end Go.Proofs.YtlkfhbmjemjohaaGreatDoor.sol
namespace Go.Tre
theorem perm_cover : ∀ {a b : List (List UInt8)}, a.Nodup → (∀ x ∈ a, x ∈ b) → b.length = a.length → b.Perm a
 | [], b, _, _, hl => by rw [List.eq_nil_of_length_eq_zero hl]
 | x :: r, b, hn, hs, hl => by
  have hx := hs x (by simp)
  rw [List.nodup_cons] at hn
  have h1 := List.perm_cons_erase hx
  have h2 := perm_cover (a := r) (b := b.erase x) hn.2 (fun y hy => (List.mem_erase_of_ne (fun e => hn.1 (by rw [← e]; exact hy))).2 (hs y (by simp [hy]))) (by
   have := h1.length_eq
   rw [List.length_cons] at this hl
   omega)
  exact h1.trans (List.Perm.cons x h2)
theorem sorted_labels {l : List ByteArray} (h : rising l = true) {ss : List (List UInt8)} (hp : ss.Perm (l.map fun s => s.data.toList)) : (ss.mergeSort fun x y => decide (x ≤ y)) = l.map fun s => s.data.toList := by
 have h1 := mergeSort_of_perm hp
 refine h1.trans (List.mergeSort_of_pairwise ?_)
 rw [List.pairwise_map, List.pairwise_iff_getElem]
 intro i j hi hj hij
 have h2 := rising_lt h (j - i - 1) i (by omega)
 rw [show i + (j - i - 1) + 1 = j by omega, List.getD_eq_getElem?_getD, List.getD_eq_getElem?_getD, List.getElem?_eq_getElem hi, List.getElem?_eq_getElem hj, Option.getD_some, Option.getD_some, Go.Proofs.bytesLess_eq, ByteArray.toList_eq, ByteArray.toList_eq, decide_eq_true_iff] at h2
 exact decide_eq_true (List.le_of_lt h2)
theorem labels_data_nodup {l : List ByteArray} (h : l.Nodup) : (l.map fun s => s.data.toList).Nodup := by
 rw [List.Nodup, List.pairwise_map]
 refine h.imp (fun hab e => hab ?_)
 cases ‹ByteArray›
 cases ‹ByteArray›
 simp at e
 rw [e]
end Go.Tre
namespace Go.Proofs.YtlkfhbmjemjohaaGreatDoor.sol
open Go.RowKit Go.Shelf Go.Maps Go.MapKept Go.ChangeMaps Go.Tre lex gr
theorem infoT : (Tryz.prog.info? 9).map (fun i => (i.zero, i.size, i.bytes)) = some (some (.string ByteArray.empty), 1, 16) := by kernel_rfl
theorem enc_data (l : ByteArray) : encStr l.data.toList = Value.string l := by simp [encStr]
structure MetL (es : Array MapEntry) (X : Tre.Node) (left : List MapEntry) (ss : List (List UInt8)) : Prop where
 cnt : ss.length + left.length = X.labels.length
 all : ∀ e ∈ es.toList, e ∈ left ∨ ∃ k, k < X.labels.length ∧ e.key = .string (X.labels.getD k ByteArray.empty) ∧ (X.labels.getD k ByteArray.empty).data.toList ∈ ss
theorem MetL.start {es : Array MapEntry} {X : Tre.Node} (h : es.size = X.labels.length) : MetL es X es.toList [] := ⟨by simp [h], fun e he => .inl he⟩
theorem MetL.step {es : Array MapEntry} {X : Tre.Node} {left left' : List MapEntry} {ss : List (List UInt8)} (h : MetL es X left ss) {e : MapEntry} (hp : left.Perm (e :: left')) {k : Nat} (hk : k < X.labels.length) (he : e.key = .string (X.labels.getD k ByteArray.empty)) :
  MetL es X left' (ss ++ [(X.labels.getD k ByteArray.empty).data.toList]) := by
 refine ⟨?_, fun x hx => ?_⟩
 ·have h1 := h.cnt
  have h2 := hp.length_eq
  rw [List.length_cons] at h2
  rw [List.length_append, List.length_singleton]; omega
 ·rcases h.all x hx with h1 | ⟨j, hj, e1, e2⟩
  ·rcases List.mem_cons.1 (hp.mem_iff.1 h1) with rfl | h2
   ·exact .inr ⟨k, hk, he, List.mem_append.2 (.inr (by simp))⟩
   ·exact .inl h2
  ·exact .inr ⟨j, hj, e1, List.mem_append.2 (.inl e2)⟩
theorem MetL.done {es : Array MapEntry} {X : Tre.Node} {ss : List (List UInt8)} (h : MetL es X [] ss) (hr : rising X.labels = true) (hes : ∀ k, k < X.labels.length → ∃ e ∈ es.toList, e.key = .string (X.labels.getD k ByteArray.empty)) : (ss.mergeSort fun x y => decide (x ≤ y)) = X.labels.map fun s => s.data.toList := by
 refine sorted_labels hr (perm_cover (labels_data_nodup (labels_nodup hr)) (fun x hx => ?_) (by rw [List.length_map]; have := h.cnt; simpa using this))
 obtain ⟨l, hl, rfl⟩ := List.mem_map.1 hx
 obtain ⟨k, hk, rfl⟩ := List.getElem_of_mem hl
 obtain ⟨e, he, e1⟩ := hes k hk
 rcases h.all e he with h1 | ⟨j, hj, e2, e3⟩
 ·cases h1
 ·rw [e1] at e2
  injection e2 with e2
  rw [← e2, List.getD_eq_getElem?_getD, List.getElem?_eq_getElem hk] at e3
  exact e3
theorem sort_row {w0 w : World} {rs : List Res} {a : Option Addr} {c : Nat} {ss : List (List UInt8)} (h : Mem w0 w (rowR 9 1 (.slice a ss.length c) ss.length (ss.map encStr) :: rs)) (hl : ss.length ≤ 4194304) :
  Calls Tryz.prog 46 #[.slice a ss.length c] w fun e w' => e = .returned (.tuple #[]) ∧ Mem w0 w' (rowR 9 1 (.slice a ss.length c) ss.length ((ss.mergeSort fun x y => decide (x ≤ y)).map encStr) :: rs) := by
 rcases Nat.eq_zero_or_pos ss.length with h0 | h0
 ·have hs : ss = [] := List.eq_nil_of_length_eq_zero h0
  subst hs
  refine (Tryz.slices_Sort_string_none a c w).mono ?_
  rintro e w' ⟨rfl, rfl⟩
  exact ⟨rfl, by simpa using h⟩
 ·rcases (h.at_ 0 rfl : w.ownsRow 0 _ _ _ _ _).2 with ⟨e1, _⟩ | ⟨g, cap, cur, e1, hbase, hb, h1, h2, h3, h4⟩
  ·injection e1 with _ e1; omega
  ·injection e1 with e1 _ e2
   subst e1 e2
   have hown : ∀ (n : Nat) (os : Array Obj), (Sort.grow (Sort.putRow encStr (Sort.ahead w n) g 0 (ss.mergeSort fun x y => decide (x ≤ y)).toArray) os).ownsRow 0 9 1 (.slice (some ⟨g, 0, none⟩) ss.length c) ss.length ((ss.mergeSort fun x y => decide (x ≤ y)).map encStr) := fun n os =>
    ownsRow_sorted (by simp) hbase hb h1 h2 h3
   refine (Tryz.slices_Sort_string g 0 c ss w (holds_of_block hb (by simpa using h4)) (Array.getElem?_eq_some_iff.1 hb).1 (by omega)).mono ?_
   rintro e w' ⟨rfl, n, os, rfl⟩
   exact ⟨rfl, h.set_row 0 rfl (grownBy_sorted _) (fun k e => by cases e; rfl) (rowR 9 1 (.slice (some ⟨g, 0, none⟩) ss.length c) ss.length ((ss.mergeSort fun x y => decide (x ≤ y)).map encStr)) (hown n os) (fun b hb => .inl hb)⟩
set_option maxRecDepth 100000 in
set_option maxHeartbeats 16000000 in
theorem node_obj (b12 b10 N : Nat) (nx : ByteArray) (ox : Bool) (cs : List ClsV) (c : ClsV) (on : List Nat) (w0 w : World) (rs : List Res) (hc : c ∈ cs) (kc : c.n.kind = 3) (hr : rising c.n.labels = true) (hla : c.n.labels.length = c.n.args.length) (hsz : ∀ l ∈ c.n.labels, l.size ≤ 4194304) (hlen : c.n.labels.length ≤ 4194304) (hlt : ∀ i, i < c.n.labels.length → (c.n.args.getD i 0).toNat < N)
  (hL : ∀ (a : Nat) (W : World), a < N → Mem w0 W (mapsR cs :: rs) → Calls Tryz.prog 28 #[.int .i64 (a : Int), .pointer (some ⟨b12, 0, none⟩), .pointer (some ⟨b10, 0, none⟩)] W fun e w' => e = .returned (.int .i64 ((leastF on a : Nat) : Int)) ∧ Below W.heap.size W w') (hM : Mem w0 w (mapsR cs :: rs)) :
  Calls Tryz.prog 29 #[.agg #[.int .i64 3, .string nx, .slice none 0 0, .map (some c.bm), .bool ox], leastV b12 b10] w fun e w' => ∃ (a1 : Option Addr) (c1 : Nat) (a2 : Option Addr) (c2 : Nat), e = .returned (.agg #[.int .i64 3, .string nx, .slice a1 c.n.labels.length c1, .slice a2 c.n.labels.length c2, .bool ox]) ∧ Mem w0 w' (rowR 3 1 (.slice a1 c.n.labels.length c1) c.n.labels.length (((List.range c.n.labels.length).map fun i => Value.int .i64 ((leastF on (c.n.args.getD i 0).toNat : Nat) : Int))) :: rowR 9 1 (.slice a2 c.n.labels.length c2) c.n.labels.length (c.n.labels.map Value.string) :: mapsR cs :: rs) := by
 have HC := Tre.hid hc
 have HKC := Tre.hid kc
 have HR := Tre.hid hr
 have HLA := Tre.hid hla
 have HSZ := Tre.hid hsz
 have HLT := Tre.hid hlt
 have HCLS := Tre.hid hL
 have M0 := ((hM.allocR #[.int .i64 3, .string nx, .slice none 0 0, .map (some c.bm), .bool ox] 72).allocR #[.int .i64 0, .string ⟨#[]⟩, .slice none 0 0, .slice none 0 0, .bool false] 40).allocR #[.int .i64 3, .string nx, .slice none 0 0, .slice none 0 0, .bool ox] 40
 simp only [heapSize_alloc] at M0
 have HM0 := Tre.hid M0
 obtain ⟨ji, K1, K2, K3, K4⟩ := info_parts infoI
 have L1 := Tre.hid K1
 have L2 := Tre.hid K2
 have L3 := Tre.hid K3
 have L4 := Tre.hid K4
 obtain ⟨si, S1, S2, S3, S4⟩ := info_parts infoT
 have T1 := Tre.hid S1
 have T2 := Tre.hid S2
 have T3 := Tre.hid S3
 have T4 := Tre.hid S4
 have hcf := hcf1
 clear hc kc hr hla hsz hlt hL hM M0 K1 K2 K3 K4 S1 S2 S3 S4
 go_enter Tryz.func29, Tryz.ntmps29
 go_wp2_with fail
 generalize hz0 : w.heap.size + 1 + 1 = bN at HM0 ⊢
 generalize hz1 : w.heap.size + 1 = bE at hz0 HM0 ⊢
 generalize hz2 : w.heap.size = bC at hz1 HM0 ⊢
 generalize hww : World.alloc _ _ = w1 at HM0 ⊢
 clear hz0 hz1 hz2 hww
 obtain ⟨es, clock, hown, M1, hbl, hst, hsz, hen, hes⟩ := mapsR_open HC.out HKC.out (labels_nodup HR.out) HLA.out (HM0.out.front 3 rfl)
 have hrange := run_range_map (P := Tryz.prog) w1 44 9 3 c.bm es clock Tryz.underlying44 hbl
 have c3 : w1.cell? ⟨bC, 3, none⟩ = some (.map (some c.bm)) := HM0.out.cell 2 rfl 3 rfl
 have HME := Tre.hid (MetL.start (X := c.n) hsz)
 have HST := Tre.hid hst
 have HEN := Tre.hid hen
 have HES := Tre.hid hes
 have HM2 := Tre.hid (((M1.rangeL (b := c.bm) hst).addNil 9 1).front 3 rfl)
 generalize hbr : w1.heap.size = bR at hrange HM2 ⊢
 clear M1 hbl hst hsz hen hes HM0
 refine wp_loop_rounds 1 ?_
 rw [rounds_succ]
 go_wp2_with fail
 generalize hww : World.alloc _ _ = w2 at HM2 ⊢
 clear hww hrange hbr c3
 go_loopg [8] es.size (fun gk v8 wr => ∃ (u8 : Value) (left : List MapEntry) (ss : List (List UInt8)) (a2 : Option Addr) (c2 : Nat), v8 = u8 ∧ gk = left.length ∧ Hid (MetL es c.n left ss) ∧ Hid (Mem w0 wr (cellsR bN 40 #[.int .i64 3, .string nx, .slice none 0 0, .slice a2 ss.length c2, .bool ox] :: rowR 9 1 (.slice a2 ss.length c2) ss.length (ss.map encStr) :: iterL bR c.bm es clock left :: withR (mapsR cs) c.bm es clock hown :: cellsR bE 40 #[.int .i64 0, .string ⟨#[]⟩, .slice none 0 0, .slice none 0 0, .bool false] :: cellsR bC 72 #[.int .i64 3, .string nx, .slice none 0 0, .map (some c.bm), .bool ox] :: rs)))
 case atStart => exact ⟨_, es.toList, [], none, 0, rfl, by simp, HME.out, by
  have h := HM2.out
  exact h⟩
 case round =>
  clear HM2 HME
  obtain ⟨u8, left, ss, a2, c2, rfl, hgk, HMT, HM⟩ := hrel
  have hsl : ss.length ≤ 4194304 := by have h := HMT.out.cnt; omega
  have HIT := Tre.hid ((HM.out.front 3 rfl).front 3 rfl)
  go_wp2_with (refine wpList_next_left rfl _ rfl c.bm bR clock es left rfl hown HIT.out HST.out ?_ ?_)
  ·intro h0
   subst h0
   have HSO := Tre.hid (HMT.out.done HR.out (fun k hk => by obtain ⟨e, h1, h2, _⟩ := HES.out k hk; exact ⟨e, h1, h2⟩))
   have HSL : Hid (ss.length = c.n.labels.length) := by have h := HMT.out.cnt; show _ = _; simpa using h
   have hz := withR_close ((HM.out.front 3 rfl).del 3)
   have n3 : wr.cell? ⟨bN, 3, none⟩ = some (.slice a2 ss.length c2) := hz.cell 1 rfl 3 rfl
   have HZ := Tre.hid (hz.front 2 rfl)
   clear hz HM HIT HMT hgk
   go_wp2_with fail
   refine (sort_row HZ.out hsl).mono ?_
   rintro e' w5 ⟨rfl, m5⟩
   rw [HSO.out, List.map_map, HSL.out] at m5
   have hcomp : (encStr ∘ fun s : ByteArray => s.data.toList) = Value.string := by funext l; exact enc_data l
   rw [hcomp] at m5
   rw [HSL.out] at *
   clear n3
   have n3 : w5.cell? ⟨bN, 3, none⟩ = some (.slice a2 c.n.labels.length c2) := m5.cell 2 rfl 3 rfl
   have HM5 := Tre.hid (m5.front 2 rfl)
   clear m5 HZ HSO hcomp
   go_wp2_with fail
   go_loopw [53] (fun v53 wr => ∃ (k : Nat) (a1 : Option Addr) (c1 : Nat), k ≤ c.n.labels.length ∧ v53 = .int .i64 k ∧ Hid (Mem w0 wr (cellsR bN 40 #[.int .i64 3, .string nx, .slice a1 k c1, .slice a2 c.n.labels.length c2, .bool ox] :: rowR 3 1 (.slice a1 k c1) k ((((List.range c.n.labels.length).map fun i => Value.int .i64 ((leastF on (c.n.args.getD i 0).toNat : Nat) : Int))).take k) :: rowR 9 1 (.slice a2 c.n.labels.length c2) c.n.labels.length (c.n.labels.map Value.string) :: cellsR bE 40 #[.int .i64 0, .string ⟨#[]⟩, .slice none 0 0, .slice none 0 0, .bool false] :: cellsR bC 72 #[.int .i64 3, .string nx, .slice none 0 0, .map (some c.bm), .bool ox] :: mapsR cs :: rs)))
    (fun v53 _ => c.n.labels.length - (intOf v53).toNat)
   case atStart => exact ⟨0, none, 0, Nat.zero_le _, rfl, (((((((HM5.out.addNil 3 1).front 3 rfl).front 5 rfl).front 5 rfl).front 5 rfl).front 4 rfl).front 5 rfl)⟩
   case round =>
   clear HM5 n3
   obtain ⟨k, a1, c1, hk, rfl, HM⟩ := hrel
   by_cases hlt : k < c.n.labels.length
   ·obtain ⟨g2, e2, _, _, hcell⟩ := HM.out.getRow 2 rfl k (u := .string (c.n.labels.getD k ByteArray.empty)) (by rw [List.getElem?_map, List.getD_eq_getElem?_getD, List.getElem?_eq_getElem hlt]; rfl)
    subst e2
    have HTK : Hid ((((List.range c.n.labels.length).map fun i => Value.int .i64 ((leastF on (c.n.args.getD i 0).toNat : Nat) : Int))).take (k + 1) = ((((List.range c.n.labels.length).map fun i => Value.int .i64 ((leastF on (c.n.args.getD i 0).toNat : Nat) : Int))).take k) ++ [.int .i64 ((leastF on (c.n.args.getD k 0).toNat : Nat) : Int)]) := by
     have h := take_map_succ (fun i => Value.int .i64 ((leastF on (c.n.args.getD i 0).toNat : Nat) : Int)) (l := List.range c.n.labels.length) (k := k) (by rw [List.length_range]; exact hlt)
     rw [List.getElem_range] at h
     exact h
    have hu := HLT.out k hlt
    have hls := HSZ.out (c.n.labels.getD k ByteArray.empty) (by rw [List.getD_eq_getElem?_getD, List.getElem?_eq_getElem hlt]; exact List.getElem_mem hlt)
    have hF := fieldsK_at (labels_nodup HR.out) (Nat.le_refl _) hlt
    have HLK : Hid (∀ (W : World) (rs' : List Res), Mem w0 W (mapsR cs :: rs') → (Instr.lookup 44 (.map (some c.bm)) (.string (c.n.labels.getD k ByteArray.empty)) false).run Tryz.prog W = .ok (.int .i64 (((c.n.args.getD k 0).toNat : Nat) : Int)) W) := fun W rs' h => by
     have h1 := ((h.at_ 0 rfl : (mapsR cs).P W) c HC.out HKC.out).run_look gr.K gr.inj Tryz.underlying44 (zi _) (ky _ (show (c.n.labels.getD k ByteArray.empty).size ≤ maxLen by unfold maxLen; omega))
     rw [hF] at h1
     exact h1
    generalize c.n.labels.getD k ByteArray.empty = l at *
    generalize (c.n.args.getD k 0).toNat = u at *
    have l0 : wr.cell? ⟨g2, k, none⟩ = some (.string l) := hcell
    have i1 : (k : Int) < (c.n.labels.length : Int) := by omega
    have t1 : wr.cell? ⟨bN, 2, none⟩ = some (.slice a1 k c1) := HM.out.cell 0 rfl 2 rfl
    have t2 : wr.cell? ⟨bC, 3, none⟩ = some (.map (some c.bm)) := HM.out.cell 4 rfl 3 rfl
    have t3 : (Instr.lookup 44 (.map (some c.bm)) (.string l) false).run Tryz.prog wr.drew = .ok (.int .i64 (u : Int)) wr.drew := HLK.out _ _ (HM.out.drew.front 5 rfl)
    clear hcell hF hls
    go_wp2_with fail
    have cS : Cond (fun w' => w'.cell? ⟨bN, 2, none⟩ = some (.slice a1 k c1) ∧ w'.cell? ⟨bC, 3, none⟩ = some (.map (some c.bm)) ∧ (Instr.lookup 44 (.map (some c.bm)) (.string l) false).run Tryz.prog w' = .ok (.int .i64 (u : Int)) w') := ⟨⟩
    refine cS.keep [9, 11] ?_ (fun hH0 => ?_)
    ·exact ⟨t1, t2, t3⟩
    have HQ := Tre.hid HM.out.drew
    generalize hq : World.drew _ = wq0 at HQ hH0 ⊢
    clear hq HM t1 t2 t3 l0 i1
    refine lPq 0 (some 57) (v := ?_) rfl ?_ (keep_of hH0) ?_
    rotate_left
    ·intro w; go_simp <;> with_reducible rfl
    try simp only [Act.put, zqf, zqg, zqh]
    refine lPq 2 (some 59) (v := ?_) rfl ?_ (keep_of hH0) ?_
    rotate_left
    ·intro w; go_simp <;> with_reducible rfl
    try simp only [Act.put, zqf, zqg, zqh]
    refine lPq 3 (some 60) (v := ?_) rfl ?_ (keep_of hH0) ?_
    rotate_left
    ·intro w; go_simp <;> with_reducible rfl
    try simp only [Act.put, zqf, zqg, zqh]
    refine lPq 5 (some 62) (v := ?_) rfl ?_ (keep_of hH0) ?_
    rotate_left
    ·intro w; go_simp <;> with_reducible rfl
    try simp only [Act.put, zqf, zqg, zqh]
    refine lTq 1 (some 58) (v := ?_) rfl ?_ hH0 ?_
    rotate_left
    ·intro w hSw; (try dsimp only at hSw); go_simp <;> with_reducible rfl
    try simp only [Act.put, zqf, zqg, zqh]
    refine lTq 4 (some 61) (v := ?_) rfl ?_ hH0 ?_
    rotate_left
    ·intro w hSw; (try dsimp only at hSw); go_simp <;> with_reducible rfl
    try simp only [Act.put, zqf, zqg, zqh]
    refine lTq 6 (some 63) (v := ?_) rfl ?_ hH0 ?_
    rotate_left
    ·intro w hSw; (try dsimp only at hSw); go_simp <;> with_reducible rfl
    try simp only [Act.put, zqf, zqg, zqh]
    refine lOne 7 (by kernel_rfl) (LStep.op (fun K hK => ?_))
    go_simp
    refine (HCLS.out u wq0 hu (((((HQ.out.del 0).del 0).del 0).del 0).del 0)).mono ?_
    rintro e' wq1 ⟨rfl, b1⟩
    have M1 := HQ.out.quiet b1
    have t1 : wq1.cell? ⟨bN, 2, none⟩ = some (.slice a1 k c1) := M1.cell 0 rfl 2 rfl
    have t2 : wq1.cell? ⟨bC, 3, none⟩ = some (.map (some c.bm)) := M1.cell 4 rfl 3 rfl
    have t3 : (Instr.lookup 44 (.map (some c.bm)) (.string l) false).run Tryz.prog wq1 = .ok (.int .i64 (u : Int)) wq1 := HLK.out wq1 _ (M1.front 5 rfl)
    have HQ1 := Tre.hid M1
    clear b1 M1
    (try dsimp only)
    refine hK.out _ _ ?_ (fun hH1 => ?_)
    ·exact ⟨t1, t2, t3⟩
    clear hK K hH0
    try simp only [Act.put, zqf, zqg, zqh]
    refine lOne 8 (by kernel_rfl) (LStep.op (fun K hK => ?_))
    clear t1 t2 t3
    have MA := HQ1.out.allocRow #[.int .i64 ((leastF on u : Nat) : Int)] 3 1 1 (by unfold maxLen; omega) rfl
    go_simp
    generalize hnb : wq1.heap.size = nb at MA ⊢
    generalize hw : wq1.alloc (.cells #[.int .i64 ((leastF on u : Nat) : Int)] 3) = wq2 at MA ⊢
    have t1 : wq2.cell? ⟨bN, 2, none⟩ = some (.slice a1 k c1) := MA.cell 1 rfl 2 rfl
    have t2 : wq2.cell? ⟨bC, 3, none⟩ = some (.map (some c.bm)) := MA.cell 5 rfl 3 rfl
    have t3 : (Instr.lookup 44 (.map (some c.bm)) (.string l) false).run Tryz.prog wq2 = .ok (.int .i64 (u : Int)) wq2 := HLK.out wq2 _ (MA.front 6 rfl)
    have HQ2 := Tre.hid MA
    clear MA hnb hw
    refine hK.out _ _ ?_ (fun hH2 => ?_)
    ·exact ⟨t1, t2, t3⟩
    clear hK K hH1
    try simp only [Act.put, zqf, zqg, zqh]
    refine lOne 9 (by kernel_rfl) (LFall.op (by kernel_rfl) (fun K hK => ?_))
    clear t1 t2 t3
    refine wp_append_row _ _ _ 31 (by rfl) 3 ji _ 1 8 Tryz.underlying31 L1.out L2.out L3.out L4.out rfl (by omega) (.slice a1 k c1) k ((((List.range c.n.labels.length).map fun i => Value.int .i64 ((leastF on (c.n.args.getD i 0).toNat : Nat) : Int))).take k) (by rfl) (HQ2.out.row 2 rfl) (some ⟨nb, 0, none⟩) 1 1 [.int .i64 ((leastF on u : Nat) : Int)] (by rfl) ⟨rfl, fun j u hj => ⟨_, 0, rfl, by rw [Nat.zero_add]; exact HQ2.out.cellAt 0 rfl j hj⟩⟩ (by simp [Value.oneCell']) (by unfold maxLen; omega) (by omega) ?_
    intro v' wq3 hown4 hgrow4 hat4
    have M4 := HQ2.out.grow 2 rfl hgrow4 hown4 hat4
    obtain ⟨a4, c4, rfl, _⟩ := M4.val 2 rfl
    have HQ3 := Tre.hid (M4.del 0)
    clear M4 hown4 hgrow4 hat4
    refine hK.out _ _ ?_
    clear hK K hH2
    try simp only [Act.put, zqf]
    refine lPq 10 (some 67) (v := ?_) rfl ?_ (keep_fell (by kernel_rfl)) ?_
    rotate_left
    ·intro w; go_simp <;> with_reducible rfl
    try simp only [Act.put]
    refine lOne 11 (by kernel_rfl) (LFall.op (by kernel_rfl) (fun K hK => ?_))
    have g0 : wq3.cell? ⟨bN, 2, none⟩ = some (.slice a1 k c1) := HQ3.out.cell 0 rfl 2 rfl
    have f0 := HQ3.out.free 0 rfl 2
    have H9 := HQ3.out.setCell 0 rfl 2 (.slice a4 (k + 1) c4)
    go_simp
    generalize hw : wq3.setCell ⟨bN, 2, none⟩ _ = wq4 at H9 ⊢
    have HM9 := Tre.hid H9
    clear H9 hw g0 f0
    refine hK.out _ _ ?_
    clear hK K
    try simp only [Act.put, zqf, zqg, zqh]
    refine lDone (by kernel_rfl) ?_
    go_wp2_with fail
    go_roundw
    case rel =>
     refine ⟨k + 1, a4, c4, by omega, by go_num, ?_⟩
     show Mem _ _ _
     rw [HTK.out]
     exact HM9.out
    case measure => simp [intOf]; omega
   ·have e : k = c.n.labels.length := by omega
    subst e
    have h0 := HM.out
    rw [List.take_of_length_le (by rw [List.length_map, List.length_range]; exact Nat.le_refl _)] at h0
    have HM1 := Tre.hid h0
    obtain ⟨y0, y1, y2, y3, y4⟩ := five h0 0 rfl
    obtain ⟨z0, z1, z2, z3, z4⟩ := five h0 3 rfl
    have e0 := h0.free 3 rfl 0
    have e1 := h0.free 3 rfl 1
    have e2 := h0.free 3 rfl 2
    have e3 := h0.free 3 rfl 3
    have e4 := h0.free 3 rfl 4
    have HE := Tre.hid (((((h0.setCell 3 rfl 0 (.int .i64 3)).setCell 3 rfl 1 (.string nx)).setCell 3 rfl 2 (.slice a1 c.n.labels.length c1)).setCell 3 rfl 3 (.slice a2 c.n.labels.length c2)).setCell 3 rfl 4 (.bool ox))
    clear HM h0 HM1
    go_wp2_with fail
    clear z0 z1 z2 z3 z4
    obtain ⟨z0, z1, z2, z3, z4⟩ := five HE.out 3 rfl
    exact bodyPost_ret (v := .agg #[.int .i64 3, .string nx, .slice a1 c.n.labels.length c1, .slice a2 c.n.labels.length c2, .bool ox]) (by simp [results, Tryz.results29, go_sem, z0, z1, z2, z3, z4]) rfl ⟨a1, c1, a2, c2, rfl, (((HE.out.del 4).del 3).del 0)⟩
  ·intro e w2 left' hem hperm hM2 hen2
   obtain ⟨k, hk, e1, e2⟩ := HEN.out e (by first | exact hem | exact Array.mem_toList_iff.2 hem)
   have HMT2 := Tre.hid (HMT.out.step hperm hk e1)
   have hlt : left'.length < gk := by rw [hgk, hperm.length_eq]; simp
   rw [e1, e2] at hen2
   rw [e1, e2]
   generalize c.n.labels.getD k ByteArray.empty = l at *
   generalize (c.n.args.getD k 0).toNat = a at *
   have hen' : (Instr.entry (.pointer (some ⟨bR, 0, none⟩))).run Tryz.prog w2 = .ok (.tuple #[.string l, .int .i64 (a : Int)]) w2 := hen2
   have M2 := ((hM2.front 3 rfl).front 3 rfl)
   have n3 : w2.cell? ⟨bN, 3, none⟩ = some (.slice a2 ss.length c2) := M2.cell 0 rfl 3 rfl
   have f3 := M2.free 0 rfl 3
   have MB := Tre.hid (M2.allocRow #[.string l] 9 1 1 (by unfold maxLen; omega) rfl)
   have HLT2 := Tre.hid hlt
   clear hem hperm hM2 hen2 e1 e2 hlt HM HIT HMT hk M2
   simp only [en]
   go_wp2_with (at_builtin; refine wpList_append_row _ rfl _ _ 38 rfl 9 si _ 1 16 Tryz.underlying38 T1.out T2.out T3.out T4.out rfl (by omega) (.slice a2 ss.length c2) ss.length (ss.map encStr) rfl (MB.out.row 2 rfl) (some ⟨w2.heap.size, 0, none⟩) 1 1 [.string l] rfl ⟨rfl, fun j u hj => ⟨_, 0, rfl, by rw [Nat.zero_add]; exact MB.out.cellAt 0 rfl j hj⟩⟩ (by simp [Value.oneCell']) (by unfold maxLen; omega) (by omega) ?_; intro v' w9 hown4 hgrow4 hat4; have M4 := MB.out.grow 2 rfl hgrow4 hown4 hat4; obtain ⟨a4, c4, rfl, _⟩ := M4.val 2 rfl; clear n3 f3; have n3 : w9.cell? ⟨bN, 3, none⟩ = some (.slice a2 ss.length c2) := M4.cell 1 rfl 3 rfl; have f3 := M4.free 1 rfl 3; have HM4 := Tre.hid ((M4.setCell 1 rfl 3 (.slice a4 (ss.length + 1) c4)).del 0); clear M4 hown4 hgrow4 hat4)
   go_roundg left'.length
   case measure => have h := HLT2.out; omega
   case rel =>
    refine ⟨_, left', ss ++ [l.data.toList], a4, c4, rfl, rfl, HMT2.out, ?_⟩
    have h := HM4.out
    have e1 : (ss ++ [l.data.toList]).length = ss.length + 1 := by simp
    rw [e1, List.map_append, List.map_singleton, enc_data]
    exact h
end Go.Proofs.YtlkfhbmjemjohaaGreatDoor.sol
namespace Go.Proofs.YtlkfhbmjemjohaaGreatDoor.sol
open Go.RowKit Go.Shelf Go.Maps Go.MapKept Go.ChangeMaps Go.Tre lex gr
theorem OnAt.below {w w' : World} {s gO cO : Nat} {on : List Nat} (O : OnAt w s gO cO on) (h : Below w.heap.size w w') : OnAt w' s gO cO on :=
 ⟨cell_below h O.f, fun j hj => cell_below h (O.c j hj), fun j hj => by
  have := World.block_lt_of_cell? w _ (O.c j hj)
  rw [show w'.frozen? ⟨gO, j, none⟩ = w.frozen? ⟨gO, j, none⟩ by simp only [World.frozen?]; rw [h.block gO this]]
  exact O.z j hj, O.lt, O.on_⟩
theorem MapIs_below {α β : Type} {P : Program} {k : TypeId} {ek : α → Value} {ev : β → Value} {w w' : World} {b n : Nat} {m : α → Option β} (h : MapIs P k ek ev w b n m) (hb : Below w.heap.size w w') : MapIs P k ek ev w' b n m := h.block (hb.block b h.lt)
theorem zi2 (w : World) : (zeroValue 3).run Tryz.prog w = .ok (.int .i64 0) w := by kernel_rfl
set_option maxHeartbeats 4000000 in
theorem least_any (b12 b10 s gO cO bm cnt : Nat) (on : List Nat) (a : Nat) (w : World) (h12 : w.cell? ⟨b12, 0, none⟩ = some (.map (some bm))) (h10 : w.cell? ⟨b10, 0, none⟩ = some (.pointer (some ⟨s, 0, none⟩))) (O : OnAt w s gO cO on) (hm : MapIs Tryz.prog 3 en en w bm cnt (firstM on on.length)) (ha : a < on.length) (hl : on.length ≤ 4194304) :
  Calls Tryz.prog 28 #[.int .i64 (a : Int), .pointer (some ⟨b12, 0, none⟩), .pointer (some ⟨b10, 0, none⟩)] w fun e w' => e = .returned (.int .i64 ((leastF on a : Nat) : Int)) ∧ Below w.heap.size w w' := by
 have hr := O.lt a ha
 have hfe := firstM_end ha
 have HF := Tre.hid (fun (W : World) (h : Below w.heap.size w W) => find_any s gO cO on a W (O.below h) ha (by omega))
 generalize on.getD a 0 = r at *
 have HLK : Hid (∀ W : World, Below w.heap.size w W → (Instr.lookup 54 (.map (some bm)) (.int .i64 (r : Int)) false).run Tryz.prog W = .ok (.int .i64 ((leastF on a : Nat) : Int)) W) := fun W h => by
  have h1 := (MapIs_below hm h).run_look KI injN Tryz.underlying54 (zi2 _) (kn r (by omega))
  rw [hfe] at h1
  exact h1
 have H12 := Tre.hid h12
 have H10 := Tre.hid h10
 have hlk := HLK.out w.drew ((Below.refl _ _).drew)
 clear O hm hfe ha hr
 go_enter Tryz.func28, Tryz.ntmps28
 go_wp2_with fail
 have cS : Cond (fun w' => w'.cell? ⟨b12, 0, none⟩ = some (.map (some bm)) ∧ w'.cell? ⟨b10, 0, none⟩ = some (.pointer (some ⟨s, 0, none⟩)) ∧ (Instr.lookup 54 (.map (some bm)) (.int .i64 (r : Int)) false).run Tryz.prog w' = .ok (.int .i64 ((leastF on a : Nat) : Int)) w') := ⟨⟩
 refine cS.keep [] ?_ (fun hH0 => ?_)
 ·exact ⟨h12, h10, hlk⟩
 have HQ : Hid (Below w.heap.size w w.drew) := (Below.refl _ _).drew
 generalize hq : World.drew _ = wq0 at HQ hH0 ⊢
 clear hq h12 h10 hlk
 refine lPq 2 (some 7) (v := ?_) rfl ?_ (keep_of hH0) ?_
 rotate_left
 ·intro w; go_simp <;> with_reducible rfl
 try simp only [Act.put, zqf, zqg, zqh]
 refine lTq 0 (some 5) (v := ?_) rfl ?_ hH0 ?_
 rotate_left
 ·intro w hSw; (try dsimp only at hSw); go_simp <;> with_reducible rfl
 try simp only [Act.put, zqf, zqg, zqh]
 refine lTq 1 (some 6) (v := ?_) rfl ?_ hH0 ?_
 rotate_left
 ·intro w hSw; (try dsimp only at hSw); go_simp <;> with_reducible rfl
 try simp only [Act.put, zqf, zqg, zqh]
 refine lOne 3 (by kernel_rfl) (LStep.op (fun K hK => ?_))
 go_simp
 refine (HF.out wq0 HQ.out).mono ?_
 rintro e' wq1 ⟨rfl, b1⟩
 have hb := HQ.out.trans (b1.mono HQ.out.size)
 have HQ1 := Tre.hid hb
 have t1 := cell_below hb H12.out
 have t2 := cell_below hb H10.out
 have t3 := HLK.out wq1 hb
 clear b1 hb
 (try dsimp only)
 refine hK.out _ _ ?_ (fun hH1 => ?_)
 ·exact ⟨t1, t2, t3⟩
 clear hK K hH0
 try simp only [Act.put, zqf, zqg, zqh]
 refine lTq 4 (some 9) (v := ?_) rfl ?_ hH1 ?_
 rotate_left
 ·intro w hSw; (try dsimp only at hSw); go_simp <;> with_reducible rfl
 try simp only [Act.put, zqf, zqg, zqh]
 refine lPq 5 (some 4) (v := ?_) rfl ?_ (keep_of hH1) ?_
 rotate_left
 ·intro w; go_simp <;> with_reducible rfl
 try simp only [Act.put, zqf, zqg, zqh]
 refine lDone (by kernel_rfl) ?_
 clear hH1
 go_wp2_with fail
 go_ret
 exact ⟨rfl, HQ1.out⟩
set_option maxRecDepth 100000 in
set_option maxHeartbeats 4000000 in
theorem clone_pairs (a : Option Addr) (c n : Nat) (xs : List Value) (w : World) (hr : Row w 2 a n xs) (h1 : ∀ u ∈ xs, u.oneCell' = true) (ha : a ≠ none) (hn : n ≤ 4194304) :
  Calls Tryz.prog 24 #[.slice a n c] w fun e w' => ∃ (a1 : Option Addr) (c1 : Nat), e = .returned (.slice a1 n c1) ∧ Mem w w' [rowR 34 2 (.slice a1 n c1) n xs] := by
 obtain ⟨pi, I1, I2, I3, I4⟩ := info_parts infoP
 have P1 := Tre.hid I1
 have P2 := Tre.hid I2
 have P3 := Tre.hid I3
 have P4 := Tre.hid I4
 have HR := Tre.hid hr
 have HO := Tre.hid h1
 obtain ⟨ad, rfl⟩ : ∃ ad, a = some ad := by cases a with
  | none => exact absurd rfl ha
  | some x => exact ⟨x, rfl⟩
 have M0 := (Mem.nil w).allocRow #[] 34 2 0 (by unfold maxLen; omega) rfl
 have HM0 := Tre.hid M0
 have heq : ∀ W : World, (Go.binOp BinOp.eql 35 (.slice (some ad) n c) (.slice none 0 0)).run Tryz.prog W = .ok (.bool false) W := fun W => by kernel_rfl
 clear hr h1 ha I1 I2 I3 I4 M0
 go_enter Tryz.func24, Tryz.ntmps24
 go_wp2_with (at_builtin; refine wpList_append_row _ rfl _ _ 35 rfl 34 pi _ 2 16 Tryz.underlying35 P1.out P2.out P3.out P4.out rfl (by omega) (.slice (some ⟨w.heap.size, 0, none⟩) 0 0) 0 [] rfl (HM0.out.row 0 rfl) (some ad) n c xs rfl (HR.out.below HM0.out.below) HO.out (by unfold maxLen; omega) (by omega) ?_; intro v' w9 hown4 hgrow4 hat4; have M4 := HM0.out.grow 0 rfl hgrow4 hown4 hat4; simp only [Nat.zero_add, List.nil_append] at M4; obtain ⟨a4, c4, rfl, _⟩ := M4.val 0 rfl; have HM4 := Tre.hid M4; clear M4 hown4 hgrow4 hat4)
 go_ret
 exact ⟨a4, c4, rfl, HM4.out⟩
set_option maxRecDepth 100000 in
theorem as_nilS (t : Value) (w : World) :
  Calls Tryz.prog 25 #[.nilIface, t] w fun e w' => e = .returned (.bool false) ∧ w' = w := by
 go_enter Tryz.func25, Tryz.ntmps25
 go_wp2
 go_ret
 exact ⟨rfl, rfl⟩
end Go.Proofs.YtlkfhbmjemjohaaGreatDoor.sol
