/- Rows cloned and an element deleted, in memory. sub.Forget: a type without a label. -/
import Derived.Test.YtoieknnnadgfpaaGreatDoorB35
import Derived.Test.YtoieknnnadgfpaaGreatDoorB11
import Derived.Test.YtoieknnnadgfpaaGreatDoorB09
import Derived.Test.YtoieknnnadgfpaaGreatDoorB08
import Derived.Lib.OwnBridge
set_option linter.unusedVariables false
namespace Go.Tre
open Go.RowKit Go.Maps
section
variable {w0 w w' : World} {rs : List Res}
theorem Mem.putRow {α : Type} [Inhabited α] {enc : α → Value} {e : TypeId} {g n cap k q : Nat} {zs ys : List α} (h : Mem w0 w rs) (i : Nat) (hi : rs[i]? = some (rowR e 1 (.slice (some ⟨g, 0, none⟩) n cap) n (zs.map enc))) (hy : ys.length = n) (hk : k ≤ n) :
  Mem w0 (Sort.putRow enc (Sort.ahead w q) g 0 ys.toArray) (rs.set i (rowR e 1 (.slice (some ⟨g, 0, none⟩) k cap) k ((ys.take k).map enc))) :=
 h.set_row (w' := Sort.putRow enc (Sort.ahead w q) g 0 ys.toArray) (row := some g) i hi ⟨rfl, rfl, rfl, by simp [Sort.putRow, Sort.mapBlock, Sort.ahead], fun j _ hj => by
  have : g ≠ j := fun e => hj (by rw [e])
  simp [Sort.putRow, Sort.mapBlock, Sort.ahead, Array.getElem?_modify, this]⟩ (fun j e => by cases e; rfl) (rowR e 1 (.slice (some ⟨g, 0, none⟩) k cap) k ((ys.take k).map enc)) (Lib.ownsRow_putRow (h.row i hi) hy hk) (fun b hb => .inl hb)
theorem Mem.cloned {e : TypeId} {v : Value} {n : Nat} {xs : List Value} (hb : Below w.heap.size w w') (ho : w'.ownsRow w.heap.size e 1 v n xs) : Mem w w' [rowR e 1 v n xs] :=
 (Mem.nil w).add (grown_below hb) (rowR e 1 v n xs) ⟨ho.1, ho.2.imp id fun ⟨g, cap, cur, e1, _, rest⟩ => ⟨g, cap, cur, e1, Nat.zero_le _, rest⟩⟩ (fun b hb' => by
  rcases ho.2 with ⟨e1, _⟩ | ⟨g, cap, cur, e1, hg, _⟩
  ·rw [e1] at hb'; cases hb'
  ·rw [e1] at hb'; cases hb'; exact hg)
theorem erase_map {α β : Type} (f : α → β) (l : List α) (i : Nat) : (l.map f).eraseIdx i = (l.eraseIdx i).map f := by
 rw [List.eraseIdx_eq_take_drop_succ, List.eraseIdx_eq_take_drop_succ, List.map_append, List.map_take, List.map_drop]
theorem erase_take {α : Type} (l : List α) (i : Nat) (z : α) (hi : i < l.length) : (l.take i ++ l.drop (i + 1) ++ List.replicate (i + 1 - i) z).take (l.length - 1) = l.eraseIdx i := by
 have hl : (l.take i ++ l.drop (i + 1)).length = l.length - 1 := by rw [List.length_append, List.length_take, List.length_drop]; omega
 rw [List.take_append_of_le_length (by omega), List.take_of_length_le (by omega), List.eraseIdx_eq_take_drop_succ]
end
end Go.Tre
namespace Go.Proofs.YtoieknnnadgfpaaGreatDoor.gr
open Go.RowKit Go.Shelf Go.Maps Go.Tre lex
theorem cloneS (b o c : Nat) (l : List ByteArray) (w : World) (h : StrsAt w (some ⟨b, o, none⟩) l) (hl : l.length ≤ 2097152) (h0 : 0 < l.length) :
  Calls Tryz.prog 29 #[.slice (some ⟨b, o, none⟩) l.length c] w fun e w' => ∃ bk k, e = .returned (.slice (some ⟨bk, 0, none⟩) l.length k) ∧ l.length ≤ k ∧ k ≤ 9223372036854775807 ∧ Mem w w' [rowR 9 1 (.slice (some ⟨bk, 0, none⟩) l.length k) l.length (l.map Value.string)] := by
 refine (Tryz.slices_Clone_string b o l.length c l w (Nat.le_refl _) (by omega) (fun j hj => ?_)).mono ?_
 ·obtain ⟨b', o', e, hc⟩ := h.at_ j (.string l[j]) (by rw [List.getElem?_map, List.getElem?_eq_getElem hj]; rfl)
  cases e
  rw [hc, List.getD_eq_getElem?_getD, List.getElem?_eq_getElem hj]
  rfl
 ·rintro e w' ⟨v', rfl, ho, hne, hb⟩
  rw [List.take_length] at ho
  rcases ho.2 with ⟨e1, _⟩ | ⟨g, cap, cur, rfl, _, _, h1, h2, _⟩
  ·exact absurd e1 hne
  ·exact ⟨g, cap, rfl, h1, h2, Mem.cloned hb ho⟩
theorem cloneI (b o c : Nat) (l : List Int) (w : World) (h : IntsAt w (some ⟨b, o, none⟩) l) (hl : l.length ≤ 2097152) (h0 : 0 < l.length) :
  Calls Tryz.prog 31 #[.slice (some ⟨b, o, none⟩) l.length c] w fun e w' => ∃ bk k, e = .returned (.slice (some ⟨bk, 0, none⟩) l.length k) ∧ l.length ≤ k ∧ k ≤ 9223372036854775807 ∧ Mem w w' [rowR 3 1 (.slice (some ⟨bk, 0, none⟩) l.length k) l.length (l.map (Value.int .i64))] := by
 refine (Tryz.slices_Clone_int b o l.length c l w (Nat.le_refl _) (by omega) (fun j hj => ?_)).mono ?_
 ·obtain ⟨b', o', e, hc⟩ := h.at_ j (.int .i64 l[j]) (by rw [List.getElem?_map, List.getElem?_eq_getElem hj]; rfl)
  cases e
  rw [hc, List.getD_eq_getElem?_getD, List.getElem?_eq_getElem hj]
  rfl
 ·rintro e w' ⟨v', rfl, ho, hne, hb⟩
  rw [List.take_length] at ho
  rcases ho.2 with ⟨e1, _⟩ | ⟨g, cap, cur, rfl, _, _, h1, h2, _⟩
  ·exact absurd e1 hne
  ·exact ⟨g, cap, rfl, h1, h2, Mem.cloned hb ho⟩
theorem delS {w0 : World} {rs : List Res} (bk k i : Nat) (l : List ByteArray) (w : World) (h : Mem w0 w (rowR 9 1 (.slice (some ⟨bk, 0, none⟩) l.length k) l.length (l.map Value.string) :: rs)) (hi : i < l.length) (hk : l.length ≤ k) (hk2 : k ≤ 9223372036854775807) :
  Calls Tryz.prog 28 #[.slice (some ⟨bk, 0, none⟩) l.length k, .int .i64 (i : Int), .int .i64 ((i : Int) + 1)] w fun e w' => e = .returned (.slice (some ⟨bk, 0, none⟩) (l.length - 1) k) ∧
   Mem w0 w' (rowR 9 1 (.slice (some ⟨bk, 0, none⟩) (l.length - 1) k) (l.length - 1) ((l.eraseIdx i).map Value.string) :: rs) := by
 have hr := h.row 0 rfl
 rw [← Lib.map_encStr] at hr
 obtain ⟨g, cap, e1, _, _, _, _, hl, hH⟩ := Lib.holds_of_ownsRow hr (by simp)
 cases e1
 have K := Tryz.slices_Delete_string bk 0 k i (i + 1) (l.map (·.data.toList)) w hH (by rw [List.length_map]; exact hk) hk2 (by omega) (by rw [List.length_map]; omega)
 rw [List.length_map] at K
 refine K.mono ?_
 rintro e w' ⟨rfl, q, rfl⟩
 refine ⟨by rw [show i + 1 - i = 1 by omega], ?_⟩
 have hy : ((l.map (·.data.toList)).take i ++ (l.map (·.data.toList)).drop (i + 1) ++ List.replicate (i + 1 - i) ([] : List UInt8)).length = l.length := by simp; omega
 have M := h.putRow (q := q) (k := l.length - 1) (enc := encStr) (zs := l.map (·.data.toList)) (ys := (l.map (·.data.toList)).take i ++ (l.map (·.data.toList)).drop (i + 1) ++ List.replicate (i + 1 - i) ([] : List UInt8)) 0 (by rw [Lib.map_encStr]; rfl) hy (by omega)
 have e := erase_take (l.map (·.data.toList)) i [] (by rw [List.length_map]; exact hi)
 rw [List.length_map] at e
 rw [e, erase_map, Lib.map_encStr] at M
 exact M
theorem delI {w0 : World} {rs : List Res} (bk k i : Nat) (l : List Int) (w : World) (h : Mem w0 w (rowR 3 1 (.slice (some ⟨bk, 0, none⟩) l.length k) l.length (l.map (Value.int .i64)) :: rs)) (hi : i < l.length) (hk : l.length ≤ k) (hk2 : k ≤ 9223372036854775807) :
  Calls Tryz.prog 30 #[.slice (some ⟨bk, 0, none⟩) l.length k, .int .i64 (i : Int), .int .i64 ((i : Int) + 1)] w fun e w' => e = .returned (.slice (some ⟨bk, 0, none⟩) (l.length - 1) k) ∧
   Mem w0 w' (rowR 3 1 (.slice (some ⟨bk, 0, none⟩) (l.length - 1) k) (l.length - 1) ((l.eraseIdx i).map (Value.int .i64)) :: rs) := by
 have hr := h.row 0 rfl
 obtain ⟨g, cap, e1, _, _, _, _, hl, hH⟩ := Lib.holds_of_ownsRow hr (by simp)
 cases e1
 refine (Tryz.slices_Delete_int bk 0 k i (i + 1) l w hH hk hk2 (by omega) (by omega)).mono ?_
 rintro e w' ⟨rfl, q, rfl⟩
 refine ⟨by rw [show i + 1 - i = 1 by omega], ?_⟩
 have hy : (l.take i ++ l.drop (i + 1) ++ List.replicate (i + 1 - i) (0 : Int)).length = l.length := by simp; omega
 have M := h.putRow (q := q) (k := l.length - 1) (enc := Value.int .i64) (zs := l) (ys := l.take i ++ l.drop (i + 1) ++ List.replicate (i + 1 - i) (0 : Int)) 0 rfl hy (by omega)
 rw [erase_take l i 0 hi] at M
 exact M
end Go.Proofs.YtoieknnnadgfpaaGreatDoor.gr
namespace Go.Proofs.YtoieknnnadgfpaaGreatDoor.gr
open Go.RowKit Go.Shelf Go.Maps Go.Tre lex
theorem nrow5 {w : World} {a : Option Addr} {c n : Nat} {L : List Value} (h : w.ownsRow 0 33 5 (.slice a n c) n L) : Row w 5 a n L := by
 obtain ⟨a', c', e, _, r⟩ := row_read h
 cases e
 exact r
theorem strs_some {w : World} {a : Option Addr} {l : List ByteArray} (h : StrsAt w a l) (h0 : 0 < l.length) : ∃ b o, a = some ⟨b, o, none⟩ := by
 obtain ⟨b, o, e, _⟩ := h.at_ 0 (.string l[0]) (by rw [List.getElem?_map, List.getElem?_eq_getElem h0]; rfl)
 exact ⟨b, o, e⟩
theorem ints_some {w : World} {a : Option Addr} {l : List Int} (h : IntsAt w a l) (h0 : 0 < l.length) : ∃ b o, a = some ⟨b, o, none⟩ := by
 obtain ⟨b, o, e, _⟩ := h.at_ 0 (.int .i64 l[0]) (by rw [List.getElem?_map, List.getElem?_eq_getElem h0]; rfl)
 exact ⟨b, o, e⟩
theorem x_one {X : Tre.Node} {bA bL : Nat} (n1 k1 n2 k2 : Nat) : ∀ u ∈ (#[.int .i64 X.kind, .string X.name, .slice (some ⟨bA, 0, none⟩) n1 k1, .slice (some ⟨bL, 0, none⟩) n2 k2, .bool X.isOpen] : Array Value).toList, u.oneCell' = true := by simp [Value.oneCell']
theorem less_trim {g : Tre.Graph} {w : World} {ds : List NodeV} {n r i : Nat} (hds : ds.map NodeV.n = g.ns) (hvs : ∀ d ∈ ds, NodeVal w d) (hl : ds.length = n) (hn : g.ns.length = n) (er : g.root.toNat = r) (hlw : (lessTop g i).weight ≤ 2097152) (hm : MaxAt w)
  (hil : i < (g.nd r).labels.length) (hal : (g.nd r).labels.length = (g.nd r).args.length) :
  ∀ (bL kL bA kA b7 : Nat) (W : World) (a : Option Addr) (c : Nat) (rs : List Res), Mem w W (rowR 33 5 (.slice a (n + 1) c) (n + 1) (ds.flatMap NodeV.cells ++ (#[.int .i64 (g.nd r).kind, .string (g.nd r).name, .slice (some ⟨bA, 0, none⟩) ((g.nd r).args.length - 1) kA, .slice (some ⟨bL, 0, none⟩) ((g.nd r).labels.length - 1) kL, .bool (g.nd r).isOpen]).toList) :: cellsR b7 33 #[.int .i64 (g.nd r).kind, .string (g.nd r).name, .slice (some ⟨bA, 0, none⟩) ((g.nd r).args.length - 1) kA, .slice (some ⟨bL, 0, none⟩) ((g.nd r).labels.length - 1) kL, .bool (g.nd r).isOpen] :: rowR 3 1 (.slice (some ⟨bA, 0, none⟩) ((g.nd r).args.length - 1) kA) ((g.nd r).args.length - 1) (((g.nd r).args.eraseIdx i).map (Value.int .i64)) :: rowR 9 1 (.slice (some ⟨bL, 0, none⟩) ((g.nd r).labels.length - 1) kL) ((g.nd r).labels.length - 1) (((g.nd r).labels.eraseIdx i).map Value.string) :: rs) →
   Calls Tryz.prog 25 #[.agg #[.slice a (n + 1) c, .int .i64 (n : Int)]] W fun e w' => ∃ v dt, e = .returned (.agg #[v, .int .i64 0]) ∧ dt.map NodeV.n = (g.lessG i).ns ∧ Mem W w' [nodesR v dt, kidsR dt] := by
 intro bL kL bA kA b7 W a c rs h
 have ha := row_read (h.row 2 rfl)
 have hl2 := row_read (h.row 3 rfl)
 obtain ⟨aa, ca, ea, la, ra⟩ := ha
 obtain ⟨al, cl, el, ll, rl⟩ := hl2
 cases ea
 cases el
 have hv : NodeVal W ⟨lessN (g.nd r) i, .slice (some ⟨bA, 0, none⟩) ((g.nd r).args.length - 1) kA, .slice (some ⟨bL, 0, none⟩) ((g.nd r).labels.length - 1) kL⟩ := by
  have e1 : (lessN (g.nd r) i).args.length = (g.nd r).args.length - 1 := List.length_eraseIdx_of_lt (by omega)
  have e2 : (lessN (g.nd r) i).labels.length = (g.nd r).labels.length - 1 := List.length_eraseIdx_of_lt hil
  refine ⟨some ⟨bA, 0, none⟩, kA, some ⟨bL, 0, none⟩, kL, by rw [e1], by rw [e2], ?_, ?_, by rw [e1]; exact la, by rw [e2]; exact ll⟩
  ·have := ra
   rw [← e1] at this
   exact this
  ·have := rl
   rw [← e2] at this
   exact this
 have NA := nodesAt_of (w := W) (a := a) (c := c) (ds := ds ++ [⟨lessN (g.nd r) i, .slice (some ⟨bA, 0, none⟩) ((g.nd r).args.length - 1) kA, .slice (some ⟨bL, 0, none⟩) ((g.nd r).labels.length - 1) kL⟩]) (by
  rw [List.length_append, List.length_singleton, hl, nodesR_snoc, hl]
  exact h.at_ 0 rfl) (fun d hd => by
  rcases List.mem_append.1 hd with hd | hd
  ·exact (hvs d hd).below h.below
  ·rw [List.mem_singleton] at hd; subst hd; exact hv)
 rw [List.map_append, hds] at NA
 have NB : NodesAt W a (lessTop g i).ns := by
  have e : (lessTop g i).ns = g.ns ++ [lessN (g.nd r) i] := by show g.ns ++ [lessN (g.nd g.root.toNat) i] = _; rw [er]
  rw [e]
  exact NA
 have K := trim_any a c (lessTop g i) W NB hlw (hm.below h.below)
 have e1 : (lessTop g i).ns.length = n + 1 := by show (g.ns ++ [_]).length = _; rw [List.length_append, List.length_singleton, hn]
 have e2 : (lessTop g i).root = (n : Int) := by show ((g.ns.length : Nat) : Int) = _; rw [hn]
 rw [e1, e2] at K
 exact K
set_option maxRecDepth 100000 in
set_option maxHeartbeats 16000000 in
theorem forget_any (b1 o1 ca i : Nat) (g : Tre.Graph) (s : ByteArray) (w : World) (hg : NodesAt w (some ⟨b1, o1, none⟩) g.ns) (wg : g.weight ≤ 1048576) (hm : MaxAt w) (c0 : g.checkC = 0)
  (h3 : (g.nd g.root.toNat).kind = 3) (hs : (g.nd g.root.toNat).labels[i]? = some s) :
  Calls Tryz.prog 15 #[.agg #[.slice (some ⟨b1, o1, none⟩) g.ns.length ca, .int .i64 g.root], .string s] w fun e w' =>
   ∃ v ds, e = .returned (.tuple #[.agg #[v, .int .i64 0], .int .i64 0]) ∧ ds.map NodeV.n = (g.lessG i).ns ∧ Mem w w' [nodesR v ds, kidsR ds] := by
 have og := Graph.ok_of c0
 obtain ⟨r, hr⟩ : ∃ r : Nat, g.root = (r : Int) := ⟨g.root.toNat, by have := og.root0; omega⟩
 have hrl : r < g.ns.length := by have := og.root1; omega
 have er : g.root.toNat = r := by omega
 rw [er] at h3 hs
 obtain ⟨ds, hds, hcs, hvs⟩ := nodes_vals hg
 obtain ⟨n, hn⟩ : ∃ n : Nat, g.ns.length = n := ⟨_, rfl⟩
 obtain ⟨b', o', e0, nx⟩ := hg.at_ r (g.nd r) (by rw [Graph.nd_eq hrl]; exact List.getElem?_eq_getElem hrl)
 cases e0
 have hdeg := obj_deg og hrl h3
 have hil : i < (g.nd r).labels.length := idx_lt hs
 have hal : (g.nd r).labels.length = (g.nd r).args.length := hdeg.1
 have hXw : (g.nd r).weight ≤ g.weight := by rw [Graph.nd_eq hrl]; exact node_weight (List.getElem_mem hrl)
 have hxa : (g.nd r).args.length ≤ (g.nd r).weight := by unfold Node.weight; omega
 have hlw : (lessTop g i).weight ≤ 2097152 := by have := less_top_weight (i := i) og; omega
 have HLT : Hid ((lessTop g i).ns = g.ns ++ [lessN (g.nd r) i]) := by show g.ns ++ [lessN (g.nd g.root.toNat) i] = _; rw [er]
 have M := ((Mem.nil w).allocR #[.slice (some ⟨b1, o1, none⟩) n ca, .int .i64 (r : Int)] 24).allocR #[.slice none 0 0, .int .i64 0] 24
 simp only [heapSize_alloc] at M
 have CK := check_any (some ⟨b1, o1, none⟩) ca g _ (hg.below M.below) (by omega) (hm.below M.below)
 rw [c0, hn, hr] at CK
 have HCK := Tre.hid CK
 have HX := Tre.hid hm
 have HLN : Hid (ds.length = n) := by show _ = _; rw [← hn, ← hds, List.length_map]
 have HDS := Tre.hid hds
 have HVS := Tre.hid hvs
 have hnl : n ≤ 1048576 := by have := og.len; omega
 have HLW := Tre.hid hlw
 have HCL : Hid (∀ W, Below w.heap.size w W → Calls Tryz.prog 24 #[.slice (some ⟨b1, o1, none⟩) n ca] W fun e w' => ∃ v, e = .returned v ∧ Mem W w' [nodesR v ds]) := fun W hW =>
  cloneNodes b1 o1 ca n ds W HLN.out (fun j u hu => cell_below hW (hcs j u hu)) (cells_one ds (fun d hd => ⟨w, hvs d hd⟩)) (by omega)
 have HTRA := Tre.hid (less_trim hds hvs (by rw [← hn, ← hds, List.length_map]) hn er hlw hm hil hal)
 rw [hn, hr]
 have HM0 := Tre.hid M
 have HRIS := Tre.hid hdeg.2
 generalize hX : g.nd r = X at *
 obtain ⟨ax, cx, lx, dx, x0, x1, x2, x3, x4, xA, xL, hca, hcl⟩ := nx
 obtain ⟨bl, ol, rfl⟩ := strs_some xL (by omega)
 obtain ⟨ba, oa, rfl⟩ := ints_some xA (by omega)
 have X0 := Tre.hid x0
 have X1 := Tre.hid x1
 have X2 := Tre.hid x2
 have X3 := Tre.hid x3
 have X4 := Tre.hid x4
 have XA := Tre.hid xA
 have XL := Tre.hid xL
 have m1 : (0 : Int) ≤ (r : Int) := by omega
 have m2 : (r : Int) < (n : Int) := by omega
 have HS := Tre.hid hs
 have HAL := Tre.hid hal
 have hxl : X.labels.length ≤ 1048576 := by omega
 have k3 : (X.kind != 3) = false := by rw [h3]; rfl
 have H3 := Tre.hid h3
 clear h3 hg hm c0 og hr hds hcs hvs CK M wg hX hlw hXw hdeg x0 x1 x2 x3 x4 xA xL er hrl hn hs hal
 obtain ⟨ii, I1, I2, I3, I4⟩ := info_parts infoN
 have J1 := Tre.hid I1
 have J2 := Tre.hid I2
 have J3 := Tre.hid I3
 have J4 := Tre.hid I4
 clear I1 I2 I3 I4
 go_enter Tryz.func15, Tryz.ntmps15
 go_wp2_with fail
 refine HCK.out.mono ?_
 rintro e w1 ⟨rfl, bq⟩
 have HM1 := Tre.hid (HM0.out.quiet bq)
 clear bq HCK HM0
 obtain ⟨g0, g1⟩ := HM1.out.two 1 rfl
 have x0 := cell_below HM1.out.below X0.out
 have x1 := cell_below HM1.out.below X1.out
 have x2 := cell_below HM1.out.below X2.out
 have x3 := cell_below HM1.out.below X3.out
 have x4 := cell_below HM1.out.below X4.out
 go_upto_region 5 with fail
 clear g0 g1 x0 x1 x2 x3 x4
 have HM2 := Tre.hid (HM1.out.allocR #[.int .i64 X.kind, .string X.name, .slice (some ⟨ba, oa, none⟩) X.args.length cx, .slice (some ⟨bl, ol, none⟩) X.labels.length dx, .bool X.isOpen] 33)
 generalize hw : w1.alloc (.cells #[.int .i64 X.kind, .string X.name, .slice (some ⟨ba, oa, none⟩) X.args.length cx, .slice (some ⟨bl, ol, none⟩) X.labels.length dx, .bool X.isOpen] 33) = w2 at HM2 ⊢
 generalize hb : w1.heap.size = b7 at HM2 ⊢
 clear hw hb HM1
 have p3 := HM2.out.cell 0 rfl 3 rfl
 go_wp2_with fail
 refine (search_any (some ⟨bl, ol, none⟩) dx X.labels i s _ (XL.out.below HM2.out.below) HRIS.out hil HS.out (by omega)).mono ?_
 rintro e w3 ⟨rfl, bq⟩
 have HM3 := Tre.hid (HM2.out.quiet bq)
 clear bq p3 HM2
 have p0 := HM3.out.cell 0 rfl 0 rfl
 have p3 := HM3.out.cell 0 rfl 3 rfl
 go_wp2_with fail
 refine (cloneS bl ol dx X.labels _ (XL.out.below HM3.out.below) (by omega) (by omega)).mono ?_
 rintro e w4 ⟨bL, kL, rfl, h1, h2, mq⟩
 have HM4 := Tre.hid (HM3.out.call mq)
 clear mq p0 p3 HM3
 go_wp2_with fail
 refine (delS bL kL i X.labels _ HM4.out hil h1 h2).mono ?_
 rintro e w5 ⟨rfl, mq⟩
 have HM5 := Tre.hid mq
 clear mq HM4 h1 h2
 obtain ⟨y0, y1, y2, y3, y4⟩ := five HM5.out 1 rfl
 have f3 := HM5.out.free 1 rfl 3
 have HM6 := Tre.hid (HM5.out.setCell 1 rfl 3 (.slice (some ⟨bL, 0, none⟩) (X.labels.length - 1) kL))
 go_upto_region 9 with fail
 clear y0 y1 y2 y3 y4 f3 HM5
 generalize hw : w5.setCell ⟨b7, 3, none⟩ (.slice (some ⟨bL, 0, none⟩) (X.labels.length - 1) kL) = w6 at HM6 ⊢
 clear hw
 have p2 := HM6.out.cell 1 rfl 2 rfl
 go_wp2_with fail
 refine (cloneI ba oa cx X.args _ (XA.out.below HM6.out.below) (by have := HAL.out; omega) (by have := HAL.out; omega)).mono ?_
 rintro e w7 ⟨bA, kA, rfl, h1, h2, mq⟩
 have HM7 := Tre.hid (HM6.out.call mq)
 clear mq p2 HM6
 go_wp2_with fail
 refine (delI bA kA i X.args _ HM7.out (by have := HAL.out; omega) h1 h2).mono ?_
 rintro e w8 ⟨rfl, mq⟩
 have HM8 := Tre.hid mq
 clear mq HM7 h1 h2
 obtain ⟨y0, y1, y2, y3, y4⟩ := five HM8.out 2 rfl
 have f2 := HM8.out.free 2 rfl 2
 have HM9 : Hid (Mem w (w8.setCell ⟨b7, 2, none⟩ (.slice (some ⟨bA, 0, none⟩) (X.args.length - 1) kA)) [cellsR b7 33 #[.int .i64 X.kind, .string X.name, .slice (some ⟨bA, 0, none⟩) (X.args.length - 1) kA, .slice (some ⟨bL, 0, none⟩) (X.labels.length - 1) kL, .bool X.isOpen], rowR 3 1 (.slice (some ⟨bA, 0, none⟩) (X.args.length - 1) kA) (X.args.length - 1) ((X.args.eraseIdx i).map (Value.int .i64)), rowR 9 1 (.slice (some ⟨bL, 0, none⟩) (X.labels.length - 1) kL) (X.labels.length - 1) ((X.labels.eraseIdx i).map Value.string), cellsR (w.heap.size + 1) 24 #[.slice none 0 0, .int .i64 0], cellsR w.heap.size 24 #[.slice (some ⟨b1, o1, none⟩) n ca, .int .i64 (r : Int)]]) := (HM8.out.setCell 2 rfl 2 (.slice (some ⟨bA, 0, none⟩) (X.args.length - 1) kA)).front 2 rfl
 go_upto_region 10 with fail
 clear y0 y1 y2 y3 y4 f2 HM8
 generalize hw : w8.setCell ⟨b7, 2, none⟩ (.slice (some ⟨bA, 0, none⟩) (X.args.length - 1) kA) = w9 at HM9 ⊢
 clear hw
 have HTR : Hid (∀ W a c rs, Mem w W (rowR 33 5 (.slice a (n + 1) c) (n + 1) (ds.flatMap NodeV.cells ++ (#[.int .i64 X.kind, .string X.name, .slice (some ⟨bA, 0, none⟩) (X.args.length - 1) kA, .slice (some ⟨bL, 0, none⟩) (X.labels.length - 1) kL, .bool X.isOpen]).toList) :: cellsR b7 33 #[.int .i64 X.kind, .string X.name, .slice (some ⟨bA, 0, none⟩) (X.args.length - 1) kA, .slice (some ⟨bL, 0, none⟩) (X.labels.length - 1) kL, .bool X.isOpen] :: rowR 3 1 (.slice (some ⟨bA, 0, none⟩) (X.args.length - 1) kA) (X.args.length - 1) ((X.args.eraseIdx i).map (Value.int .i64)) :: rowR 9 1 (.slice (some ⟨bL, 0, none⟩) (X.labels.length - 1) kL) (X.labels.length - 1) ((X.labels.eraseIdx i).map Value.string) :: rs) → Calls Tryz.prog 25 #[.agg #[.slice a (n + 1) c, .int .i64 (n : Int)]] W fun e w' => ∃ v dt, e = .returned (.agg #[v, .int .i64 0]) ∧ dt.map NodeV.n = (g.lessG i).ns ∧ Mem W w' [nodesR v dt, kidsR dt]) := HTRA.out bL kL bA kA b7
 clear HTRA
 have cS : Cond (fun w' => w'.cell? ⟨w.heap.size, 0, none⟩ = some (.slice (some ⟨b1, o1, none⟩) n ca) ∧ w'.cell? ⟨w.heap.size, 1, none⟩ = some (.int .i64 (r : Int)) ∧ w'.cell? ⟨b7, 0, none⟩ = some (.int .i64 X.kind) ∧ w'.cell? ⟨b7, 1, none⟩ = some (.string X.name) ∧ w'.cell? ⟨b7, 2, none⟩ = some (.slice (some ⟨bA, 0, none⟩) (X.args.length - 1) kA) ∧ w'.cell? ⟨b7, 3, none⟩ = some (.slice (some ⟨bL, 0, none⟩) (X.labels.length - 1) kL) ∧ w'.cell? ⟨b7, 4, none⟩ = some (.bool X.isOpen)) := ⟨⟩
 refine cS.keep [11] ?_ (fun hH => ?_)
 ·exact ⟨HM9.out.drew.cell 4 rfl 0 rfl, HM9.out.drew.cell 4 rfl 1 rfl, HM9.out.drew.cell 0 rfl 0 rfl, HM9.out.drew.cell 0 rfl 1 rfl, HM9.out.drew.cell 0 rfl 2 rfl, HM9.out.drew.cell 0 rfl 3 rfl, HM9.out.drew.cell 0 rfl 4 rfl⟩
 have HC := Tre.hid HM9.out.drew
 generalize hq : World.drew _ = wq0 at HC hH ⊢
 clear hq
 refine lPv 0 (some 53) (.pointer (some ⟨w.heap.size, 0, none⟩)) (keep_of hH) ?_
 try simp only [Act.put, zqf, zqg, zqh]
 refine lTq 1 (some 54) (v := ?_) rfl ?_ hH ?_
 rotate_left
 ·intro w hSw; (try dsimp only at hSw); go_simp <;> with_reducible rfl
 try simp only [Act.put, zqf, zqg, zqh]
 refine lPv 2 (some 55) (.int .i64 (n : Int)) (keep_of hH) ?_
 refine lPv 3 (some 56) (.pointer (some ⟨w.heap.size, 0, none⟩)) (keep_of hH) ?_
 try simp only [Act.put, zqf, zqg, zqh]
 refine lTq 4 (some 57) (v := ?_) rfl ?_ hH ?_
 rotate_left
 ·intro w hSw; (try dsimp only at hSw); go_simp <;> with_reducible rfl
 try simp only [Act.put, zqf, zqg, zqh]
 try simp only [Act.put, zqf, zqg, zqh]
 refine lTq 6 (some 59) (v := ?_) rfl ?_ hH ?_
 rotate_left
 ·intro w hSw; (try dsimp only at hSw); go_simp <;> with_reducible rfl
 try simp only [Act.put, zqf, zqg, zqh]
 try simp only [Act.put, zqf, zqg, zqh]
 refine with_G (G0 := wpAnyL _ _ _ _ _ _) ?_
 intro G hG a0 hA
 have Z0 : Kept (∀ (a58 : Option Addr) (c58 : Nat) (b60 : Nat) (a61 : Option Addr) (c61 : Nat) (a63 : Option Addr) (c63 : Nat) (dt : List NodeV) (wq : World), Hid (Mem w wq [nodesR (.slice a63 dt.length c63) dt, kidsR dt, factR (dt.map NodeV.n = (g.lessG i).ns), rowR 33 5 (.slice a61 (n + 1) c61) (n + 1) (ds.flatMap NodeV.cells ++ (#[.int .i64 X.kind, .string X.name, .slice (some ⟨bA, 0, none⟩) (X.args.length - 1) kA, .slice (some ⟨bL, 0, none⟩) (X.labels.length - 1) kL, .bool X.isOpen]).toList), cellsR b7 33 #[.int .i64 X.kind, .string X.name, .slice (some ⟨bA, 0, none⟩) (X.args.length - 1) kA, .slice (some ⟨bL, 0, none⟩) (X.labels.length - 1) kL, .bool X.isOpen], rowR 3 1 (.slice (some ⟨bA, 0, none⟩) (X.args.length - 1) kA) (X.args.length - 1) ((X.args.eraseIdx i).map (Value.int .i64)), rowR 9 1 (.slice (some ⟨bL, 0, none⟩) (X.labels.length - 1) kL) (X.labels.length - 1) ((X.labels.eraseIdx i).map Value.string), cellsR (w.heap.size + 1) 24 #[.slice a63 dt.length c63, .int .i64 0], cellsR w.heap.size 24 #[.slice (some ⟨b1, o1, none⟩) n ca, .int .i64 (r : Int)]]) → G 0 (bt 13 8191) ((((((a0.put (some 58) (.slice a58 n c58)).put (some 60) (.slice (some ⟨b60, 0, none⟩) 1 1)).put (some 61) (.slice a61 (n + 1) c61)).put (some 62) (.agg #[.slice a61 (n + 1) c61, .int .i64 (n : Int)])).put (some 63) (.agg #[.slice a63 dt.length c63, .int .i64 0])).put (some 5) (.int .i64 0)) wq) := ⟨by
  intro a58 c58 b60 a61 c61 a63 c63 dt wq HC
  refine into_G hG ?_
  rw [hA.out]
  try simp only [Act.put, zqf, zqg, zqh]
  refine lDone (by kernel_rfl) ?_
  clear hA hG
  have z0 := HC.out.cell 7 rfl 0 rfl
  have z1 := HC.out.cell 7 rfl 1 rfl
  have hdt : dt.map NodeV.n = (g.lessG i).ns := HC.out.at_ 2 rfl
  go_wp2_with fail
  refine bodyPost_ret (v := .tuple #[.agg #[.slice a63 dt.length c63, .int .i64 0], .int .i64 0]) (by simp [results, Tryz.results15, go_sem, z0, z1]) rfl (by first | exact ⟨_, dt, rfl, hdt, HC.out.sub (by simp)⟩ | exact ⟨_, rfl, dt, hdt, HC.out.sub (by simp)⟩)
 ⟩
 have Z1 : Kept (∀ (a58 : Option Addr) (c58 : Nat) (b60 : Nat) (a61 : Option Addr) (c61 : Nat) (a63 : Option Addr) (c63 : Nat) (dt : List NodeV) (wq : World), Hid (Mem w wq [nodesR (.slice a63 dt.length c63) dt, kidsR dt, factR (dt.map NodeV.n = (g.lessG i).ns), rowR 33 5 (.slice a61 (n + 1) c61) (n + 1) (ds.flatMap NodeV.cells ++ (#[.int .i64 X.kind, .string X.name, .slice (some ⟨bA, 0, none⟩) (X.args.length - 1) kA, .slice (some ⟨bL, 0, none⟩) (X.labels.length - 1) kL, .bool X.isOpen]).toList), cellsR b7 33 #[.int .i64 X.kind, .string X.name, .slice (some ⟨bA, 0, none⟩) (X.args.length - 1) kA, .slice (some ⟨bL, 0, none⟩) (X.labels.length - 1) kL, .bool X.isOpen], rowR 3 1 (.slice (some ⟨bA, 0, none⟩) (X.args.length - 1) kA) (X.args.length - 1) ((X.args.eraseIdx i).map (Value.int .i64)), rowR 9 1 (.slice (some ⟨bL, 0, none⟩) (X.labels.length - 1) kL) (X.labels.length - 1) ((X.labels.eraseIdx i).map Value.string), cellsR (w.heap.size + 1) 24 #[.slice none 0 0, .int .i64 0], cellsR w.heap.size 24 #[.slice (some ⟨b1, o1, none⟩) n ca, .int .i64 (r : Int)]]) → G 2 (bt 13 2047) (((((a0.put (some 58) (.slice a58 n c58)).put (some 60) (.slice (some ⟨b60, 0, none⟩) 1 1)).put (some 61) (.slice a61 (n + 1) c61)).put (some 62) (.agg #[.slice a61 (n + 1) c61, .int .i64 (n : Int)])).put (some 63) (.agg #[.slice a63 dt.length c63, .int .i64 0])) wq) := ⟨by
  intro a58 c58 b60 a61 c61 a63 c63 dt wq HC
  refine into_G hG ?_
  rw [hA.out]
  try simp only [Act.put, zqf, zqg, zqh]
  have hH := cS.is (w := wq) (⟨HC.out.cell 8 rfl 0 rfl, HC.out.cell 8 rfl 1 rfl, HC.out.cell 4 rfl 0 rfl, HC.out.cell 4 rfl 1 rfl, HC.out.cell 4 rfl 2 rfl, HC.out.cell 4 rfl 3 rfl, HC.out.cell 4 rfl 4 rfl⟩)
  refine lOne 11 (by kernel_rfl) ?_
  ·
   refine (LFall.op (by kernel_rfl) (fun K hK => ?_))
   have z0 := HC.out.free 7 rfl 0
   have z1 := HC.out.free 7 rfl 1
   obtain ⟨y0, y1⟩ := HC.out.two 7 rfl
   have HN := Tre.hid ((HC.out.setCell 7 rfl 0 (.slice a63 dt.length c63)).setCell 7 rfl 1 (.int .i64 0))
   go_simp
   clear z0 z1 y0 y1
   generalize hw : World.setCell _ ⟨w.heap.size + 1, 1, none⟩ _ = wr at HN ⊢
   clear hw
   refine hK.out _ _ ?_
   refine lPv 12 (some 5) (.int .i64 0) (keep_fell (by kernel_rfl)) ?_
   exact outof_G hG (Z0.out a58 c58 b60 a61 c61 a63 c63 dt wr HN) (by kernel_rfl) (by rw [hA.out]; try kernel_rfl)
 ⟩
 have Z2 : Kept (∀ (a58 : Option Addr) (c58 : Nat) (b60 : Nat) (a61 : Option Addr) (c61 : Nat) (wq : World), Hid (Mem w wq [rowR 33 5 (.slice a61 (n + 1) c61) (n + 1) (ds.flatMap NodeV.cells ++ (#[.int .i64 X.kind, .string X.name, .slice (some ⟨bA, 0, none⟩) (X.args.length - 1) kA, .slice (some ⟨bL, 0, none⟩) (X.labels.length - 1) kL, .bool X.isOpen]).toList), cellsR b7 33 #[.int .i64 X.kind, .string X.name, .slice (some ⟨bA, 0, none⟩) (X.args.length - 1) kA, .slice (some ⟨bL, 0, none⟩) (X.labels.length - 1) kL, .bool X.isOpen], rowR 3 1 (.slice (some ⟨bA, 0, none⟩) (X.args.length - 1) kA) (X.args.length - 1) ((X.args.eraseIdx i).map (Value.int .i64)), rowR 9 1 (.slice (some ⟨bL, 0, none⟩) (X.labels.length - 1) kL) (X.labels.length - 1) ((X.labels.eraseIdx i).map Value.string), cellsR (w.heap.size + 1) 24 #[.slice none 0 0, .int .i64 0], cellsR w.heap.size 24 #[.slice (some ⟨b1, o1, none⟩) n ca, .int .i64 (r : Int)]]) → G 3 (bt 13 1023) ((((a0.put (some 58) (.slice a58 n c58)).put (some 60) (.slice (some ⟨b60, 0, none⟩) 1 1)).put (some 61) (.slice a61 (n + 1) c61)).put (some 62) (.agg #[.slice a61 (n + 1) c61, .int .i64 (n : Int)])) wq) := ⟨by
  intro a58 c58 b60 a61 c61 wq HC
  refine into_G hG ?_
  rw [hA.out]
  try simp only [Act.put, zqf, zqg, zqh]
  have hH := cS.is (w := wq) (⟨HC.out.cell 5 rfl 0 rfl, HC.out.cell 5 rfl 1 rfl, HC.out.cell 1 rfl 0 rfl, HC.out.cell 1 rfl 1 rfl, HC.out.cell 1 rfl 2 rfl, HC.out.cell 1 rfl 3 rfl, HC.out.cell 1 rfl 4 rfl⟩)
  refine lOne 10 (by kernel_rfl) ?_
  ·
   refine (LStep.op (fun K hK => ?_))
   go_simp
   refine (HTR.out _ _ _ _ HC.out).mono ?_
   rintro e wr ⟨vT, dt, rfl, hdt, mq⟩
   have HN1 := Tre.hid (HC.out.call mq)
   obtain ⟨a63, c63, rfl, _⟩ := HN1.out.val 0 rfl
   have HN := Tre.hid (HN1.out.addFact hdt)
   clear mq HN1 hdt
   (try dsimp only)
   have HC := Tre.hid (((HN.out.front 0 rfl).front 2 rfl).front 2 rfl)
   clear HN
   refine hK.out _ _ ?_ (fun hH2 => ?_)
   ·exact ⟨HC.out.cell 8 rfl 0 rfl, HC.out.cell 8 rfl 1 rfl, HC.out.cell 4 rfl 0 rfl, HC.out.cell 4 rfl 1 rfl, HC.out.cell 4 rfl 2 rfl, HC.out.cell 4 rfl 3 rfl, HC.out.cell 4 rfl 4 rfl⟩
   exact outof_G hG (Z1.out a58 c58 b60 a61 c61 a63 c63 dt wr HC) (by kernel_rfl) (by rw [hA.out]; try kernel_rfl)
 ⟩
 have Z3 : Kept (∀ (a58 : Option Addr) (c58 : Nat) (b60 : Nat) (wq : World), Hid (Mem w wq [rowR 33 5 (.slice a58 n c58) n (ds.flatMap NodeV.cells), rowR 33 5 (.slice (some ⟨b60, 0, none⟩) 1 1) 1 (#[.int .i64 X.kind, .string X.name, .slice (some ⟨bA, 0, none⟩) (X.args.length - 1) kA, .slice (some ⟨bL, 0, none⟩) (X.labels.length - 1) kL, .bool X.isOpen]).toList, cellsR b7 33 #[.int .i64 X.kind, .string X.name, .slice (some ⟨bA, 0, none⟩) (X.args.length - 1) kA, .slice (some ⟨bL, 0, none⟩) (X.labels.length - 1) kL, .bool X.isOpen], rowR 3 1 (.slice (some ⟨bA, 0, none⟩) (X.args.length - 1) kA) (X.args.length - 1) ((X.args.eraseIdx i).map (Value.int .i64)), rowR 9 1 (.slice (some ⟨bL, 0, none⟩) (X.labels.length - 1) kL) (X.labels.length - 1) ((X.labels.eraseIdx i).map Value.string), cellsR (w.heap.size + 1) 24 #[.slice none 0 0, .int .i64 0], cellsR w.heap.size 24 #[.slice (some ⟨b1, o1, none⟩) n ca, .int .i64 (r : Int)]]) → G 5 (bt 13 255) ((a0.put (some 58) (.slice a58 n c58)).put (some 60) (.slice (some ⟨b60, 0, none⟩) 1 1)) wq) := ⟨by
  intro a58 c58 b60 wq HC
  refine into_G hG ?_
  rw [hA.out]
  have hH := cS.is (w := wq) (⟨HC.out.cell 6 rfl 0 rfl, HC.out.cell 6 rfl 1 rfl, HC.out.cell 2 rfl 0 rfl, HC.out.cell 2 rfl 1 rfl, HC.out.cell 2 rfl 2 rfl, HC.out.cell 2 rfl 3 rfl, HC.out.cell 2 rfl 4 rfl⟩)
  refine lOne 8 (by kernel_rfl) ?_
  ·
   refine LStep.app (some 61) (.tmp 58) (.tmp 60) 22 (by kernel_rfl) 33 ii _ 5 80 Tryz.underlying22 J1.out J2.out J3.out J4.out rfl (by omega) (.slice a58 n c58) n (ds.flatMap NodeV.cells) (by kernel_rfl) (HC.out.row 0 rfl) (some ⟨b60, 0, none⟩) 1 1 (#[.int .i64 X.kind, .string X.name, .slice (some ⟨bA, 0, none⟩) (X.args.length - 1) kA, .slice (some ⟨bL, 0, none⟩) (X.labels.length - 1) kL, .bool X.isOpen]).toList (by kernel_rfl) (nrow5 (HC.out.row 1 rfl)) (x_one _ _ _ _) (by unfold maxLen; omega) (by omega) ?_
   intro v' wr hown4 hgrow4 hat4
   have M4 := HC.out.grow 0 rfl hgrow4 hown4 hat4
   obtain ⟨a61, c61, rfl, _⟩ := M4.val 0 rfl
   have HN := Tre.hid (M4.del 1)
   clear M4 hown4 hgrow4 hat4
   refine ⟨⟨HN.out.cell 5 rfl 0 rfl, HN.out.cell 5 rfl 1 rfl, HN.out.cell 1 rfl 0 rfl, HN.out.cell 1 rfl 1 rfl, HN.out.cell 1 rfl 2 rfl, HN.out.cell 1 rfl 3 rfl, HN.out.cell 1 rfl 4 rfl⟩, fun hH2 => ?_⟩
   refine lPv 9 (some 62) (.agg #[.slice a61 (n + 1) c61, .int .i64 (n : Int)]) (keep_of hH2) ?_
   exact outof_G hG (Z2.out a58 c58 b60 a61 c61 wr HN) (by kernel_rfl) (by rw [hA.out]; try kernel_rfl)
 ⟩
 have Z4 : Kept (∀ (a58 : Option Addr) (c58 : Nat) (wq : World), Hid (Mem w wq [rowR 33 5 (.slice a58 n c58) n (ds.flatMap NodeV.cells), cellsR b7 33 #[.int .i64 X.kind, .string X.name, .slice (some ⟨bA, 0, none⟩) (X.args.length - 1) kA, .slice (some ⟨bL, 0, none⟩) (X.labels.length - 1) kL, .bool X.isOpen], rowR 3 1 (.slice (some ⟨bA, 0, none⟩) (X.args.length - 1) kA) (X.args.length - 1) ((X.args.eraseIdx i).map (Value.int .i64)), rowR 9 1 (.slice (some ⟨bL, 0, none⟩) (X.labels.length - 1) kL) (X.labels.length - 1) ((X.labels.eraseIdx i).map Value.string), cellsR (w.heap.size + 1) 24 #[.slice none 0 0, .int .i64 0], cellsR w.heap.size 24 #[.slice (some ⟨b1, o1, none⟩) n ca, .int .i64 (r : Int)]]) → G 6 (bt 13 127) (a0.put (some 58) (.slice a58 n c58)) wq) := ⟨by
  intro a58 c58 wq HC
  refine into_G hG ?_
  rw [hA.out]
  have hH := cS.is (w := wq) (⟨HC.out.cell 5 rfl 0 rfl, HC.out.cell 5 rfl 1 rfl, HC.out.cell 1 rfl 0 rfl, HC.out.cell 1 rfl 1 rfl, HC.out.cell 1 rfl 2 rfl, HC.out.cell 1 rfl 3 rfl, HC.out.cell 1 rfl 4 rfl⟩)
  refine lOne 7 (by kernel_rfl) ?_
  ·
   have HN := Tre.hid (HC.out.allocRow #[.int .i64 X.kind, .string X.name, .slice (some ⟨bA, 0, none⟩) (X.args.length - 1) kA, .slice (some ⟨bL, 0, none⟩) (X.labels.length - 1) kL, .bool X.isOpen] 33 5 1 (by unfold maxLen; omega) rfl)
   have HC := Tre.hid ((HN.out.front 0 rfl).front 1 rfl)
   clear HN
   have hH2 := cS.is (w := (wq.alloc (.cells #[.int .i64 X.kind, .string X.name, .slice (some ⟨bA, 0, none⟩) (X.args.length - 1) kA, .slice (some ⟨bL, 0, none⟩) (X.labels.length - 1) kL, .bool X.isOpen] 33))) (⟨HC.out.cell 6 rfl 0 rfl, HC.out.cell 6 rfl 1 rfl, HC.out.cell 2 rfl 0 rfl, HC.out.cell 2 rfl 1 rfl, HC.out.cell 2 rfl 2 rfl, HC.out.cell 2 rfl 3 rfl, HC.out.cell 2 rfl 4 rfl⟩)
   refine LStep.made (some 60) (.slice (some ⟨wq.heap.size, 0, none⟩) 1 1) _ (by kernel_rfl) (by kernel_rfl) hH2 ?_
   exact outof_G hG (Z3.out a58 c58 wq.heap.size _ HC) (by kernel_rfl) (by rw [hA.out]; try kernel_rfl)
 ⟩
 have Z5 : Kept (∀ (b60 : Nat) (wq : World), Hid (Mem w wq [rowR 33 5 (.slice (some ⟨b60, 0, none⟩) 1 1) 1 (#[.int .i64 X.kind, .string X.name, .slice (some ⟨bA, 0, none⟩) (X.args.length - 1) kA, .slice (some ⟨bL, 0, none⟩) (X.labels.length - 1) kL, .bool X.isOpen]).toList, cellsR b7 33 #[.int .i64 X.kind, .string X.name, .slice (some ⟨bA, 0, none⟩) (X.args.length - 1) kA, .slice (some ⟨bL, 0, none⟩) (X.labels.length - 1) kL, .bool X.isOpen], rowR 3 1 (.slice (some ⟨bA, 0, none⟩) (X.args.length - 1) kA) (X.args.length - 1) ((X.args.eraseIdx i).map (Value.int .i64)), rowR 9 1 (.slice (some ⟨bL, 0, none⟩) (X.labels.length - 1) kL) (X.labels.length - 1) ((X.labels.eraseIdx i).map Value.string), cellsR (w.heap.size + 1) 24 #[.slice none 0 0, .int .i64 0], cellsR w.heap.size 24 #[.slice (some ⟨b1, o1, none⟩) n ca, .int .i64 (r : Int)]]) → G 6 (bt 13 223) (a0.put (some 60) (.slice (some ⟨b60, 0, none⟩) 1 1)) wq) := ⟨by
  intro b60 wq HC
  refine into_G hG ?_
  rw [hA.out]
  try simp only [Act.put, zqf, zqg, zqh]
  have hH := cS.is (w := wq) (⟨HC.out.cell 5 rfl 0 rfl, HC.out.cell 5 rfl 1 rfl, HC.out.cell 1 rfl 0 rfl, HC.out.cell 1 rfl 1 rfl, HC.out.cell 1 rfl 2 rfl, HC.out.cell 1 rfl 3 rfl, HC.out.cell 1 rfl 4 rfl⟩)
  refine lOne 5 (by kernel_rfl) ?_
  ·
   refine (LStep.op (fun K hK => ?_))
   go_simp
   refine (HCL.out _ HC.out.below).mono ?_
   rintro e wr ⟨vN, rfl, mq⟩
   rw [nodesR_len HLN.out] at mq
   have HN := Tre.hid (HC.out.call mq)
   obtain ⟨a58, c58, rfl, _⟩ := HN.out.val 0 rfl
   clear mq
   (try dsimp only)
   refine hK.out _ _ ?_ (fun hH2 => ?_)
   ·exact ⟨HN.out.cell 6 rfl 0 rfl, HN.out.cell 6 rfl 1 rfl, HN.out.cell 2 rfl 0 rfl, HN.out.cell 2 rfl 1 rfl, HN.out.cell 2 rfl 2 rfl, HN.out.cell 2 rfl 3 rfl, HN.out.cell 2 rfl 4 rfl⟩
   exact outof_G hG (Z3.out a58 c58 b60 wr HN) (by kernel_rfl) (by rw [hA.out]; try kernel_rfl)
 ⟩
 have Z6 : Kept (∀ (wq : World), Hid (Mem w wq [cellsR b7 33 #[.int .i64 X.kind, .string X.name, .slice (some ⟨bA, 0, none⟩) (X.args.length - 1) kA, .slice (some ⟨bL, 0, none⟩) (X.labels.length - 1) kL, .bool X.isOpen], rowR 3 1 (.slice (some ⟨bA, 0, none⟩) (X.args.length - 1) kA) (X.args.length - 1) ((X.args.eraseIdx i).map (Value.int .i64)), rowR 9 1 (.slice (some ⟨bL, 0, none⟩) (X.labels.length - 1) kL) (X.labels.length - 1) ((X.labels.eraseIdx i).map Value.string), cellsR (w.heap.size + 1) 24 #[.slice none 0 0, .int .i64 0], cellsR w.heap.size 24 #[.slice (some ⟨b1, o1, none⟩) n ca, .int .i64 (r : Int)]]) → G 7 (bt 13 95) (a0) wq) := ⟨by
  intro  wq HC
  refine into_G hG ?_
  rw [hA.out]
  try simp only [Act.put, zqf, zqg, zqh]
  have hH := cS.is (w := wq) (⟨HC.out.cell 4 rfl 0 rfl, HC.out.cell 4 rfl 1 rfl, HC.out.cell 0 rfl 0 rfl, HC.out.cell 0 rfl 1 rfl, HC.out.cell 0 rfl 2 rfl, HC.out.cell 0 rfl 3 rfl, HC.out.cell 0 rfl 4 rfl⟩)
  refine lTwo 5 7 (by kernel_rfl) ?_ ?_
  ·
   refine (LStep.op (fun K hK => ?_))
   go_simp
   refine (HCL.out _ HC.out.below).mono ?_
   rintro e wr ⟨vN, rfl, mq⟩
   rw [nodesR_len HLN.out] at mq
   have HN := Tre.hid (HC.out.call mq)
   obtain ⟨a58, c58, rfl, _⟩ := HN.out.val 0 rfl
   clear mq
   (try dsimp only)
   refine hK.out _ _ ?_ (fun hH2 => ?_)
   ·exact ⟨HN.out.cell 5 rfl 0 rfl, HN.out.cell 5 rfl 1 rfl, HN.out.cell 1 rfl 0 rfl, HN.out.cell 1 rfl 1 rfl, HN.out.cell 1 rfl 2 rfl, HN.out.cell 1 rfl 3 rfl, HN.out.cell 1 rfl 4 rfl⟩
   exact outof_G hG (Z4.out a58 c58 wr HN) (by kernel_rfl) (by rw [hA.out]; try kernel_rfl)
  ·
   have HN := Tre.hid (HC.out.allocRow #[.int .i64 X.kind, .string X.name, .slice (some ⟨bA, 0, none⟩) (X.args.length - 1) kA, .slice (some ⟨bL, 0, none⟩) (X.labels.length - 1) kL, .bool X.isOpen] 33 5 1 (by unfold maxLen; omega) rfl)
   have hH2 := cS.is (w := (wq.alloc (.cells #[.int .i64 X.kind, .string X.name, .slice (some ⟨bA, 0, none⟩) (X.args.length - 1) kA, .slice (some ⟨bL, 0, none⟩) (X.labels.length - 1) kL, .bool X.isOpen] 33))) (⟨HN.out.cell 5 rfl 0 rfl, HN.out.cell 5 rfl 1 rfl, HN.out.cell 1 rfl 0 rfl, HN.out.cell 1 rfl 1 rfl, HN.out.cell 1 rfl 2 rfl, HN.out.cell 1 rfl 3 rfl, HN.out.cell 1 rfl 4 rfl⟩)
   refine LStep.made (some 60) (.slice (some ⟨wq.heap.size, 0, none⟩) 1 1) _ (by kernel_rfl) (by kernel_rfl) hH2 ?_
   exact outof_G hG (Z5.out wq.heap.size _ HN) (by kernel_rfl) (by rw [hA.out]; try kernel_rfl)
 ⟩
 exact Z6.out  wq0 HC
end Go.Proofs.YtoieknnnadgfpaaGreatDoor.gr
