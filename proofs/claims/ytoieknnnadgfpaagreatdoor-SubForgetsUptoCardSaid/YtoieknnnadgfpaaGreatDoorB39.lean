/- SubForgets$1: a function that takes a type, or gives it. sub.Forget, of a type without labels. -/
import Derived.Test.YtoieknnnadgfpaaGreatDoorB36
import Derived.Test.YtoieknnnadgfpaaGreatDoorB38
set_option linter.unusedVariables false
namespace Go.Proofs.YtoieknnnadgfpaaGreatDoor.gr
open Go.RowKit Go.Shelf Go.Maps Go.Tre lex
theorem fn_one (b : Nat) : ∀ u ∈ (#[.int .i64 2, .string { data := #[105, 110, 116] }, .slice none 0 0, .slice none 0 0, .bool false, .int .i64 2, .string { data := #[45, 62] }, .slice (some ⟨b, 0, none⟩) 2 2, .slice none 0 0, .bool false] : Array Value).toList, u.oneCell' = true := by simp [Value.oneCell']
def funR (a : Option Addr) (c b6 : Nat) (ds : List NodeV) (p q : Int) : Res := manyR [rowR 33 5 (.slice a (ds.length + 2) c) (ds.length + 2) (ds.flatMap NodeV.cells ++ (#[.int .i64 2, .string { data := #[105, 110, 116] }, .slice none 0 0, .slice none 0 0, .bool false, .int .i64 2, .string { data := #[45, 62] }, .slice (some ⟨b6, 0, none⟩) 2 2, .slice none 0 0, .bool false] : Array Value).toList), rowR 3 1 (.slice (some ⟨b6, 0, none⟩) 2 2) 2 [.int .i64 p, .int .i64 q]]
theorem _root_.Go.Tre.Mem.many2 {w0 w : World} {rs : List Res} {r s : Res} (h : Mem w0 w (r :: s :: rs)) : Mem w0 w (manyR [r, s] :: rs) :=
 h.join.as_ 0 rfl (manyR [r, s]) (fun hp x hx => by
  rcases List.mem_cons.1 hx with rfl | hx
  ·exact hp.1
  ·rw [List.mem_singleton] at hx; subst hx; exact hp.2) (fun b hb => by
  obtain ⟨x, hx, hb⟩ := hb
  rcases List.mem_cons.1 hx with rfl | hx
  ·exact .inl hb
  ·rw [List.mem_singleton] at hx; subst hx; exact .inr hb)
theorem fun_nodes {W : World} {w : World} {a : Option Addr} {c b6 : Nat} {p q : Int} {g : Tre.Graph} {ds : List NodeV} (h : (funR a c b6 ds p q).P W) (hb : Below w.heap.size w W) (hds : ds.map NodeV.n = g.ns) (hv : ∀ d ∈ ds, NodeVal w d) :
  NodesAt W a (topG (midG g) (conN arrowB p q)).ns := by
 have h0 := h _ (List.mem_cons_self ..)
 have h1 := h _ (List.mem_cons_of_mem _ (List.mem_singleton.2 rfl))
 obtain ⟨aa, ca, ea, la, ra⟩ := row_read h1
 cases ea
 have NA := nodesAt_of (w := W) (a := a) (c := c) (ds := ds ++ [⟨intN, .slice none 0 0, .slice none 0 0⟩, ⟨conN arrowB p q, .slice (some ⟨b6, 0, none⟩) 2 2, .slice none 0 0⟩]) (by
  have e : (ds ++ [(⟨intN, .slice none 0 0, .slice none 0 0⟩ : NodeV), ⟨conN arrowB p q, .slice (some ⟨b6, 0, none⟩) 2 2, .slice none 0 0⟩]).length = ds.length + 2 := by rw [List.length_append]; rfl
  unfold nodesR
  rw [e, List.flatMap_append]
  exact h0) (fun d hd => by
  rcases List.mem_append.1 hd with hd | hd
  ·exact (hv d hd).below hb
  ·rcases List.mem_cons.1 hd with rfl | hd
   ·exact ⟨none, 0, none, 0, rfl, rfl, row_none _ _, row_none _ _, Nat.le_refl _, Nat.le_refl _⟩
   ·rw [List.mem_singleton] at hd; subst hd
    exact ⟨some ⟨b6, 0, none⟩, 2, none, 0, rfl, rfl, ra, row_none _ _, Nat.le_refl _, Nat.le_refl _⟩)
 rw [List.map_append, hds] at NA
 have e : (topG (midG g) (conN arrowB p q)).ns = g.ns ++ [intN, conN arrowB p q] := by show (g.ns ++ [intN]) ++ [conN arrowB p q] = _; rw [List.append_assoc]; rfl
 rw [e]
 exact NA
set_option maxRecDepth 100000 in
set_option maxHeartbeats 16000000 in
theorem fun_any (b1 o1 ca r : Nat) (ds : List NodeV) (gives : Bool) (w : World) (hcs : ∀ j u, (ds.flatMap NodeV.cells)[j]? = some u → w.cell? ⟨b1, o1 + j, none⟩ = some u) (hvs : ∀ d ∈ ds, NodeVal w d) (hn0 : ds.length ≤ 1048576) :
  Calls Tryz.prog 16 #[.agg #[.slice (some ⟨b1, o1, none⟩) ds.length ca, .int .i64 (r : Int)], .bool gives] w fun e w' =>
   ∃ a c b6, e = .returned (.agg #[.slice a (ds.length + 2) c, .int .i64 ((ds.length : Int) + 1)]) ∧ Mem w w' [funR a c b6 ds (if gives then (ds.length : Int) else (r : Int)) (if gives then (r : Int) else (ds.length : Int))] := by
 obtain ⟨n, hln⟩ : ∃ n : Nat, ds.length = n := ⟨_, rfl⟩
 have hnl : n ≤ 1048576 := by omega
 have HLN := Tre.hid hln
 have HONE := Tre.hid (cells_one ds (fun d hd => ⟨w, hvs d hd⟩))
 have HROW : Hid (∀ W, Below w.heap.size w W → Row W 5 (some ⟨b1, o1, none⟩) n (ds.flatMap NodeV.cells)) := fun W hW => ⟨by rw [cells_len, hln], fun j u hu => ⟨b1, o1, rfl, cell_below hW (hcs j u hu)⟩⟩
 have M := (((Mem.nil w).allocR #[.slice (some ⟨b1, o1, none⟩) n ca, .int .i64 (r : Int)] 24).allocR #[.slice none 0 0, .int .i64 0] 24)
 simp only [heapSize_alloc] at M
 have HM0 := Tre.hid M
 clear M
 obtain ⟨ii, I1, I2, I3, I4⟩ := info_parts infoN
 have J1 := Tre.hid I1
 have J2 := Tre.hid I2
 have J3 := Tre.hid I3
 have J4 := Tre.hid I4
 rw [hln]
 clear I1 I2 I3 I4 hcs hvs hln hn0
 go_enter Tryz.func16, Tryz.ntmps16
 go_upto_region 1 with fail
 generalize hw : World.alloc _ _ = w1 at HM0 ⊢
 clear hw
 obtain ⟨g0, g1⟩ := HM0.out.two 1 rfl
 cases gives with
 | true =>
  have HM1 := Tre.hid (HM0.out.allocRow #[.int .i64 (r : Int), .int .i64 (n : Int)] 3 1 2 (by unfold maxLen; omega) rfl)
  go_upto_region 3 with fail
  clear g0 g1 HM0
  generalize hw : World.alloc _ _ = w2 at HM1 ⊢
  generalize hb : w1.heap.size = b6 at HM1 ⊢
  clear hw hb
  obtain ⟨g0, g1⟩ := HM1.out.two 2 rfl
  have HM2 := Tre.hid ((HM1.out.drop1).allocRow #[.int .i64 (n : Int), .int .i64 (r : Int)] 3 1 2 (by unfold maxLen; omega) rfl)
  go_upto_region 5 with fail
  clear g0 g1 HM1
  generalize hw : World.alloc _ _ = w3 at HM2 ⊢
  generalize hb : w2.heap.size = b7 at HM2 ⊢
  clear hw hb
  obtain ⟨g0, g1⟩ := HM2.out.two 2 rfl
  have HA := Tre.hid (HM2.out.allocRow #[] 33 5 0 (by unfold maxLen; omega) rfl)
  obtain ⟨g2, g3⟩ := HA.out.two 3 rfl
  go_wp2_with (first | (at_builtin; refine wpList_append_row _ rfl _ _ 22 rfl 33 ii _ 5 80 Tryz.underlying22 J1.out J2.out J3.out J4.out rfl (by omega) (.slice (some ⟨w3.heap.size, 0, none⟩) 0 0) 0 [] rfl (HA.out.row 0 rfl) (some ⟨b1, o1, none⟩) n ca (ds.flatMap NodeV.cells) rfl (HROW.out _ HA.out.below) HONE.out (by unfold maxLen; omega) (by omega) ?_; intro v' w9 hown4 hgrow4 hat4; simp only [Nat.zero_add, List.nil_append] at hown4; have M4 := HA.out.grow 0 rfl hgrow4 hown4 hat4; obtain ⟨a4, c4, rfl, _⟩ := M4.val 0 rfl; have HB := Tre.hid (M4.allocRow #[.int .i64 2, .string { data := #[105, 110, 116] }, .slice none 0 0, .slice none 0 0, .bool false, .int .i64 2, .string { data := #[45, 62] }, .slice (some ⟨b7, 0, none⟩) 2 2, .slice none 0 0, .bool false] 33 5 2 (by unfold maxLen; omega) rfl); clear M4 hown4 hgrow4 hat4) | (at_builtin; refine wpList_append_row _ rfl _ _ 22 rfl 33 ii _ 5 80 Tryz.underlying22 J1.out J2.out J3.out J4.out rfl (by omega) (.slice a4 n c4) n (ds.flatMap NodeV.cells) rfl (HB.out.row 1 rfl) (some ⟨w9.heap.size, 0, none⟩) 2 2 (#[.int .i64 2, .string { data := #[105, 110, 116] }, .slice none 0 0, .slice none 0 0, .bool false, .int .i64 2, .string { data := #[45, 62] }, .slice (some ⟨b7, 0, none⟩) 2 2, .slice none 0 0, .bool false]).toList rfl (nrow5 (HB.out.row 0 rfl)) (fn_one _) (by unfold maxLen; omega) (by omega) ?_; intro v' w10 hown4 hgrow4 hat4; have M5 := HB.out.grow 1 rfl hgrow4 hown4 hat4; obtain ⟨a5, c5, rfl, _⟩ := M5.val 1 rfl; have q0 := M5.cell 3 rfl 0 rfl; have q1 := M5.cell 3 rfl 1 rfl; have f0 := M5.free 3 rfl 0; have f1 := M5.free 3 rfl 1; have HM5 := Tre.hid ((M5.setCell 3 rfl 0 (.slice a5 (n + 2) c5)).setCell 3 rfl 1 (.int .i64 ((n : Int) + 1))); clear M5 hown4 hgrow4 hat4))
  have z0 := HM5.out.cell 3 rfl 0 rfl
  have z1 := HM5.out.cell 3 rfl 1 rfl
  have MF := Go.Tre.Mem.many2 (rs := []) (((HM5.out.del 0).del 3).del 2)
  have HF : Hid (Mem w ((w10.setCell ⟨w.heap.size + 1, 0, none⟩ (.slice a5 (n + 2) c5)).setCell ⟨w.heap.size + 1, 1, none⟩ (.int .i64 ((n : Int) + 1))) [funR a5 c5 b7 ds (n : Int) (r : Int)]) := by unfold funR; rw [HLN.out]; exact MF
  refine bodyPost_ret (v := .agg #[.slice a5 (n + 2) c5, .int .i64 ((n : Int) + 1)]) (by simp [results, Tryz.results16, go_sem, z0, z1]) rfl ?_
  first | exact ⟨a5, c5, b7, rfl, HF.out⟩ | exact ⟨a5, c5, rfl, b7, HF.out⟩ | exact ⟨a5, ⟨c5, rfl⟩, b7, HF.out⟩
 | false =>
  have HM1 := Tre.hid (HM0.out.allocRow #[.int .i64 (r : Int), .int .i64 (n : Int)] 3 1 2 (by unfold maxLen; omega) rfl)
  go_upto_region 3 with fail
  clear g0 g1 HM0
  generalize hw : World.alloc _ _ = w2 at HM1 ⊢
  generalize hb : w1.heap.size = b6 at HM1 ⊢
  clear hw hb
  have HM2 := HM1
  go_upto_region 5 with fail
  clear HM1
  obtain ⟨g0, g1⟩ := HM2.out.two 2 rfl
  have HA := Tre.hid (HM2.out.allocRow #[] 33 5 0 (by unfold maxLen; omega) rfl)
  obtain ⟨g2, g3⟩ := HA.out.two 3 rfl
  go_wp2_with (first | (at_builtin; refine wpList_append_row _ rfl _ _ 22 rfl 33 ii _ 5 80 Tryz.underlying22 J1.out J2.out J3.out J4.out rfl (by omega) (.slice (some ⟨w2.heap.size, 0, none⟩) 0 0) 0 [] rfl (HA.out.row 0 rfl) (some ⟨b1, o1, none⟩) n ca (ds.flatMap NodeV.cells) rfl (HROW.out _ HA.out.below) HONE.out (by unfold maxLen; omega) (by omega) ?_; intro v' w9 hown4 hgrow4 hat4; simp only [Nat.zero_add, List.nil_append] at hown4; have M4 := HA.out.grow 0 rfl hgrow4 hown4 hat4; obtain ⟨a4, c4, rfl, _⟩ := M4.val 0 rfl; have HB := Tre.hid (M4.allocRow #[.int .i64 2, .string { data := #[105, 110, 116] }, .slice none 0 0, .slice none 0 0, .bool false, .int .i64 2, .string { data := #[45, 62] }, .slice (some ⟨b6, 0, none⟩) 2 2, .slice none 0 0, .bool false] 33 5 2 (by unfold maxLen; omega) rfl); clear M4 hown4 hgrow4 hat4) | (at_builtin; refine wpList_append_row _ rfl _ _ 22 rfl 33 ii _ 5 80 Tryz.underlying22 J1.out J2.out J3.out J4.out rfl (by omega) (.slice a4 n c4) n (ds.flatMap NodeV.cells) rfl (HB.out.row 1 rfl) (some ⟨w9.heap.size, 0, none⟩) 2 2 (#[.int .i64 2, .string { data := #[105, 110, 116] }, .slice none 0 0, .slice none 0 0, .bool false, .int .i64 2, .string { data := #[45, 62] }, .slice (some ⟨b6, 0, none⟩) 2 2, .slice none 0 0, .bool false]).toList rfl (nrow5 (HB.out.row 0 rfl)) (fn_one _) (by unfold maxLen; omega) (by omega) ?_; intro v' w10 hown4 hgrow4 hat4; have M5 := HB.out.grow 1 rfl hgrow4 hown4 hat4; obtain ⟨a5, c5, rfl, _⟩ := M5.val 1 rfl; have q0 := M5.cell 3 rfl 0 rfl; have q1 := M5.cell 3 rfl 1 rfl; have f0 := M5.free 3 rfl 0; have f1 := M5.free 3 rfl 1; have HM5 := Tre.hid ((M5.setCell 3 rfl 0 (.slice a5 (n + 2) c5)).setCell 3 rfl 1 (.int .i64 ((n : Int) + 1))); clear M5 hown4 hgrow4 hat4))
  have z0 := HM5.out.cell 3 rfl 0 rfl
  have z1 := HM5.out.cell 3 rfl 1 rfl
  have MF := Go.Tre.Mem.many2 (rs := []) (((HM5.out.del 0).del 3).del 2)
  have HF : Hid (Mem w ((w10.setCell ⟨w.heap.size + 1, 0, none⟩ (.slice a5 (n + 2) c5)).setCell ⟨w.heap.size + 1, 1, none⟩ (.int .i64 ((n : Int) + 1))) [funR a5 c5 b6 ds (r : Int) (n : Int)]) := by unfold funR; rw [HLN.out]; exact MF
  refine bodyPost_ret (v := .agg #[.slice a5 (n + 2) c5, .int .i64 ((n : Int) + 1)]) (by simp [results, Tryz.results16, go_sem, z0, z1]) rfl ?_
  first | exact ⟨a5, c5, b6, rfl, HF.out⟩ | exact ⟨a5, c5, rfl, b6, HF.out⟩ | exact ⟨a5, ⟨c5, rfl⟩, b6, HF.out⟩
end Go.Proofs.YtoieknnnadgfpaaGreatDoor.gr
namespace Go.Proofs.YtoieknnnadgfpaaGreatDoor.gr
open Go.RowKit Go.Shelf Go.Maps Go.Tre lex
set_option maxRecDepth 100000 in
set_option maxHeartbeats 16000000 in
theorem forget_none (b1 o1 ca : Nat) (g : Tre.Graph) (s : ByteArray) (w : World) (hg : NodesAt w (some ⟨b1, o1, none⟩) g.ns) (wg : g.weight ≤ 1048576) (hm : MaxAt w) (c0 : g.checkC = 0)
  (h0 : (g.nd g.root.toNat).labels = []) :
  Calls Tryz.prog 15 #[.agg #[.slice (some ⟨b1, o1, none⟩) g.ns.length ca, .int .i64 g.root], .string s] w fun e w' =>
   e = .returned (.tuple #[.agg #[.slice none 0 0, .int .i64 0], .int .i64 10]) ∧ Below w.heap.size w w' := by
 have og := Graph.ok_of c0
 obtain ⟨r, hr⟩ : ∃ r : Nat, g.root = (r : Int) := ⟨g.root.toNat, by have := og.root0; omega⟩
 have hrl : r < g.ns.length := by have := og.root1; omega
 have er : g.root.toNat = r := by omega
 rw [er] at h0
 obtain ⟨n, hn⟩ : ∃ n : Nat, g.ns.length = n := ⟨_, rfl⟩
 obtain ⟨b', o', e0, nx⟩ := hg.at_ r (g.nd r) (by rw [Graph.nd_eq hrl]; exact List.getElem?_eq_getElem hrl)
 cases e0
 have M := ((Mem.nil w).allocR #[.slice (some ⟨b1, o1, none⟩) n ca, .int .i64 (r : Int)] 24).allocR #[.slice none 0 0, .int .i64 0] 24
 simp only [heapSize_alloc] at M
 have CK := check_any (some ⟨b1, o1, none⟩) ca g _ (hg.below M.below) (by omega) (hm.below M.below)
 rw [c0, hn, hr] at CK
 have HCK := Tre.hid CK
 rw [hn, hr]
 have HM0 := Tre.hid M
 generalize hX : g.nd r = X at *
 obtain ⟨ax, cx, lx, dx, x0, x1, x2, x3, x4, xA, xL, hca, hcl⟩ := nx
 rw [h0] at x3
 have X0 := Tre.hid x0
 have X1 := Tre.hid x1
 have X2 := Tre.hid x2
 have X3 := Tre.hid x3
 have X4 := Tre.hid x4
 have m1 : (0 : Int) ≤ (r : Int) := by omega
 have m2 : (r : Int) < (n : Int) := by omega
 clear hg hm c0 og hr CK M wg hX x0 x1 x2 x3 x4 xA xL er hrl hn h0 hca hcl
 go_enter Tryz.func15, Tryz.ntmps15
 go_wp2_with fail
 refine HCK.out.mono ?_
 rintro e w1 ⟨rfl, bq⟩
 have HM1 := Tre.hid (HM0.out.quiet bq)
 clear bq HCK HM0
 obtain ⟨g0, g1⟩ := HM1.out.two 1 rfl
 have x0 := cell_below HM1.out.below X0.out
 have x1 := cell_below HM1.out.below X1.out
 have x2 := cell_below HM1.out.below X2.out
 have x3 := cell_below HM1.out.below X3.out
 have x4 := cell_below HM1.out.below X4.out
 go_upto_region 5 with fail
 clear g0 g1 x0 x1 x2 x3 x4
 have HM2 := Tre.hid (HM1.out.allocR #[.int .i64 X.kind, .string X.name, .slice ax X.args.length cx, .slice lx ([] : List ByteArray).length dx, .bool X.isOpen] 33)
 generalize hw : w1.alloc (.cells #[.int .i64 X.kind, .string X.name, .slice ax X.args.length cx, .slice lx ([] : List ByteArray).length dx, .bool X.isOpen] 33) = w2 at HM2 ⊢
 generalize hb : w1.heap.size = b7 at HM2 ⊢
 clear hw hb HM1
 have p3 := HM2.out.cell 0 rfl 3 rfl
 go_wp2_with fail
 refine (search_nil lx dx s _).mono ?_
 rintro e w3 ⟨⟨k, rfl⟩, bq⟩
 have HM3 := Tre.hid (HM2.out.quiet bq)
 clear bq p3 HM2
 have p0 := HM3.out.cell 0 rfl 0 rfl
 have z0 := HM3.out.free 1 rfl 0
 have z1 := HM3.out.free 1 rfl 1
 obtain ⟨y0, y1⟩ := HM3.out.two 1 rfl
 have HM4 := Tre.hid ((HM3.out.setCell 1 rfl 0 (.slice none 0 0)).setCell 1 rfl 1 (.int .i64 0))
 cases hk : (X.kind != 3) with
 | true =>
  go_wp2_with fail
  have q0 := HM4.out.cell 1 rfl 0 rfl
  have q1 := HM4.out.cell 1 rfl 1 rfl
  refine bodyPost_ret (v := .tuple #[.agg #[.slice none 0 0, .int .i64 0], .int .i64 10]) (by simp [results, Tryz.results15, go_sem, q0, q1]) rfl ⟨rfl, HM4.out.below⟩
 | false =>
  go_wp2_with fail
  have q0 := HM4.out.cell 1 rfl 0 rfl
  have q1 := HM4.out.cell 1 rfl 1 rfl
  refine bodyPost_ret (v := .tuple #[.agg #[.slice none 0 0, .int .i64 0], .int .i64 10]) (by simp [results, Tryz.results15, go_sem, q0, q1]) rfl ⟨rfl, HM4.out.below⟩
end Go.Proofs.YtoieknnnadgfpaaGreatDoor.gr
