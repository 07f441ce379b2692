/- graph.Same, at any two graphs. The reference's Equal. Layer 9, plain: a graph whose closed nodes stand twice has the same least one; a type beside itself or another one. -/
import Derived.Test.YtaleodkbghogfaaGreatDoorB38
import Derived.Test.YtaleodkbghogfaaGreatDoorB07
import Derived.Test.YtaleodkbghogfaaGreatDoorB37
import Derived.Test.YtaleodkbghogfaaGreatDoorB08
import Derived.Deep.RegionHeld3
import Derived.Deep.RegionWith
import Derived.Test.YtaleodkbghogfaaGreatDoorB19
set_option linter.unusedVariables false
namespace Go.Proofs.YtaleodkbghogfaaGreatDoor.gr
open Go.RowKit Go.Maps Go.Tre lex

set_option maxRecDepth 100000 in
set_option maxHeartbeats 4000000 in
theorem same_any (a b : Option Addr) (ca cb : Nat) (g h : Tre.Graph) (w : World) (hg : NodesAt w a g.ns) (hh : NodesAt w b h.ns) (wg : g.weight ≤ 2097152) (wh : h.weight ≤ 2097152) (hm : MaxAt w) :
  Calls Tryz.prog 14 #[.agg #[.slice a g.ns.length ca, .int .i64 g.root], .agg #[.slice b h.ns.length cb, .int .i64 h.root]] w fun e w' => e = .returned (.bool (sameB g h)) ∧ Below w.heap.size w w' := by
 by_cases c0 : g.checkC = 0
 ·by_cases c1 : h.checkC = 0
  ·refine same_ok a b ca cb g h w hg hh (by omega) (by omega) hm ?_ c0 c1
   have h1 := left_le g h
   have h2 := len_weight h
   have h3 : g.weight * h.ns.length ≤ 2097152 * 2097152 := Nat.mul_le_mul wg (by omega)
   omega
  ·have b2 : Below w.heap.size w ((w.alloc (.cells #[.slice a g.ns.length ca, .int .i64 g.root] 24)).alloc (.cells #[.slice b h.ns.length cb, .int .i64 h.root] 24)) := ((Below.refl _ _).alloc (Nat.le_refl _) _).alloc (by simp) _
   have HM := Tre.hid hm
   have HG := Tre.hid hg
   have HH := Tre.hid hh
   have HC0 := Tre.hid c0
   have t1 := not_ok c1
   have HN : Hid (¬ SameG g h) := fun s => c1 s.okh
   clear hg hh hm c0 c1
   go_enter Tryz.func14, Tryz.ntmps14
   go_wp2_with fail
   refine (check_any a ca g _ (HG.out.below b2) (by omega) (HM.out.below b2)).mono ?_
   rintro e w1 ⟨rfl, d1⟩
   rw [HC0.out]
   have h0 : w1.cell? ⟨w.heap.size + 1, 0, none⟩ = some (.slice b h.ns.length cb) := cell_below d1 (cell_of_heap (heap_two _ _ _) rfl)
   have h1 : w1.cell? ⟨w.heap.size + 1, 1, none⟩ = some (.int .i64 h.root) := cell_below d1 (cell_of_heap (heap_two _ _ _) rfl)
   have B1 := after2 d1
   clear d1
   go_wp2_with fail
   refine (check_any b cb h _ (HH.out.below B1) (by omega) (HM.out.below B1)).mono ?_
   rintro e w2 ⟨rfl, d2⟩
   have B2 := after_two B1 d2
   clear d2
   go_wp2_with fail
   go_ret
   exact ⟨ret_bool (sameB_false HN.out).symm, B2⟩
 ·have b2 : Below w.heap.size w ((w.alloc (.cells #[.slice a g.ns.length ca, .int .i64 g.root] 24)).alloc (.cells #[.slice b h.ns.length cb, .int .i64 h.root] 24)) := ((Below.refl _ _).alloc (Nat.le_refl _) _).alloc (by simp) _
  have HM := Tre.hid hm
  have HG := Tre.hid hg
  have t1 := not_ok c0
  have HN : Hid (¬ SameG g h) := fun s => c0 s.okg
  clear hg hh hm c0
  go_enter Tryz.func14, Tryz.ntmps14
  go_wp2_with fail
  refine (check_any a ca g _ (HG.out.below b2) (by omega) (HM.out.below b2)).mono ?_
  rintro e w1 ⟨rfl, d1⟩
  have B1 := after2 d1
  clear d1
  go_wp2_with fail
  go_ret
  exact ⟨ret_bool (sameB_false HN.out).symm, B1⟩
end Go.Proofs.YtaleodkbghogfaaGreatDoor.gr
namespace Go.Tre
def sameAt (g h : Tre.Graph) (i : Nat) : Bool := alikeB (g.nd i) (h.nd i) && decide ((g.nd i).args = (h.nd i).args)
theorem node_eq {x y : Tre.Node} (h : (alikeB x y && decide (x.args = y.args)) = true) : x = y := by
 unfold alikeB at h
 simp only [Bool.and_eq_true, decide_eq_true_eq] at h
 obtain ⟨⟨⟨⟨⟨h1, h2⟩, h3⟩, _⟩, h5⟩, h6⟩ := h
 cases x; cases y
 simp only at h1 h2 h3 h5 h6
 subst h1 h2 h3 h5 h6
 rfl
theorem node_refl (x : Tre.Node) : (alikeB x x && decide (x.args = x.args)) = true := by simp [alikeB]
theorem graph_eq {g h : Tre.Graph} (hr : g.root = h.root) (hl : g.ns.length = h.ns.length) (ha : ∀ i, i < g.ns.length → sameAt g h i = true) : g = h := by
 cases g; cases h
 simp only at hr hl ha
 subst hr
 congr 1
 apply List.ext_getElem hl
 intro i h1 h2
 have := node_eq (ha i h1)
 rw [Graph.nd_eq h1, Graph.nd_eq h2] at this
 exact this
end Go.Tre
namespace Go.Proofs.YtaleodkbghogfaaGreatDoor.gr
open Go.RowKit Go.Maps Go.Tre lex

set_option maxRecDepth 100000 in
set_option maxHeartbeats 4000000 in
theorem refEqual (a b : Option Addr) (ca cb : Nat) (g h : Tre.Graph) (w : World) (hg : NodesAt w a g.ns) (hh : NodesAt w b h.ns) (wg : g.weight ≤ 8388608) (wh : h.weight ≤ 8388608) :
  Calls Tryz.prog 12 #[.agg #[.slice a g.ns.length ca, .int .i64 g.root], .agg #[.slice b h.ns.length cb, .int .i64 h.root]] w fun e w' => e = .returned (.bool (decide (g = h))) ∧ Below w.heap.size w w' := by
 have b2 : Below w.heap.size w ((w.alloc (.cells #[.slice a g.ns.length ca, .int .i64 g.root] 24)).alloc (.cells #[.slice b h.ns.length cb, .int .i64 h.root] 24)) := ((Below.refl _ _).alloc (Nat.le_refl _) _).alloc (by simp) _
 have hgl : g.ns.length ≤ 8388608 := Nat.le_trans (len_weight g) wg
 have hhl : h.ns.length ≤ 8388608 := Nat.le_trans (len_weight h) wh
 by_cases hr : g.root = h.root
 ·have e_r : (g.root != h.root) = false := by simp [hr]
  by_cases hl : g.ns.length = h.ns.length
  ·have e_l : ((g.ns.length : Int) != (h.ns.length : Int)) = false := by simp [hl]
   have HR := Tre.hid hr
   have HL := Tre.hid hl
   have HG := Tre.hid hg
   have HH := Tre.hid hh
   have hl1 : g.ns.length ≤ h.ns.length := by omega
   have HB := Tre.hid b2
   have k0 : ((w.alloc (.cells #[.slice a g.ns.length ca, .int .i64 g.root] 24)).alloc (.cells #[.slice b h.ns.length cb, .int .i64 h.root] 24)).heap[w.heap.size]? = some (.cells #[.slice a g.ns.length ca, .int .i64 g.root] 24) := (Below.heap_alloc _ _ _ (by simp)).trans (heap_alloc_new w _)
   have k1 : ((w.alloc (.cells #[.slice a g.ns.length ca, .int .i64 g.root] 24)).alloc (.cells #[.slice b h.ns.length cb, .int .i64 h.root] 24)).heap[w.heap.size + 1]? = some (.cells #[.slice b h.ns.length cb, .int .i64 h.root] 24) := heap_two _ _ _
   have K0 := Tre.hid k0
   have K1 := Tre.hid k1
   clear hr hl hg hh b2 k0 k1
   go_enter Tryz.func12, Tryz.ntmps12
   go_wp2_with fail
   go_loopw [23] (fun v23 wr => ∃ k : Nat, k ≤ g.ns.length ∧ v23 = .int .i64 k ∧ Hid (∀ j, j < k → sameAt g h j = true) ∧ Hid (Below w.heap.size w wr) ∧ Hid (w.heap.size + 2 ≤ wr.heap.size) ∧ Hid (wr.heap[w.heap.size]? = some (.cells #[.slice a g.ns.length ca, .int .i64 g.root] 24)) ∧ Hid (wr.heap[w.heap.size + 1]? = some (.cells #[.slice b h.ns.length cb, .int .i64 h.root] 24)))
    (fun v23 _ => g.ns.length - (intOf v23).toNat)
   case atStart => exact ⟨0, Nat.zero_le _, rfl, fun j hj => by omega, HB.out, (by show _ ≤ _; simp), K0.out, K1.out⟩
   case round =>
    obtain ⟨k, hk, rfl, hrel, hb, hsz, h0, h1⟩ := hrel
    by_cases hlt : k < g.ns.length
    ·have hlt2 : k < h.ns.length := by omega
     have d0 : wr.cell? ⟨w.heap.size, 0, none⟩ = some (.slice a g.ns.length ca) := cell_of_heap h0.out rfl
     have d1 : wr.cell? ⟨w.heap.size + 1, 0, none⟩ = some (.slice b h.ns.length cb) := cell_of_heap h1.out rfl
     obtain ⟨b1, o1, rfl, nx⟩ := (HG.out.below hb.out).at_ k (g.nd k) (by rw [Graph.nd_eq hlt]; exact List.getElem?_eq_getElem hlt)
     obtain ⟨b2, o2, rfl, ny⟩ := (HH.out.below hb.out).at_ k (h.nd k) (by rw [Graph.nd_eq hlt2]; exact List.getElem?_eq_getElem hlt2)
     have hXw : (g.nd k).weight ≤ g.weight := by rw [Graph.nd_eq hlt]; exact node_weight (List.getElem_mem hlt)
     have hYw : (h.nd k).weight ≤ h.weight := by rw [Graph.nd_eq hlt2]; exact node_weight (List.getElem_mem hlt2)
     have hXa := args_len (g.nd k)
     have hXl := labels_len (g.nd k)
     have hYa := args_len (h.nd k)
     have hYl := labels_len (h.nd k)
     have hsa : sameAt g h k = (alikeB (g.nd k) (h.nd k) && decide ((g.nd k).args = (h.nd k).args)) := rfl
     generalize hX : g.nd k = X at *
     generalize hY : h.nd k = Y at *
     obtain ⟨ax, cx, lx, dx, x0, x1, x2, x3, x4, xA, xL, _, _⟩ := nx
     obtain ⟨ay, cy, ly, dy, y0, y1, y2, y3, y4, yA, yL, _, _⟩ := ny
     have HX := Tre.hid hX
     have HY := Tre.hid hY
     have XA := Tre.hid xA
     have XL := Tre.hid xL
     have YA := Tre.hid yA
     have YL := Tre.hid yL
     have HSA := Tre.hid hsa
     have i1 : (0 : Int) ≤ k := by omega
     have i2 : (k : Int) < g.ns.length := by omega
     have i3 : (k : Int) < h.ns.length := by omega
     have bA : X.args.length ≤ 8388608 := by omega
     have bB : Y.args.length ≤ 8388608 := by omega
     have bC : X.labels.length ≤ 8388608 := by omega
     have bD : Y.labels.length ≤ 8388608 := by omega
     clear hX hY xA xL yA yL hsa hXw hYw hXa hXl hYa hYl
     by_cases hal : alikeB X Y = true
     ·have HAL := Tre.hid hal
      clear hal
      by_cases hae : X.args = Y.args
      ·have hae' : decide (X.args = Y.args) = true := by simp [hae]
       have HAE := Tre.hid hae'
       have HEQ := Tre.hid hae
       clear hae hae'
       go_wp2_with fail
       go_region_held3 (fun w' => Below wr.heap.size wr w' ∧ w'.cell? ⟨w.heap.size, 0, none⟩ = some (.slice (some ⟨b1, o1, none⟩) g.ns.length ca) ∧ w'.cell? ⟨w.heap.size + 1, 0, none⟩ = some (.slice (some ⟨b2, o2, none⟩) h.ns.length cb) ∧
        w'.cell? ⟨b1, o1 + k * 5, none⟩ = some (.int .i64 X.kind) ∧ w'.cell? ⟨b1, o1 + k * 5 + 1, none⟩ = some (.string X.name) ∧ w'.cell? ⟨b1, o1 + k * 5 + 2, none⟩ = some (.slice ax X.args.length cx) ∧ w'.cell? ⟨b1, o1 + k * 5 + 3, none⟩ = some (.slice lx X.labels.length dx) ∧ w'.cell? ⟨b1, o1 + k * 5 + 4, none⟩ = some (.bool X.isOpen) ∧
        w'.cell? ⟨b2, o2 + k * 5, none⟩ = some (.int .i64 Y.kind) ∧ w'.cell? ⟨b2, o2 + k * 5 + 1, none⟩ = some (.string Y.name) ∧ w'.cell? ⟨b2, o2 + k * 5 + 2, none⟩ = some (.slice ay Y.args.length cy) ∧ w'.cell? ⟨b2, o2 + k * 5 + 3, none⟩ = some (.slice ly Y.labels.length dy) ∧ w'.cell? ⟨b2, o2 + k * 5 + 4, none⟩ = some (.bool Y.isOpen))
        (first
         | exact ⟨(Below.refl _ _).drew, d0, d1, x0, x1, x2, x3, x4, y0, y1, y2, y3, y4⟩
         | exact ⟨((Below.refl _ _).drew).trans hb9, cell_below hb9 d0, cell_below hb9 d1, cell_below hb9 x0, cell_below hb9 x1, cell_below hb9 x2, cell_below hb9 x3, cell_below hb9 x4, cell_below hb9 y0, cell_below hb9 y1, cell_below hb9 y2, cell_below hb9 y3, cell_below hb9 y4⟩
         | (have hh := (show Below wr.heap.size wr w9 ∧ _ from by assumption); exact ⟨hh.1.trans (hb10.mono hh.1.size), cell_below hb10 hh.2.1, cell_below hb10 hh.2.2.1, cell_below hb10 hh.2.2.2.1, cell_below hb10 hh.2.2.2.2.1, cell_below hb10 hh.2.2.2.2.2.1, cell_below hb10 hh.2.2.2.2.2.2.1, cell_below hb10 hh.2.2.2.2.2.2.2.1, cell_below hb10 hh.2.2.2.2.2.2.2.2.1, cell_below hb10 hh.2.2.2.2.2.2.2.2.2.1, cell_below hb10 hh.2.2.2.2.2.2.2.2.2.2.1, cell_below hb10 hh.2.2.2.2.2.2.2.2.2.2.2.1, cell_below hb10 hh.2.2.2.2.2.2.2.2.2.2.2.2⟩)
         | go_keep)
        (first | (go_at_call 26; refine (refAlike X Y ax cx lx dx ay cy ly dy _ ?_ ?_ bC bD bA bB).mono ?_; (exact XL.out.below (by first | assumption | exact (Below.refl _ _).drew)); (exact YL.out.below (by first | assumption | exact (Below.refl _ _).drew)); rintro e w9 ⟨rfl, hb9⟩; rw [HAL.out]) | (go_at_call 27; refine (refInts ax ay cx cy X.args Y.args _ ?_ ?_ bA bB).mono ?_; (exact XA.out.below (show Below wr.heap.size wr w9 ∧ _ from by assumption).1); (exact YA.out.below (show Below wr.heap.size wr w9 ∧ _ from by assumption).1); rintro e w10 ⟨rfl, hb10⟩; rw [HAE.out]))
       have hh := (show Below wr.heap.size wr w10 ∧ _ from by assumption)
       have HB2 := Tre.hid hh.1
       clear hh
       rename_i hh1
       clear hh1
       go_wp2_with fail
       go_roundw
       case rel =>
        refine ⟨k + 1, by omega, by go_num, fun j hj => ?_, hb.out.trans (HB2.out.mono hb.out.size), Nat.le_trans hsz.out HB2.out.size, (HB2.out.block _ (by have := hsz.out; omega)).trans h0.out, (HB2.out.block _ (by have := hsz.out; omega)).trans h1.out⟩
        by_cases e : j = k
        ·subst e
         rw [HSA.out, HAL.out, HAE.out]; rfl
        ·exact hrel.out j (by omega)
       case measure => simp [intOf]; omega
      ·have hae' : decide (X.args = Y.args) = false := by simp [hae]
       have HAE := Tre.hid hae'
       have HNE := Tre.hid hae
       clear hae hae'
       go_wp2_with fail
       go_region_held3 (fun w' => Below wr.heap.size wr w' ∧ w'.cell? ⟨w.heap.size, 0, none⟩ = some (.slice (some ⟨b1, o1, none⟩) g.ns.length ca) ∧ w'.cell? ⟨w.heap.size + 1, 0, none⟩ = some (.slice (some ⟨b2, o2, none⟩) h.ns.length cb) ∧
        w'.cell? ⟨b1, o1 + k * 5, none⟩ = some (.int .i64 X.kind) ∧ w'.cell? ⟨b1, o1 + k * 5 + 1, none⟩ = some (.string X.name) ∧ w'.cell? ⟨b1, o1 + k * 5 + 2, none⟩ = some (.slice ax X.args.length cx) ∧ w'.cell? ⟨b1, o1 + k * 5 + 3, none⟩ = some (.slice lx X.labels.length dx) ∧ w'.cell? ⟨b1, o1 + k * 5 + 4, none⟩ = some (.bool X.isOpen) ∧
        w'.cell? ⟨b2, o2 + k * 5, none⟩ = some (.int .i64 Y.kind) ∧ w'.cell? ⟨b2, o2 + k * 5 + 1, none⟩ = some (.string Y.name) ∧ w'.cell? ⟨b2, o2 + k * 5 + 2, none⟩ = some (.slice ay Y.args.length cy) ∧ w'.cell? ⟨b2, o2 + k * 5 + 3, none⟩ = some (.slice ly Y.labels.length dy) ∧ w'.cell? ⟨b2, o2 + k * 5 + 4, none⟩ = some (.bool Y.isOpen))
        (first
         | exact ⟨(Below.refl _ _).drew, d0, d1, x0, x1, x2, x3, x4, y0, y1, y2, y3, y4⟩
         | exact ⟨((Below.refl _ _).drew).trans hb9, cell_below hb9 d0, cell_below hb9 d1, cell_below hb9 x0, cell_below hb9 x1, cell_below hb9 x2, cell_below hb9 x3, cell_below hb9 x4, cell_below hb9 y0, cell_below hb9 y1, cell_below hb9 y2, cell_below hb9 y3, cell_below hb9 y4⟩
         | (have hh := (show Below wr.heap.size wr w9 ∧ _ from by assumption); exact ⟨hh.1.trans (hb10.mono hh.1.size), cell_below hb10 hh.2.1, cell_below hb10 hh.2.2.1, cell_below hb10 hh.2.2.2.1, cell_below hb10 hh.2.2.2.2.1, cell_below hb10 hh.2.2.2.2.2.1, cell_below hb10 hh.2.2.2.2.2.2.1, cell_below hb10 hh.2.2.2.2.2.2.2.1, cell_below hb10 hh.2.2.2.2.2.2.2.2.1, cell_below hb10 hh.2.2.2.2.2.2.2.2.2.1, cell_below hb10 hh.2.2.2.2.2.2.2.2.2.2.1, cell_below hb10 hh.2.2.2.2.2.2.2.2.2.2.2.1, cell_below hb10 hh.2.2.2.2.2.2.2.2.2.2.2.2⟩)
         | go_keep)
        (first | (go_at_call 26; refine (refAlike X Y ax cx lx dx ay cy ly dy _ ?_ ?_ bC bD bA bB).mono ?_; (exact XL.out.below (by first | assumption | exact (Below.refl _ _).drew)); (exact YL.out.below (by first | assumption | exact (Below.refl _ _).drew)); rintro e w9 ⟨rfl, hb9⟩; rw [HAL.out]) | (go_at_call 27; refine (refInts ax ay cx cy X.args Y.args _ ?_ ?_ bA bB).mono ?_; (exact XA.out.below (show Below wr.heap.size wr w9 ∧ _ from by assumption).1); (exact YA.out.below (show Below wr.heap.size wr w9 ∧ _ from by assumption).1); rintro e w10 ⟨rfl, hb10⟩; rw [HAE.out]))
       have hh := (show Below wr.heap.size wr w10 ∧ _ from by assumption)
       have HB2 := Tre.hid hh.1
       clear hh
       go_wp2_with fail
       go_ret
       refine ⟨ret_bool (Eq.symm (decide_eq_false (fun e => ?_))), hb.out.trans (HB2.out.mono hb.out.size)⟩
       subst e
       exact HNE.out (by rw [← HX.out, ← HY.out])
     ·have hal' : alikeB X Y = false := by simpa using hal
      have HAL := Tre.hid hal'
      clear hal hal'
      go_wp2_with fail
      refine wp_region_held_drew (S := (fun w' => Below wr.heap.size wr w' ∧ w'.cell? ⟨w.heap.size, 0, none⟩ = some (.slice (some ⟨b1, o1, none⟩) g.ns.length ca) ∧ w'.cell? ⟨w.heap.size + 1, 0, none⟩ = some (.slice (some ⟨b2, o2, none⟩) h.ns.length cb) ∧ w'.cell? ⟨b1, o1 + k * 5, none⟩ = some (.int .i64 X.kind) ∧ w'.cell? ⟨b1, o1 + k * 5 + 1, none⟩ = some (.string X.name) ∧ w'.cell? ⟨b1, o1 + k * 5 + 2, none⟩ = some (.slice ax X.args.length cx) ∧ w'.cell? ⟨b1, o1 + k * 5 + 3, none⟩ = some (.slice lx X.labels.length dx) ∧ w'.cell? ⟨b1, o1 + k * 5 + 4, none⟩ = some (.bool X.isOpen) ∧ w'.cell? ⟨b2, o2 + k * 5, none⟩ = some (.int .i64 Y.kind) ∧ w'.cell? ⟨b2, o2 + k * 5 + 1, none⟩ = some (.string Y.name) ∧ w'.cell? ⟨b2, o2 + k * 5 + 2, none⟩ = some (.slice ay Y.args.length cy) ∧ w'.cell? ⟨b2, o2 + k * 5 + 3, none⟩ = some (.slice ly Y.labels.length dy) ∧ w'.cell? ⟨b2, o2 + k * 5 + 4, none⟩ = some (.bool Y.isOpen))) (by kernel_rfl) ?_ (fun hH0 => ?_)
      ·exact ⟨(Below.refl _ _).drew, d0, d1, x0, x1, x2, x3, x4, y0, y1, y2, y3, y4⟩
      refine hTake (i := 0) (some 26) (v := ?_) (by rfl) (by kernel_rfl) (by kernel_rfl) (by kernel_rfl) (fun _ _ _ h => h) (by rfl) ?_ hH0 ?_
      rotate_left
      ·intro w hSw; (try dsimp only at hSw); simp only [Tre.qa, Tre.qc, Tre.qd, Tre.qe]; (first | (go_simp; done) | (go_simp; with_reducible rfl))
      try simp only [Act.put, Tre.qf, Tre.qg, Tre.qh]
      refine hTake (i := 1) (some 27) (v := ?_) (by rfl) (by kernel_rfl) (by kernel_rfl) (by kernel_rfl) (fun _ _ _ h => h) (by rfl) ?_ hH0 ?_
      rotate_left
      ·intro w hSw; (try dsimp only at hSw); simp only [Tre.qa, Tre.qb, Tre.qc, Tre.qd, Tre.qe]; (first | (go_simp; done) | (go_simp; with_reducible rfl))
      try simp only [Act.put, Tre.qf, Tre.qg, Tre.qh]
      refine hTake (i := 2) (some 28) (v := ?_) (by rfl) (by kernel_rfl) (by kernel_rfl) (by kernel_rfl) (fun _ _ _ h => h) (by rfl) ?_ hH0 ?_
      rotate_left
      ·intro w hSw; (try dsimp only at hSw); simp only [Tre.qa, Tre.qb, Tre.qc, Tre.qd, Tre.qe]; (first | (go_simp; done) | (go_simp; with_reducible rfl))
      try simp only [Act.put, Tre.qf, Tre.qg, Tre.qh]
      refine hTake (i := 3) (some 29) (v := ?_) (by rfl) (by kernel_rfl) (by kernel_rfl) (by kernel_rfl) (fun _ _ _ h => h) (by rfl) ?_ hH0 ?_
      rotate_left
      ·intro w hSw; (try dsimp only at hSw); simp only [Tre.qa, Tre.qb, Tre.qc, Tre.qd, Tre.qe]; (first | (go_simp; done) | (go_simp; with_reducible rfl))
      try simp only [Act.put, Tre.qf, Tre.qg, Tre.qh]
      refine hTake (i := 4) (some 30) (v := ?_) (by rfl) (by kernel_rfl) (by kernel_rfl) (by kernel_rfl) (fun _ _ _ h => h) (by rfl) ?_ hH0 ?_
      rotate_left
      ·intro w hSw; (try dsimp only at hSw); simp only [Tre.qa, Tre.qb, Tre.qc, Tre.qd, Tre.qe]; (first | (go_simp; done) | (go_simp; with_reducible rfl))
      try simp only [Act.put, Tre.qf, Tre.qg, Tre.qh]
      refine hTake (i := 5) (some 31) (v := ?_) (by rfl) (by kernel_rfl) (by kernel_rfl) (by kernel_rfl) (fun _ _ _ h => h) (by rfl) ?_ hH0 ?_
      rotate_left
      ·intro w hSw; (try dsimp only at hSw); simp only [Tre.qa, Tre.qb, Tre.qc, Tre.qd, Tre.qe]; (first | (go_simp; done) | (go_simp; with_reducible rfl))
      try simp only [Act.put, Tre.qf, Tre.qg, Tre.qh]
      refine hTake (i := 6) (some 32) (v := ?_) (by rfl) (by kernel_rfl) (by kernel_rfl) (by kernel_rfl) (fun _ _ _ h => h) (by rfl) ?_ hH0 ?_
      rotate_left
      ·intro w hSw; (try dsimp only at hSw); simp only [Tre.qa, Tre.qb, Tre.qc, Tre.qd, Tre.qe]; (first | (go_simp; done) | (go_simp; with_reducible rfl))
      try simp only [Act.put, Tre.qf, Tre.qg, Tre.qh]
      refine hTake (i := 7) (some 33) (v := ?_) (by rfl) (by kernel_rfl) (by kernel_rfl) (by kernel_rfl) (fun _ _ _ h => h) (by rfl) ?_ hH0 ?_
      rotate_left
      ·intro w hSw; (try dsimp only at hSw); simp only [Tre.qa, Tre.qb, Tre.qc, Tre.qd, Tre.qe]; (first | (go_simp; done) | (go_simp; with_reducible rfl))
      try simp only [Act.put, Tre.qf, Tre.qg, Tre.qh]
      refine hTake (i := 8) (some 34) (v := ?_) (by rfl) (by kernel_rfl) (by kernel_rfl) (by kernel_rfl) (fun _ _ _ h => h) (by rfl) ?_ hH0 ?_
      rotate_left
      ·intro w hSw; (try dsimp only at hSw); simp only [Tre.qa, Tre.qb, Tre.qc, Tre.qd, Tre.qe]; (first | (go_simp; done) | (go_simp; with_reducible rfl))
      try simp only [Act.put, Tre.qf, Tre.qg, Tre.qh]
      refine hTake (i := 9) (some 35) (v := ?_) (by rfl) (by kernel_rfl) (by kernel_rfl) (by kernel_rfl) (fun _ _ _ h => h) (by rfl) ?_ hH0 ?_
      rotate_left
      ·intro w hSw; (try dsimp only at hSw); simp only [Tre.qa, Tre.qb, Tre.qc, Tre.qd, Tre.qe]; (first | (go_simp; done) | (go_simp; with_reducible rfl))
      try simp only [Act.put, Tre.qf, Tre.qg, Tre.qh]
      refine hOne 10 (by kernel_rfl) (fun K hK => ?_)
      go_simp
      refine (refAlike X Y ax cx lx dx ay cy ly dy _ (XL.out.below hH0.1) (YL.out.below hH0.1) bC bD bA bB).mono ?_
      rintro e w9 ⟨rfl, hb9⟩
      rw [HAL.out]
      (try dsimp only)
      refine hK.out _ _ ?_ (fun hH1 => ?_)
      ·exact ⟨hH0.1.trans (hb9.mono hH0.1.size), cell_below hb9 d0, cell_below hb9 d1, cell_below hb9 x0, cell_below hb9 x1, cell_below hb9 x2, cell_below hb9 x3, cell_below hb9 x4, cell_below hb9 y0, cell_below hb9 y1, cell_below hb9 y2, cell_below hb9 y3, cell_below hb9 y4⟩
      clear hK K hH0
      try simp only [Act.put, Tre.qf, Tre.qg, Tre.qh]
      refine hTake (i := 11) (some 37) (v := ?_) (by rfl) (by kernel_rfl) (by kernel_rfl) (by kernel_rfl) (fun _ _ _ h => h) (by rfl) ?_ hH1 ?_
      rotate_left
      ·intro w hSw; (try dsimp only at hSw); simp only [Tre.qa, Tre.qb, Tre.qc, Tre.qd, Tre.qe]; (first | (go_simp; done) | (go_simp; with_reducible rfl))
      try simp only [Act.put, Tre.qf, Tre.qg, Tre.qh]
      refine hTake (i := 12) (some 38) (v := ?_) (by rfl) (by kernel_rfl) (by kernel_rfl) (by kernel_rfl) (fun _ _ _ h => h) (by rfl) ?_ hH1 ?_
      rotate_left
      ·intro w hSw; (try dsimp only at hSw); simp only [Tre.qa, Tre.qb, Tre.qc, Tre.qd, Tre.qe]; (first | (go_simp; done) | (go_simp; with_reducible rfl))
      try simp only [Act.put, Tre.qf, Tre.qg, Tre.qh]
      refine hTakeNo (i := 13) (some 39) (by rfl) (by kernel_rfl) (by kernel_rfl) (by kernel_rfl) (fun _ _ _ h => h) (by rfl) hH1 ?_
      try simp only [Act.put, Tre.qf, Tre.qg, Tre.qh]
      refine hTakeNo (i := 14) (some 40) (by rfl) (by kernel_rfl) (by kernel_rfl) (by kernel_rfl) (fun _ _ _ h => h) (by rfl) hH1 ?_
      try simp only [Act.put, Tre.qf, Tre.qg, Tre.qh]
      refine hTakeNo (i := 15) (some 41) (by rfl) (by kernel_rfl) (by kernel_rfl) (by kernel_rfl) (fun _ _ _ h => h) (by rfl) hH1 ?_
      try simp only [Act.put, Tre.qf, Tre.qg, Tre.qh]
      refine hTakeNo (i := 16) (some 42) (by rfl) (by kernel_rfl) (by kernel_rfl) (by kernel_rfl) (fun _ _ _ h => h) (by rfl) hH1 ?_
      try simp only [Act.put, Tre.qf, Tre.qg, Tre.qh]
      refine hTakeNo (i := 17) (some 43) (by rfl) (by kernel_rfl) (by kernel_rfl) (by kernel_rfl) (fun _ _ _ h => h) (by rfl) hH1 ?_
      try simp only [Act.put, Tre.qf, Tre.qg, Tre.qh]
      refine hTakeNo (i := 18) (some 44) (by rfl) (by kernel_rfl) (by kernel_rfl) (by kernel_rfl) (fun _ _ _ h => h) (by rfl) hH1 ?_
      try simp only [Act.put, Tre.qf, Tre.qg, Tre.qh]
      refine hTakeNo (i := 19) (some 45) (by rfl) (by kernel_rfl) (by kernel_rfl) (by kernel_rfl) (fun _ _ _ h => h) (by rfl) hH1 ?_
      try simp only [Act.put, Tre.qf, Tre.qg, Tre.qh]
      refine hTakeNo (i := 20) (some 46) (by rfl) (by kernel_rfl) (by kernel_rfl) (by kernel_rfl) (fun _ _ _ h => h) (by rfl) hH1 ?_
      try simp only [Act.put, Tre.qf, Tre.qg, Tre.qh]
      refine hTakeNo (i := 21) (some 47) (by rfl) (by kernel_rfl) (by kernel_rfl) (by kernel_rfl) (fun _ _ _ h => h) (by rfl) hH1 ?_
      try simp only [Act.put, Tre.qf, Tre.qg, Tre.qh]
      refine hTakeNo (i := 22) (some 48) (by rfl) (by kernel_rfl) (by kernel_rfl) (by kernel_rfl) (fun _ _ _ h => h) (by rfl) hH1 ?_
      try simp only [Act.put, Tre.qf, Tre.qg, Tre.qh]
      refine hTakeNo (i := 23) (some 49) (by rfl) (by kernel_rfl) (by kernel_rfl) (by kernel_rfl) (fun _ _ _ h => h) (by rfl) hH1 ?_
      try simp only [Act.put, Tre.qf, Tre.qg, Tre.qh]
      refine hTakeNo (i := 24) (some 50) (by rfl) (by kernel_rfl) (by kernel_rfl) (by kernel_rfl) (fun _ _ _ h => h) (by rfl) hH1 ?_
      try simp only [Act.put, Tre.qf, Tre.qg, Tre.qh]
      refine hTakeNo (i := 25) (some 51) (by rfl) (by kernel_rfl) (by kernel_rfl) (by kernel_rfl) (fun _ _ _ h => h) (by rfl) hH1 ?_
      try simp only [Act.put, Tre.qf, Tre.qg, Tre.qh]
      refine hTakeNo (i := 26) (some 52) (by rfl) (by kernel_rfl) (by kernel_rfl) (by kernel_rfl) (fun _ _ _ h => h) (by rfl) hH1 ?_
      try simp only [Act.put, Tre.qf, Tre.qg, Tre.qh]
      refine hTake (i := 27) (some 53) (v := ?_) (by rfl) (by kernel_rfl) (by kernel_rfl) (by kernel_rfl) (fun _ _ _ h => h) (by rfl) ?_ hH1 ?_
      rotate_left
      ·intro w hSw; (try dsimp only at hSw); simp only [Tre.qa, Tre.qb, Tre.qc, Tre.qd, Tre.qe]; (first | (go_simp; done) | (go_simp; with_reducible rfl))
      try simp only [Act.put, Tre.qf, Tre.qg, Tre.qh]
      refine wpAnyH_done (by kernel_rfl) ?_ _
      have HB2 := Tre.hid hH1.1
      clear hH1
      go_wp2_with fail
      go_ret
      refine ⟨ret_bool (Eq.symm (decide_eq_false (fun e => ?_))), hb.out.trans (HB2.out.mono hb.out.size)⟩
      subst e
      have h1 := HX.out
      have h2 := HY.out
      rw [h1] at h2
      subst h2
      have h3 := HAL.out
      simp [alikeB] at h3
    ·have e : Hid (g = h) := graph_eq HR.out HL.out (fun i hi => hrel.out i (by omega))
     go_wp2_with fail
     go_ret
     exact ⟨ret_bool (Eq.symm (decide_eq_true e.out)), hb.out⟩
  ·have e_l : ((g.ns.length : Int) != (h.ns.length : Int)) = true := by rw [bne_iff_ne]; omega
   have e : Hid (¬ g = h) := fun e => hl (by rw [e])
   clear hg hh hr hl
   go_enter Tryz.func12, Tryz.ntmps12
   go_wp2_with fail
   go_ret
   exact ⟨ret_bool (Eq.symm (decide_eq_false e.out)), b2⟩
 ·have e_r : (g.root != h.root) = true := by rw [bne_iff_ne]; exact hr
  have e : Hid (¬ g = h) := fun e => hr (by rw [e])
  clear hg hh hr
  go_enter Tryz.func12, Tryz.ntmps12
  go_wp2_with fail
  go_ret
  exact ⟨ret_bool (Eq.symm (decide_eq_false e.out)), b2⟩
end Go.Proofs.YtaleodkbghogfaaGreatDoor.gr
namespace Go.Tre
def twArg (g : Tre.Graph) (bit : Nat → Nat → Bool) (k i : Nat) (a : Int) : Int := if freeC (g.nd a.toNat) = false ∧ bit k i = true then a + g.ns.length else a
def twNode (g : Tre.Graph) (bit : Nat → Nat → Bool) (k : Nat) : Tre.Node := { g.nd (k % g.ns.length) with args := (g.nd (k % g.ns.length)).args.mapIdx fun i a => twArg g bit k i a }
def twiceG (g : Tre.Graph) (bit : Nat → Nat → Bool) : Tre.Graph := ⟨(List.range (2 * g.ns.length)).map (twNode g bit), g.root⟩
section
variable {g : Tre.Graph} {bit : Nat → Nat → Bool}
theorem tw_len : (twiceG g bit).ns.length = 2 * g.ns.length := by simp [twiceG]
theorem tw_nd {k : Nat} (h : k < 2 * g.ns.length) : (twiceG g bit).nd k = twNode g bit k := by
 rw [Graph.nd_eq (by rw [tw_len]; exact h)]
 simp [twiceG]
theorem tw_kids_len {k : Nat} (h : k < 2 * g.ns.length) : ((twiceG g bit).kids k).length = (g.kids (k % g.ns.length)).length := by
 unfold Graph.kids
 rw [tw_nd h]
 simp [twNode]
theorem tw_kid (og : g.Ok) {k i : Nat} (h : k < 2 * g.ns.length) (hi : i < (g.kids (k % g.ns.length)).length) :
  ((twiceG g bit).kids k).getD i 0 = (g.kids (k % g.ns.length)).getD i 0 + (if freeC (g.nd ((g.kids (k % g.ns.length)).getD i 0)) = false ∧ bit k i = true then g.ns.length else 0) := by
 have hk : k % g.ns.length < g.ns.length := Nat.mod_lt _ (by have := og.root1; omega)
 have hi' : i < g.deg (k % g.ns.length) := by rw [g.kids_len] at hi; exact hi
 obtain ⟨y, hy, _, _⟩ := og.arg hk hi'
 unfold Graph.kids
 rw [tw_nd h, List.getD_eq_getElem?_getD, List.getD_eq_getElem?_getD, List.getElem?_map, List.getElem?_map]
 simp only [twNode, List.getElem?_mapIdx, hy, Tre.qd, Option.getD_some, Int.toNat_natCast]
 unfold twArg
 simp only [Int.toNat_natCast]
 split <;> omega
theorem tw_bis (og : g.Ok) : Bis g (twiceG g bit) (fun a b => a < g.ns.length ∧ b < 2 * g.ns.length ∧ b % g.ns.length = a ∧ (freeC (g.nd a) = true → b = a)) := by
 have hn : 0 < g.ns.length := by have := og.root1; omega
 refine ⟨?_, ?_, ?_, ?_⟩
 ·rintro a b ⟨h1, h2, _, _⟩
  rw [tw_len]; exact ⟨h1, h2⟩
 ·rintro a b ⟨h1, h2, rfl, _⟩
  rw [tw_nd h2]
  unfold alikeB twNode
  simp
 ·rintro a b ⟨h1, h2, rfl, _⟩
  refine all2_of (tw_kids_len h2).symm (fun i hi => ?_)
  have hl : (g.kids (b % g.ns.length)).getD i 0 < g.ns.length := og.kids_lt h1 _ (by
   rw [List.getD_eq_getElem?_getD, List.getElem?_eq_getElem hi]; exact List.getElem_mem hi)
  rw [tw_kid og h2 hi]
  generalize (g.kids (b % g.ns.length)).getD i 0 = c at *
  by_cases hc : freeC (g.nd c) = false ∧ bit b i = true
  ·rw [if_pos hc]
   refine ⟨hl, by omega, by rw [Nat.add_mod_right, Nat.mod_eq_of_lt hl], fun e => ?_⟩
   rw [hc.1] at e; cases e
  ·rw [if_neg hc]
   exact ⟨hl, by omega, by rw [Nat.add_zero, Nat.mod_eq_of_lt hl], fun _ => rfl⟩
 ·rintro a b a' b' ⟨h1, h2, h3, h4⟩ ⟨h1', h2', h3', h4'⟩ hf
  have hf' : freeC (g.nd a) = true := by rw [(words_of (og.may a h1)).openOf]; exact hf
  constructor
  ·rintro rfl
   rw [h4 hf', h4' hf']
  ·rintro rfl
   rw [← h3, h3']
theorem tw_ok (c0 : g.checkC = 0) (hn : 2 * g.ns.length ≤ 1048576) : (twiceG g bit).checkC = 0 := by
 have og := Graph.ok_of c0
 have h1 := og.root1
 have h0 := og.root0
 refine check_mk (by rw [tw_len]; exact hn) h0 (by rw [tw_len]; show g.root < _; omega) (fun n hm => ?_)
 rw [tw_len]
 obtain ⟨k, hk, rfl⟩ := List.mem_map.1 hm
 rw [List.mem_range] at hk
 have hkm : k % g.ns.length < g.ns.length := Nat.mod_lt _ (by omega)
 have h := og.may _ hkm
 unfold mayB at *
 simp only [Bool.and_eq_true, Bool.not_eq_true', List.any_eq_false] at *
 refine ⟨fun x hx => ?_, ?_⟩
 ·simp only [twNode, List.mem_mapIdx] at hx
  obtain ⟨i, hi, rfl⟩ := hx
  obtain ⟨y, hy, _, hy2⟩ := og.arg hkm (show i < g.deg (k % g.ns.length) from hi)
  rw [List.getElem?_eq_getElem hi] at hy
  rw [Option.some.inj hy]
  unfold twArg outside
  split
  ·simp; omega
  ·simp; omega
 ·have := h.2
  simpa [twNode] using this
theorem tw_least (c0 : g.checkC = 0) (hn : 2 * g.ns.length ≤ 1048576) : g.leastG = (twiceG g bit).leastG := by
 have og := Graph.ok_of c0
 have h1 := og.root1
 exact ((tw_bis og).iso c0 (tw_ok c0 hn) ⟨h1, by show g.root.toNat < _; omega, Nat.mod_eq_of_lt h1, fun _ => rfl⟩).trim (quot_ok c0) (quot_ok (tw_ok c0 hn))
end

/-! a type beside itself; beside another one -/
def pairG (g : Tre.Graph) : Tre.Graph := ⟨g.ns ++ [starN g.root g.root], g.ns.length⟩
def unusB : ByteArray := ⟨#[117, 110, 117, 115, 117, 97, 108]⟩
def unusN (a : Int) : Tre.Node := ⟨3, ByteArray.empty, [a], [unusB], false⟩
def oddG (g : Tre.Graph) : Tre.Graph := ⟨g.ns ++ [unusN g.ns.length, starN g.root g.ns.length], g.ns.length + 1⟩
theorem mayB_wider {n : Tre.Node} {s t : Nat} (h : mayB n s = true) (hst : s ≤ t) : mayB n t = true := by
 unfold mayB at *
 simp only [Bool.and_eq_true, Bool.not_eq_true', List.any_eq_false] at *
 refine ⟨fun x hx => ?_, h.2⟩
 have := h.1 x hx
 unfold outside at *
 simp at *
 omega
section
variable {g : Tre.Graph}
theorem outside_in {n : Nat} {a : Int} (h0 : 0 ≤ a) (h1 : a < n) : outside n a = false := by
 unfold outside
 simp only [Bool.or_eq_false_iff, decide_eq_false_iff_not]
 omega
theorem star_may {n : Nat} {a b : Int} (ha : 0 ≤ a) (ha' : a < n) (hb : 0 ≤ b) (hb' : b < n) : mayB (starN a b) n = true := by
 unfold mayB starN
 simp only [List.any_cons, List.any_nil, outside_in ha ha', outside_in hb hb']
 rfl
theorem unus_name : isName unusB = true := by decide +kernel
theorem unus_may {n : Nat} {a : Int} (ha : 0 ≤ a) (ha' : a < n) : mayB (unusN a) n = true := by
 have hr : rising [unusB] = true := by
  unfold rising
  simp [labelOk, unus_name]
 unfold mayB unusN
 simp only [List.any_cons, List.any_nil, outside_in ha ha', hr]
 rfl
theorem pair_nd {a : Nat} (h : a < g.ns.length) : (pairG g).nd a = g.nd a := by
 rw [Graph.nd_eq h, Graph.nd_eq (by simp [pairG]; omega)]
 simp only [pairG]
 rw [List.getElem_append_left h]
theorem odd_nd {a : Nat} (h : a < g.ns.length) : (oddG g).nd a = g.nd a := by
 rw [Graph.nd_eq h, Graph.nd_eq (by simp [oddG]; omega)]
 simp only [oddG]
 rw [List.getElem_append_left h]
theorem pair_ok (c0 : g.checkC = 0) (hn : g.ns.length + 1 ≤ 1048576) : (pairG g).checkC = 0 := by
 have og := Graph.ok_of c0
 have h1 := og.root1
 have h0 := og.root0
 have hl : (pairG g).ns.length = g.ns.length + 1 := by simp [pairG]
 refine check_mk (by rw [hl]; exact hn) (by show (0 : Int) ≤ (g.ns.length : Int); omega) (by rw [hl]; show (g.ns.length : Int) < _; omega) (fun n hm => ?_)
 rw [hl]
 rcases List.mem_append.1 hm with hm | hm
 ·obtain ⟨i, hi, rfl⟩ := List.getElem_of_mem hm
  rw [← Graph.nd_eq hi]
  exact mayB_wider (og.may i hi) (by omega)
 ·rw [List.mem_singleton] at hm
  subst hm
  exact star_may h0 (by omega) h0 (by omega)
theorem odd_ok (c0 : g.checkC = 0) (hn : g.ns.length + 2 ≤ 1048576) : (oddG g).checkC = 0 := by
 have og := Graph.ok_of c0
 have h1 := og.root1
 have h0 := og.root0
 have hl : (oddG g).ns.length = g.ns.length + 2 := by simp [oddG]
 refine check_mk (by rw [hl]; exact hn) (by show (0 : Int) ≤ (g.ns.length : Int) + 1; omega) (by rw [hl]; show (g.ns.length : Int) + 1 < _; omega) (fun n hm => ?_)
 rw [hl]
 rcases List.mem_append.1 hm with hm | hm
 ·obtain ⟨i, hi, rfl⟩ := List.getElem_of_mem hm
  rw [← Graph.nd_eq hi]
  exact mayB_wider (og.may i hi) (by omega)
 ·rcases List.mem_cons.1 hm with rfl | hm
  ·exact unus_may (by omega) (by omega)
  ·rw [List.mem_singleton] at hm
   subst hm
   exact star_may h0 (by omega) (by omega) (by omega)
theorem pair_root_kids (h0 : 0 ≤ g.root) : (pairG g).kids g.ns.length = [g.root.toNat, g.root.toNat] := by
 unfold Graph.kids
 rw [Graph.nd_eq (by simp [pairG])]
 simp [pairG, starN]
theorem odd_root_kids : (oddG g).kids (g.ns.length + 1) = [g.root.toNat, g.ns.length] := by
 unfold Graph.kids
 rw [Graph.nd_eq (by simp [oddG])]
 simp [oddG, starN]
theorem odd_mid_kids : (oddG g).kids g.ns.length = [g.ns.length] := by
 unfold Graph.kids
 rw [Graph.nd_eq (by simp [oddG])]
 simp [oddG, unusN]
theorem pair_least (c0 : g.checkC = 0) (hn : g.ns.length + 1 ≤ 1048576) : (pairG g).leastG.ns.length = g.leastG.ns.length + 1 ∨ (pairG g).leastG.ns.length = g.leastG.ns.length := by
 have og := Graph.ok_of c0
 have hr : (pairG g).root.toNat = g.ns.length := by show ((g.ns.length : Nat) : Int).toNat = _; simp
 have h := ext_len (h := pairG g) c0 (pair_ok c0 hn) (fun a ha => pair_nd ha) (by simp [pairG]) (by
  rw [hr]; exact Rch.refl.step (by rw [pair_root_kids og.root0]; simp)) [g.ns.length] (fun a ha => by
  rw [hr] at ha
  induction ha with
  | refl => exact .inl (by simp)
  | @step b c hb hc ih =>
   rcases ih with ih | ih
   ·rw [List.mem_singleton] at ih
    subst ih
    rw [pair_root_kids og.root0] at hc
    have : c = g.root.toNat := by simpa using hc
    rw [this]; exact .inr .refl
   ·refine .inr (ih.step ?_)
    unfold Graph.kids at hc ⊢
    rwa [pair_nd (ih.lt og og.root1)] at hc)
 simp only [List.length_cons, List.length_nil] at h
 omega
theorem odd_least (c0 : g.checkC = 0) (hn : g.ns.length + 2 ≤ 1048576) : (oddG g).leastG.ns.length ≤ g.leastG.ns.length + 2 ∧ g.leastG.ns.length ≤ (oddG g).leastG.ns.length := by
 have og := Graph.ok_of c0
 have hr : (oddG g).root.toNat = g.ns.length + 1 := by show ((g.ns.length : Int) + 1).toNat = _; omega
 have h := ext_len (h := oddG g) c0 (odd_ok c0 hn) (fun a ha => odd_nd ha) (by simp [oddG]) (by
  rw [hr]; exact Rch.refl.step (by rw [odd_root_kids]; simp)) [g.ns.length, g.ns.length + 1] (fun a ha => by
  rw [hr] at ha
  induction ha with
  | refl => exact .inl (by simp)
  | @step b c hb hc ih =>
   rcases ih with ih | ih
   ·rcases List.mem_cons.1 ih with rfl | ih
    ·rw [odd_mid_kids] at hc
     have : c = g.ns.length := by simpa using hc
     rw [this]; exact .inl (by simp)
    ·rw [List.mem_singleton] at ih
     subst ih
     rw [odd_root_kids] at hc
     rcases List.mem_cons.1 hc with rfl | hc
     ·exact .inr .refl
     ·rw [List.mem_singleton] at hc
      rw [hc]; exact .inl (by simp)
   ·refine .inr (ih.step ?_)
    unfold Graph.kids at hc ⊢
    rwa [odd_nd (ih.lt og og.root1)] at hc)
 simp only [List.length_cons, List.length_nil] at h
 omega
end
end Go.Tre
