/- The reference's Equal. CanonSame: the walk. -/
import Derived.Test.YtaleodkbghogfaaGreatDoorB40
import Derived.Test.YtaleodkbghogfaaGreatDoorB10
import Derived.Deep.RegionHeld3
import Derived.Deep.RegionWith
import Derived.Test.YtaleodkbghogfaaGreatDoorB03
import Derived.Test.YtaleodkbghogfaaGreatDoorB22
set_option linter.unusedVariables false
namespace Go.Tre
def sameAt (g h : Tre.Graph) (i : Nat) : Bool := alikeB (g.nd i) (h.nd i) && decide ((g.nd i).args = (h.nd i).args)
theorem node_eq {x y : Tre.Node} (h : (alikeB x y && decide (x.args = y.args)) = true) : x = y := by
  unfold alikeB at h
  simp only [Bool.and_eq_true, decide_eq_true_eq] at h
  obtain ⟨⟨⟨⟨⟨h1, h2⟩, h3⟩, _⟩, h5⟩, h6⟩ := h
  cases x; cases y
  simp only at h1 h2 h3 h5 h6
  subst h1 h2 h3 h5 h6
  rfl
theorem node_refl (x : Tre.Node) : (alikeB x x && decide (x.args = x.args)) = true := by simp [alikeB]
theorem graph_eq {g h : Tre.Graph} (hr : g.root = h.root) (hl : g.ns.length = h.ns.length) (ha : ∀ i, i < g.ns.length → sameAt g h i = true) : g = h := by
  cases g; cases h
  simp only at hr hl ha
  subst hr
  congr 1
  apply List.ext_getElem hl
  intro i h1 h2
  have := node_eq (ha i h1)
  rw [Graph.nd_eq h1, Graph.nd_eq h2] at this
  exact this
end Go.Tre
namespace Go.Proofs.YtaleodkbghogfaaGreatDoor.gr
open Go.RowKit Go.Maps Go.Tre lex

set_option maxRecDepth 100000 in
set_option maxHeartbeats 4000000 in
theorem refEqual (a b : Option Addr) (ca cb : Nat) (g h : Tre.Graph) (w : World) (hg : NodesAt w a g.ns) (hh : NodesAt w b h.ns) (wg : g.weight ≤ 8388608) (wh : h.weight ≤ 8388608) :
    Calls Tryz.prog 12 #[.agg #[.slice a g.ns.length ca, .int .i64 g.root], .agg #[.slice b h.ns.length cb, .int .i64 h.root]] w fun e w' => e = .returned (.bool (decide (g = h))) ∧ Below w.heap.size w w' := by
  have b2 : Below w.heap.size w ((w.alloc (.cells #[.slice a g.ns.length ca, .int .i64 g.root] 24)).alloc (.cells #[.slice b h.ns.length cb, .int .i64 h.root] 24)) := ((Below.refl _ _).alloc (Nat.le_refl _) _).alloc (by simp) _
  have hgl : g.ns.length ≤ 8388608 := Nat.le_trans (len_weight g) wg
  have hhl : h.ns.length ≤ 8388608 := Nat.le_trans (len_weight h) wh
  by_cases hr : g.root = h.root
  · have e_r : (g.root != h.root) = false := by simp [hr]
    by_cases hl : g.ns.length = h.ns.length
    · have e_l : ((g.ns.length : Int) != (h.ns.length : Int)) = false := by simp [hl]
      have HR := Tre.hid hr
      have HL := Tre.hid hl
      have HG := Tre.hid hg
      have HH := Tre.hid hh
      have hl1 : g.ns.length ≤ h.ns.length := by omega
      have HB := Tre.hid b2
      have k0 : ((w.alloc (.cells #[.slice a g.ns.length ca, .int .i64 g.root] 24)).alloc (.cells #[.slice b h.ns.length cb, .int .i64 h.root] 24)).heap[w.heap.size]? = some (.cells #[.slice a g.ns.length ca, .int .i64 g.root] 24) := (Below.heap_alloc _ _ _ (by simp)).trans (heap_alloc_new w _)
      have k1 : ((w.alloc (.cells #[.slice a g.ns.length ca, .int .i64 g.root] 24)).alloc (.cells #[.slice b h.ns.length cb, .int .i64 h.root] 24)).heap[w.heap.size + 1]? = some (.cells #[.slice b h.ns.length cb, .int .i64 h.root] 24) := heap_two _ _ _
      have K0 := Tre.hid k0
      have K1 := Tre.hid k1
      clear hr hl hg hh b2 k0 k1
      go_enter Tryz.func12, Tryz.ntmps12
      go_wp2_with fail
      go_loopw [23] (fun v23 wr => ∃ k : Nat, k ≤ g.ns.length ∧ v23 = .int .i64 k ∧ Hid (∀ j, j < k → sameAt g h j = true) ∧ Hid (Below w.heap.size w wr) ∧ Hid (w.heap.size + 2 ≤ wr.heap.size) ∧ Hid (wr.heap[w.heap.size]? = some (.cells #[.slice a g.ns.length ca, .int .i64 g.root] 24)) ∧ Hid (wr.heap[w.heap.size + 1]? = some (.cells #[.slice b h.ns.length cb, .int .i64 h.root] 24)))
        (fun v23 _ => g.ns.length - (intOf v23).toNat)
      case atStart => exact ⟨0, Nat.zero_le _, rfl, fun j hj => by omega, HB.out, (by show _ ≤ _; simp), K0.out, K1.out⟩
      case round =>
        obtain ⟨k, hk, rfl, hrel, hb, hsz, h0, h1⟩ := hrel
        by_cases hlt : k < g.ns.length
        · have hlt2 : k < h.ns.length := by omega
          have d0 : wr.cell? ⟨w.heap.size, 0, none⟩ = some (.slice a g.ns.length ca) := cell_of_heap h0.out rfl
          have d1 : wr.cell? ⟨w.heap.size + 1, 0, none⟩ = some (.slice b h.ns.length cb) := cell_of_heap h1.out rfl
          obtain ⟨b1, o1, rfl, nx⟩ := (HG.out.below hb.out).at_ k (g.nd k) (by rw [Graph.nd_eq hlt]; exact List.getElem?_eq_getElem hlt)
          obtain ⟨b2, o2, rfl, ny⟩ := (HH.out.below hb.out).at_ k (h.nd k) (by rw [Graph.nd_eq hlt2]; exact List.getElem?_eq_getElem hlt2)
          have hXw : (g.nd k).weight ≤ g.weight := by rw [Graph.nd_eq hlt]; exact node_weight (List.getElem_mem hlt)
          have hYw : (h.nd k).weight ≤ h.weight := by rw [Graph.nd_eq hlt2]; exact node_weight (List.getElem_mem hlt2)
          have hXa := args_len (g.nd k)
          have hXl := labels_len (g.nd k)
          have hYa := args_len (h.nd k)
          have hYl := labels_len (h.nd k)
          have hsa : sameAt g h k = (alikeB (g.nd k) (h.nd k) && decide ((g.nd k).args = (h.nd k).args)) := rfl
          generalize hX : g.nd k = X at *
          generalize hY : h.nd k = Y at *
          obtain ⟨ax, cx, lx, dx, x0, x1, x2, x3, x4, xA, xL, _, _⟩ := nx
          obtain ⟨ay, cy, ly, dy, y0, y1, y2, y3, y4, yA, yL, _, _⟩ := ny
          have HX := Tre.hid hX
          have HY := Tre.hid hY
          have XA := Tre.hid xA
          have XL := Tre.hid xL
          have YA := Tre.hid yA
          have YL := Tre.hid yL
          have HSA := Tre.hid hsa
          have i1 : (0 : Int) ≤ k := by omega
          have i2 : (k : Int) < g.ns.length := by omega
          have i3 : (k : Int) < h.ns.length := by omega
          have bA : X.args.length ≤ 8388608 := by omega
          have bB : Y.args.length ≤ 8388608 := by omega
          have bC : X.labels.length ≤ 8388608 := by omega
          have bD : Y.labels.length ≤ 8388608 := by omega
          clear hX hY xA xL yA yL hsa hXw hYw hXa hXl hYa hYl
          by_cases hal : alikeB X Y = true
          · have HAL := Tre.hid hal
            clear hal
            by_cases hae : X.args = Y.args
            · have hae' : decide (X.args = Y.args) = true := by simp [hae]
              have HAE := Tre.hid hae'
              have HEQ := Tre.hid hae
              clear hae hae'
              go_wp2_with fail
              go_region_held3 (fun w' => Below wr.heap.size wr w' ∧ w'.cell? ⟨w.heap.size, 0, none⟩ = some (.slice (some ⟨b1, o1, none⟩) g.ns.length ca) ∧ w'.cell? ⟨w.heap.size + 1, 0, none⟩ = some (.slice (some ⟨b2, o2, none⟩) h.ns.length cb) ∧
                w'.cell? ⟨b1, o1 + k * 5, none⟩ = some (.int .i64 X.kind) ∧ w'.cell? ⟨b1, o1 + k * 5 + 1, none⟩ = some (.string X.name) ∧ w'.cell? ⟨b1, o1 + k * 5 + 2, none⟩ = some (.slice ax X.args.length cx) ∧ w'.cell? ⟨b1, o1 + k * 5 + 3, none⟩ = some (.slice lx X.labels.length dx) ∧ w'.cell? ⟨b1, o1 + k * 5 + 4, none⟩ = some (.bool X.isOpen) ∧
                w'.cell? ⟨b2, o2 + k * 5, none⟩ = some (.int .i64 Y.kind) ∧ w'.cell? ⟨b2, o2 + k * 5 + 1, none⟩ = some (.string Y.name) ∧ w'.cell? ⟨b2, o2 + k * 5 + 2, none⟩ = some (.slice ay Y.args.length cy) ∧ w'.cell? ⟨b2, o2 + k * 5 + 3, none⟩ = some (.slice ly Y.labels.length dy) ∧ w'.cell? ⟨b2, o2 + k * 5 + 4, none⟩ = some (.bool Y.isOpen))
                (first
                  | exact ⟨(Below.refl _ _).drew, d0, d1, x0, x1, x2, x3, x4, y0, y1, y2, y3, y4⟩
                  | exact ⟨((Below.refl _ _).drew).trans hb9, cell_below hb9 d0, cell_below hb9 d1, cell_below hb9 x0, cell_below hb9 x1, cell_below hb9 x2, cell_below hb9 x3, cell_below hb9 x4, cell_below hb9 y0, cell_below hb9 y1, cell_below hb9 y2, cell_below hb9 y3, cell_below hb9 y4⟩
                  | (have hh := (show Below wr.heap.size wr w9 ∧ _ from by assumption); exact ⟨hh.1.trans (hb10.mono hh.1.size), cell_below hb10 hh.2.1, cell_below hb10 hh.2.2.1, cell_below hb10 hh.2.2.2.1, cell_below hb10 hh.2.2.2.2.1, cell_below hb10 hh.2.2.2.2.2.1, cell_below hb10 hh.2.2.2.2.2.2.1, cell_below hb10 hh.2.2.2.2.2.2.2.1, cell_below hb10 hh.2.2.2.2.2.2.2.2.1, cell_below hb10 hh.2.2.2.2.2.2.2.2.2.1, cell_below hb10 hh.2.2.2.2.2.2.2.2.2.2.1, cell_below hb10 hh.2.2.2.2.2.2.2.2.2.2.2.1, cell_below hb10 hh.2.2.2.2.2.2.2.2.2.2.2.2⟩)
                  | go_keep)
                (first | (go_at_call 26; refine (refAlike X Y ax cx lx dx ay cy ly dy _ ?_ ?_ bC bD bA bB).mono ?_; (exact XL.out.below (by first | assumption | exact (Below.refl _ _).drew)); (exact YL.out.below (by first | assumption | exact (Below.refl _ _).drew)); rintro e w9 ⟨rfl, hb9⟩; rw [HAL.out]) | (go_at_call 27; refine (refInts ax ay cx cy X.args Y.args _ ?_ ?_ bA bB).mono ?_; (exact XA.out.below (show Below wr.heap.size wr w9 ∧ _ from by assumption).1); (exact YA.out.below (show Below wr.heap.size wr w9 ∧ _ from by assumption).1); rintro e w10 ⟨rfl, hb10⟩; rw [HAE.out]))
              have hh := (show Below wr.heap.size wr w10 ∧ _ from by assumption)
              have HB2 := Tre.hid hh.1
              clear hh
              rename_i hh1
              clear hh1
              go_wp2_with fail
              go_roundw
              case rel =>
                refine ⟨k + 1, by omega, by go_num, fun j hj => ?_, hb.out.trans (HB2.out.mono hb.out.size), Nat.le_trans hsz.out HB2.out.size, (HB2.out.block _ (by have := hsz.out; omega)).trans h0.out, (HB2.out.block _ (by have := hsz.out; omega)).trans h1.out⟩
                by_cases e : j = k
                · subst e
                  rw [HSA.out, HAL.out, HAE.out]; rfl
                · exact hrel.out j (by omega)
              case measure => simp [intOf]; omega
            · have hae' : decide (X.args = Y.args) = false := by simp [hae]
              have HAE := Tre.hid hae'
              have HNE := Tre.hid hae
              clear hae hae'
              go_wp2_with fail
              go_region_held3 (fun w' => Below wr.heap.size wr w' ∧ w'.cell? ⟨w.heap.size, 0, none⟩ = some (.slice (some ⟨b1, o1, none⟩) g.ns.length ca) ∧ w'.cell? ⟨w.heap.size + 1, 0, none⟩ = some (.slice (some ⟨b2, o2, none⟩) h.ns.length cb) ∧
                w'.cell? ⟨b1, o1 + k * 5, none⟩ = some (.int .i64 X.kind) ∧ w'.cell? ⟨b1, o1 + k * 5 + 1, none⟩ = some (.string X.name) ∧ w'.cell? ⟨b1, o1 + k * 5 + 2, none⟩ = some (.slice ax X.args.length cx) ∧ w'.cell? ⟨b1, o1 + k * 5 + 3, none⟩ = some (.slice lx X.labels.length dx) ∧ w'.cell? ⟨b1, o1 + k * 5 + 4, none⟩ = some (.bool X.isOpen) ∧
                w'.cell? ⟨b2, o2 + k * 5, none⟩ = some (.int .i64 Y.kind) ∧ w'.cell? ⟨b2, o2 + k * 5 + 1, none⟩ = some (.string Y.name) ∧ w'.cell? ⟨b2, o2 + k * 5 + 2, none⟩ = some (.slice ay Y.args.length cy) ∧ w'.cell? ⟨b2, o2 + k * 5 + 3, none⟩ = some (.slice ly Y.labels.length dy) ∧ w'.cell? ⟨b2, o2 + k * 5 + 4, none⟩ = some (.bool Y.isOpen))
                (first
                  | exact ⟨(Below.refl _ _).drew, d0, d1, x0, x1, x2, x3, x4, y0, y1, y2, y3, y4⟩
                  | exact ⟨((Below.refl _ _).drew).trans hb9, cell_below hb9 d0, cell_below hb9 d1, cell_below hb9 x0, cell_below hb9 x1, cell_below hb9 x2, cell_below hb9 x3, cell_below hb9 x4, cell_below hb9 y0, cell_below hb9 y1, cell_below hb9 y2, cell_below hb9 y3, cell_below hb9 y4⟩
                  | (have hh := (show Below wr.heap.size wr w9 ∧ _ from by assumption); exact ⟨hh.1.trans (hb10.mono hh.1.size), cell_below hb10 hh.2.1, cell_below hb10 hh.2.2.1, cell_below hb10 hh.2.2.2.1, cell_below hb10 hh.2.2.2.2.1, cell_below hb10 hh.2.2.2.2.2.1, cell_below hb10 hh.2.2.2.2.2.2.1, cell_below hb10 hh.2.2.2.2.2.2.2.1, cell_below hb10 hh.2.2.2.2.2.2.2.2.1, cell_below hb10 hh.2.2.2.2.2.2.2.2.2.1, cell_below hb10 hh.2.2.2.2.2.2.2.2.2.2.1, cell_below hb10 hh.2.2.2.2.2.2.2.2.2.2.2.1, cell_below hb10 hh.2.2.2.2.2.2.2.2.2.2.2.2⟩)
                  | go_keep)
                (first | (go_at_call 26; refine (refAlike X Y ax cx lx dx ay cy ly dy _ ?_ ?_ bC bD bA bB).mono ?_; (exact XL.out.below (by first | assumption | exact (Below.refl _ _).drew)); (exact YL.out.below (by first | assumption | exact (Below.refl _ _).drew)); rintro e w9 ⟨rfl, hb9⟩; rw [HAL.out]) | (go_at_call 27; refine (refInts ax ay cx cy X.args Y.args _ ?_ ?_ bA bB).mono ?_; (exact XA.out.below (show Below wr.heap.size wr w9 ∧ _ from by assumption).1); (exact YA.out.below (show Below wr.heap.size wr w9 ∧ _ from by assumption).1); rintro e w10 ⟨rfl, hb10⟩; rw [HAE.out]))
              have hh := (show Below wr.heap.size wr w10 ∧ _ from by assumption)
              have HB2 := Tre.hid hh.1
              clear hh
              go_wp2_with fail
              go_ret
              refine ⟨ret_bool (Eq.symm (decide_eq_false (fun e => ?_))), hb.out.trans (HB2.out.mono hb.out.size)⟩
              subst e
              exact HNE.out (by rw [← HX.out, ← HY.out])
          · have hal' : alikeB X Y = false := by simpa using hal
            have HAL := Tre.hid hal'
            clear hal hal'
            go_wp2_with fail
            refine wp_region_held_drew (S := (fun w' => Below wr.heap.size wr w' ∧ w'.cell? ⟨w.heap.size, 0, none⟩ = some (.slice (some ⟨b1, o1, none⟩) g.ns.length ca) ∧ w'.cell? ⟨w.heap.size + 1, 0, none⟩ = some (.slice (some ⟨b2, o2, none⟩) h.ns.length cb) ∧ w'.cell? ⟨b1, o1 + k * 5, none⟩ = some (.int .i64 X.kind) ∧ w'.cell? ⟨b1, o1 + k * 5 + 1, none⟩ = some (.string X.name) ∧ w'.cell? ⟨b1, o1 + k * 5 + 2, none⟩ = some (.slice ax X.args.length cx) ∧ w'.cell? ⟨b1, o1 + k * 5 + 3, none⟩ = some (.slice lx X.labels.length dx) ∧ w'.cell? ⟨b1, o1 + k * 5 + 4, none⟩ = some (.bool X.isOpen) ∧ w'.cell? ⟨b2, o2 + k * 5, none⟩ = some (.int .i64 Y.kind) ∧ w'.cell? ⟨b2, o2 + k * 5 + 1, none⟩ = some (.string Y.name) ∧ w'.cell? ⟨b2, o2 + k * 5 + 2, none⟩ = some (.slice ay Y.args.length cy) ∧ w'.cell? ⟨b2, o2 + k * 5 + 3, none⟩ = some (.slice ly Y.labels.length dy) ∧ w'.cell? ⟨b2, o2 + k * 5 + 4, none⟩ = some (.bool Y.isOpen))) (by kernel_rfl) ?_ (fun hH0 => ?_)
            · exact ⟨(Below.refl _ _).drew, d0, d1, x0, x1, x2, x3, x4, y0, y1, y2, y3, y4⟩
            refine hTake (i := 0) (some 26) (v := ?_) (by rfl) (by kernel_rfl) (by kernel_rfl) (by kernel_rfl) (fun _ _ _ h => h) (by rfl) ?_ hH0 ?_
            rotate_left
            · intro w hSw; (try dsimp only at hSw); simp only [Tre.qa, Tre.qc, Tre.qd, Tre.qe]; (first | (go_simp; done) | (go_simp; with_reducible rfl))
            try simp only [Act.put, Tre.qf, Tre.qg, Tre.qh]
            refine hTake (i := 1) (some 27) (v := ?_) (by rfl) (by kernel_rfl) (by kernel_rfl) (by kernel_rfl) (fun _ _ _ h => h) (by rfl) ?_ hH0 ?_
            rotate_left
            · intro w hSw; (try dsimp only at hSw); simp only [Tre.qa, Tre.qb, Tre.qc, Tre.qd, Tre.qe]; (first | (go_simp; done) | (go_simp; with_reducible rfl))
            try simp only [Act.put, Tre.qf, Tre.qg, Tre.qh]
            refine hTake (i := 2) (some 28) (v := ?_) (by rfl) (by kernel_rfl) (by kernel_rfl) (by kernel_rfl) (fun _ _ _ h => h) (by rfl) ?_ hH0 ?_
            rotate_left
            · intro w hSw; (try dsimp only at hSw); simp only [Tre.qa, Tre.qb, Tre.qc, Tre.qd, Tre.qe]; (first | (go_simp; done) | (go_simp; with_reducible rfl))
            try simp only [Act.put, Tre.qf, Tre.qg, Tre.qh]
            refine hTake (i := 3) (some 29) (v := ?_) (by rfl) (by kernel_rfl) (by kernel_rfl) (by kernel_rfl) (fun _ _ _ h => h) (by rfl) ?_ hH0 ?_
            rotate_left
            · intro w hSw; (try dsimp only at hSw); simp only [Tre.qa, Tre.qb, Tre.qc, Tre.qd, Tre.qe]; (first | (go_simp; done) | (go_simp; with_reducible rfl))
            try simp only [Act.put, Tre.qf, Tre.qg, Tre.qh]
            refine hTake (i := 4) (some 30) (v := ?_) (by rfl) (by kernel_rfl) (by kernel_rfl) (by kernel_rfl) (fun _ _ _ h => h) (by rfl) ?_ hH0 ?_
            rotate_left
            · intro w hSw; (try dsimp only at hSw); simp only [Tre.qa, Tre.qb, Tre.qc, Tre.qd, Tre.qe]; (first | (go_simp; done) | (go_simp; with_reducible rfl))
            try simp only [Act.put, Tre.qf, Tre.qg, Tre.qh]
            refine hTake (i := 5) (some 31) (v := ?_) (by rfl) (by kernel_rfl) (by kernel_rfl) (by kernel_rfl) (fun _ _ _ h => h) (by rfl) ?_ hH0 ?_
            rotate_left
            · intro w hSw; (try dsimp only at hSw); simp only [Tre.qa, Tre.qb, Tre.qc, Tre.qd, Tre.qe]; (first | (go_simp; done) | (go_simp; with_reducible rfl))
            try simp only [Act.put, Tre.qf, Tre.qg, Tre.qh]
            refine hTake (i := 6) (some 32) (v := ?_) (by rfl) (by kernel_rfl) (by kernel_rfl) (by kernel_rfl) (fun _ _ _ h => h) (by rfl) ?_ hH0 ?_
            rotate_left
            · intro w hSw; (try dsimp only at hSw); simp only [Tre.qa, Tre.qb, Tre.qc, Tre.qd, Tre.qe]; (first | (go_simp; done) | (go_simp; with_reducible rfl))
            try simp only [Act.put, Tre.qf, Tre.qg, Tre.qh]
            refine hTake (i := 7) (some 33) (v := ?_) (by rfl) (by kernel_rfl) (by kernel_rfl) (by kernel_rfl) (fun _ _ _ h => h) (by rfl) ?_ hH0 ?_
            rotate_left
            · intro w hSw; (try dsimp only at hSw); simp only [Tre.qa, Tre.qb, Tre.qc, Tre.qd, Tre.qe]; (first | (go_simp; done) | (go_simp; with_reducible rfl))
            try simp only [Act.put, Tre.qf, Tre.qg, Tre.qh]
            refine hTake (i := 8) (some 34) (v := ?_) (by rfl) (by kernel_rfl) (by kernel_rfl) (by kernel_rfl) (fun _ _ _ h => h) (by rfl) ?_ hH0 ?_
            rotate_left
            · intro w hSw; (try dsimp only at hSw); simp only [Tre.qa, Tre.qb, Tre.qc, Tre.qd, Tre.qe]; (first | (go_simp; done) | (go_simp; with_reducible rfl))
            try simp only [Act.put, Tre.qf, Tre.qg, Tre.qh]
            refine hTake (i := 9) (some 35) (v := ?_) (by rfl) (by kernel_rfl) (by kernel_rfl) (by kernel_rfl) (fun _ _ _ h => h) (by rfl) ?_ hH0 ?_
            rotate_left
            · intro w hSw; (try dsimp only at hSw); simp only [Tre.qa, Tre.qb, Tre.qc, Tre.qd, Tre.qe]; (first | (go_simp; done) | (go_simp; with_reducible rfl))
            try simp only [Act.put, Tre.qf, Tre.qg, Tre.qh]
            refine hOne 10 (by kernel_rfl) (fun K hK => ?_)
            go_simp
            refine (refAlike X Y ax cx lx dx ay cy ly dy _ (XL.out.below hH0.1) (YL.out.below hH0.1) bC bD bA bB).mono ?_
            rintro e w9 ⟨rfl, hb9⟩
            rw [HAL.out]
            (try dsimp only)
            refine hK.out _ _ ?_ (fun hH1 => ?_)
            · exact ⟨hH0.1.trans (hb9.mono hH0.1.size), cell_below hb9 d0, cell_below hb9 d1, cell_below hb9 x0, cell_below hb9 x1, cell_below hb9 x2, cell_below hb9 x3, cell_below hb9 x4, cell_below hb9 y0, cell_below hb9 y1, cell_below hb9 y2, cell_below hb9 y3, cell_below hb9 y4⟩
            clear hK K hH0
            try simp only [Act.put, Tre.qf, Tre.qg, Tre.qh]
            refine hTake (i := 11) (some 37) (v := ?_) (by rfl) (by kernel_rfl) (by kernel_rfl) (by kernel_rfl) (fun _ _ _ h => h) (by rfl) ?_ hH1 ?_
            rotate_left
            · intro w hSw; (try dsimp only at hSw); simp only [Tre.qa, Tre.qb, Tre.qc, Tre.qd, Tre.qe]; (first | (go_simp; done) | (go_simp; with_reducible rfl))
            try simp only [Act.put, Tre.qf, Tre.qg, Tre.qh]
            refine hTake (i := 12) (some 38) (v := ?_) (by rfl) (by kernel_rfl) (by kernel_rfl) (by kernel_rfl) (fun _ _ _ h => h) (by rfl) ?_ hH1 ?_
            rotate_left
            · intro w hSw; (try dsimp only at hSw); simp only [Tre.qa, Tre.qb, Tre.qc, Tre.qd, Tre.qe]; (first | (go_simp; done) | (go_simp; with_reducible rfl))
            try simp only [Act.put, Tre.qf, Tre.qg, Tre.qh]
            refine hTakeNo (i := 13) (some 39) (by rfl) (by kernel_rfl) (by kernel_rfl) (by kernel_rfl) (fun _ _ _ h => h) (by rfl) hH1 ?_
            try simp only [Act.put, Tre.qf, Tre.qg, Tre.qh]
            refine hTakeNo (i := 14) (some 40) (by rfl) (by kernel_rfl) (by kernel_rfl) (by kernel_rfl) (fun _ _ _ h => h) (by rfl) hH1 ?_
            try simp only [Act.put, Tre.qf, Tre.qg, Tre.qh]
            refine hTakeNo (i := 15) (some 41) (by rfl) (by kernel_rfl) (by kernel_rfl) (by kernel_rfl) (fun _ _ _ h => h) (by rfl) hH1 ?_
            try simp only [Act.put, Tre.qf, Tre.qg, Tre.qh]
            refine hTakeNo (i := 16) (some 42) (by rfl) (by kernel_rfl) (by kernel_rfl) (by kernel_rfl) (fun _ _ _ h => h) (by rfl) hH1 ?_
            try simp only [Act.put, Tre.qf, Tre.qg, Tre.qh]
            refine hTakeNo (i := 17) (some 43) (by rfl) (by kernel_rfl) (by kernel_rfl) (by kernel_rfl) (fun _ _ _ h => h) (by rfl) hH1 ?_
            try simp only [Act.put, Tre.qf, Tre.qg, Tre.qh]
            refine hTakeNo (i := 18) (some 44) (by rfl) (by kernel_rfl) (by kernel_rfl) (by kernel_rfl) (fun _ _ _ h => h) (by rfl) hH1 ?_
            try simp only [Act.put, Tre.qf, Tre.qg, Tre.qh]
            refine hTakeNo (i := 19) (some 45) (by rfl) (by kernel_rfl) (by kernel_rfl) (by kernel_rfl) (fun _ _ _ h => h) (by rfl) hH1 ?_
            try simp only [Act.put, Tre.qf, Tre.qg, Tre.qh]
            refine hTakeNo (i := 20) (some 46) (by rfl) (by kernel_rfl) (by kernel_rfl) (by kernel_rfl) (fun _ _ _ h => h) (by rfl) hH1 ?_
            try simp only [Act.put, Tre.qf, Tre.qg, Tre.qh]
            refine hTakeNo (i := 21) (some 47) (by rfl) (by kernel_rfl) (by kernel_rfl) (by kernel_rfl) (fun _ _ _ h => h) (by rfl) hH1 ?_
            try simp only [Act.put, Tre.qf, Tre.qg, Tre.qh]
            refine hTakeNo (i := 22) (some 48) (by rfl) (by kernel_rfl) (by kernel_rfl) (by kernel_rfl) (fun _ _ _ h => h) (by rfl) hH1 ?_
            try simp only [Act.put, Tre.qf, Tre.qg, Tre.qh]
            refine hTakeNo (i := 23) (some 49) (by rfl) (by kernel_rfl) (by kernel_rfl) (by kernel_rfl) (fun _ _ _ h => h) (by rfl) hH1 ?_
            try simp only [Act.put, Tre.qf, Tre.qg, Tre.qh]
            refine hTakeNo (i := 24) (some 50) (by rfl) (by kernel_rfl) (by kernel_rfl) (by kernel_rfl) (fun _ _ _ h => h) (by rfl) hH1 ?_
            try simp only [Act.put, Tre.qf, Tre.qg, Tre.qh]
            refine hTakeNo (i := 25) (some 51) (by rfl) (by kernel_rfl) (by kernel_rfl) (by kernel_rfl) (fun _ _ _ h => h) (by rfl) hH1 ?_
            try simp only [Act.put, Tre.qf, Tre.qg, Tre.qh]
            refine hTakeNo (i := 26) (some 52) (by rfl) (by kernel_rfl) (by kernel_rfl) (by kernel_rfl) (fun _ _ _ h => h) (by rfl) hH1 ?_
            try simp only [Act.put, Tre.qf, Tre.qg, Tre.qh]
            refine hTake (i := 27) (some 53) (v := ?_) (by rfl) (by kernel_rfl) (by kernel_rfl) (by kernel_rfl) (fun _ _ _ h => h) (by rfl) ?_ hH1 ?_
            rotate_left
            · intro w hSw; (try dsimp only at hSw); simp only [Tre.qa, Tre.qb, Tre.qc, Tre.qd, Tre.qe]; (first | (go_simp; done) | (go_simp; with_reducible rfl))
            try simp only [Act.put, Tre.qf, Tre.qg, Tre.qh]
            refine wpAnyH_done (by kernel_rfl) ?_ _
            have HB2 := Tre.hid hH1.1
            clear hH1
            go_wp2_with fail
            go_ret
            refine ⟨ret_bool (Eq.symm (decide_eq_false (fun e => ?_))), hb.out.trans (HB2.out.mono hb.out.size)⟩
            subst e
            have h1 := HX.out
            have h2 := HY.out
            rw [h1] at h2
            subst h2
            have h3 := HAL.out
            simp [alikeB] at h3
        · have e : Hid (g = h) := graph_eq HR.out HL.out (fun i hi => hrel.out i (by omega))
          go_wp2_with fail
          go_ret
          exact ⟨ret_bool (Eq.symm (decide_eq_true e.out)), hb.out⟩
    · have e_l : ((g.ns.length : Int) != (h.ns.length : Int)) = true := by rw [bne_iff_ne]; omega
      have e : Hid (¬ g = h) := fun e => hl (by rw [e])
      clear hg hh hr hl
      go_enter Tryz.func12, Tryz.ntmps12
      go_wp2_with fail
      go_ret
      exact ⟨ret_bool (Eq.symm (decide_eq_false e.out)), b2⟩
  · have e_r : (g.root != h.root) = true := by rw [bne_iff_ne]; exact hr
    have e : Hid (¬ g = h) := fun e => hr (by rw [e])
    clear hg hh hr
    go_enter Tryz.func12, Tryz.ntmps12
    go_wp2_with fail
    go_ret
    exact ⟨ret_bool (Eq.symm (decide_eq_false e.out)), b2⟩
end Go.Proofs.YtaleodkbghogfaaGreatDoor.gr
namespace Go.Tre
theorem list_beq8 {xs ys : List UInt8} : (xs == ys) = decide (xs = ys) := by
  rw [Bool.eq_iff_iff, beq_iff_eq, decide_eq_true_iff]
theorem same_least_dec {g h : Tre.Graph} (c0 : g.checkC = 0) (c1 : h.checkC = 0) : decide (g.leastG = h.leastG) = sameB g h := by
  rw [Bool.eq_iff_iff, decide_eq_true_iff, sameB_iff]; exact (least_iff c0 c1).symm
theorem same_key_dec {g h : Tre.Graph} (c0 : g.checkC = 0) (c1 : h.checkC = 0) : decide (keyK g.leastG.ns = keyK h.leastG.ns) = sameB g h := by
  rw [Bool.eq_iff_iff, decide_eq_true_iff, sameB_iff]; exact (key_same c0 c1).symm
end Go.Tre
namespace Go.Proofs.YtaleodkbghogfaaGreatDoor.gr
open Go.RowKit Go.Shelf Go.Maps Go.Tre lex
theorem least_weight (g : Tre.Graph) : g.leastG.weight ≤ g.weight := by
  refine Nat.le_trans (Graph.trim_weight _) ?_
  rw [quot_weight]; exact Nat.le_refl _
set_option maxRecDepth 100000 in
set_option maxHeartbeats 8000000 in
theorem csameLaw (a b : Option Addr) (ca cb : Nat) (g h : Tre.Graph) (w : World) (hg : NodesAt w a g.ns) (hh : NodesAt w b h.ns) (wg : g.weight ≤ 2097152) (wh : h.weight ≤ 2097152) (E : LexEnv w) (ht : TabAt w) :
    Calls Tryz.prog 6 #[.agg #[.slice a g.ns.length ca, .int .i64 g.root], .agg #[.slice b h.ns.length cb, .int .i64 h.root]] w fun e w' => e = .returned (.bool true) ∧ Below w.heap.size w w' := by
  have M := ((Mem.nil w).allocR #[.slice a g.ns.length ca, .int .i64 g.root] 24).allocR #[.slice b h.ns.length cb, .int .i64 h.root] 24
  simp only [heapSize_alloc] at M
  have HX := Tre.hid E.max
  have HT := Tre.hid ht
  have HG := Tre.hid hg
  have HH := Tre.hid hh
  have HAL := Tre.hid (alive09 _ (E.below M.below) (ht.below M.below))
  have LW : Hid (∀ g : Tre.Graph, g.leastG.weight ≤ g.weight) := least_weight
  have HM0 := Tre.hid M
  clear E ht hg hh M
  go_enter Tryz.func6, Tryz.ntmps6
  go_wp2_with fail
  refine HAL.out.mono ?_
  rintro e w1 ⟨rfl, b1⟩
  have M1 := HM0.out.quiet b1
  obtain ⟨g0, g1⟩ := M1.two 1 rfl
  obtain ⟨h0, h1⟩ := M1.two 0 rfl
  have HM1 := Tre.hid M1
  clear M1 b1 HAL
  go_wp2_with fail
  refine (great.great a ca g _ (by omega) (HG.out.below HM1.out.below)).mono ?_
  rintro e w2 ⟨rfl, b2⟩
  clear g0 g1 h0 h1
  have M2 := HM1.out.quiet b2
  obtain ⟨g0, g1⟩ := M2.two 1 rfl
  obtain ⟨h0, h1⟩ := M2.two 0 rfl
  have HM2 := Tre.hid M2
  clear M2 b2
  by_cases t2 : (300 : Int) < g.great
  · have t := t2
    go_wp2_with fail
    go_ret
    exact ⟨rfl, HM2.out.below⟩
  go_wp2_with fail
  refine (great.great b cb h _ (by omega) (HH.out.below HM2.out.below)).mono ?_
  rintro e w3 ⟨rfl, b3⟩
  clear g0 g1 h0 h1
  have M3 := HM2.out.quiet b3
  obtain ⟨g0, g1⟩ := M3.two 1 rfl
  obtain ⟨h0, h1⟩ := M3.two 0 rfl
  have HM3 := Tre.hid M3
  clear M3 b3
  by_cases t3 : (300 : Int) < h.great
  · have t := t3
    go_wp2_with fail
    go_ret
    exact ⟨rfl, HM3.out.below⟩
  go_wp2_with fail
  refine (check_any a ca g _ (HG.out.below HM3.out.below) (by omega) (HX.out.below HM3.out.below)).mono ?_
  rintro e w4 ⟨rfl, b4⟩
  clear g0 g1 h0 h1
  have M4 := HM3.out.quiet b4
  obtain ⟨g0, g1⟩ := M4.two 1 rfl
  obtain ⟨h0, h1⟩ := M4.two 0 rfl
  have HM4 := Tre.hid M4
  clear M4 b4
  by_cases t4 : g.checkC ≠ 0
  · have t := not_ok t4
    go_wp2_with fail
    go_ret
    exact ⟨rfl, HM4.out.below⟩
  have cg : g.checkC = 0 := by omega
  have u4 : (g.checkC != 0) = false := by rw [cg]; rfl
  go_wp2_with fail
  refine (check_any b cb h _ (HH.out.below HM4.out.below) (by omega) (HX.out.below HM4.out.below)).mono ?_
  rintro e w5 ⟨rfl, b5⟩
  clear g0 g1 h0 h1
  have M5 := HM4.out.quiet b5
  obtain ⟨g0, g1⟩ := M5.two 1 rfl
  obtain ⟨h0, h1⟩ := M5.two 0 rfl
  have HM5 := Tre.hid M5
  clear M5 b5
  by_cases t5 : h.checkC ≠ 0
  · have t := not_ok t5
    go_wp2_with fail
    go_ret
    exact ⟨rfl, HM5.out.below⟩
  have ch : h.checkC = 0 := by omega
  have u5 : (h.checkC != 0) = false := by rw [ch]; rfl
  have HEQ := Tre.hid (same_least_dec cg ch)
  have CG := Tre.hid cg
  have CH := Tre.hid ch
  have hkd := same_key_dec cg ch
  have SG : Hid (∀ W, NodesAt W a g.ns → MaxAt W → TabAt W → Calls Tryz.prog 11 #[.agg #[.slice a g.ns.length ca, .int .i64 g.root]] W fun e w' => e = .returned (.string ⟨(keyK g.leastG.ns).toArray⟩) ∧ Below W.heap.size W w') := fun W h1 h2 h3 => key_any a ca g W h1 wg h2 h3 CG.out
  have SH : Hid (∀ W, NodesAt W b h.ns → MaxAt W → TabAt W → Calls Tryz.prog 11 #[.agg #[.slice b h.ns.length cb, .int .i64 h.root]] W fun e w' => e = .returned (.string ⟨(keyK h.leastG.ns).toArray⟩) ∧ Below W.heap.size W w') := fun W h1 h2 h3 => key_any b cb h W h1 wh h2 h3 CH.out
  generalize keyK g.leastG.ns = sg at *
  generalize keyK h.leastG.ns = sh at *
  have CS := same_any a b ca cb g h w5 (HG.out.below HM5.out.below) (HH.out.below HM5.out.below) wg wh (HX.out.below HM5.out.below)
  generalize sameB g h = is at *
  have HCS := Tre.hid CS
  clear CS cg ch t4 t5
  go_wp2_with fail
  refine HCS.out.mono ?_
  rintro e w7 ⟨rfl, b7⟩
  have HM7 := Tre.hid (HM5.out.quiet b7)
  clear b7 g0 g1 h0 h1 HM0 HM1 HM2 HM3 HM4 HM5 HCS
  go_upto_region 6 with fail
  have hk1 : (sg == sh) = is := by rw [← hkd]; exact list_beq8
  refine wp_region_keep (S := (fun w' => w'.cell? ⟨w.heap.size, 0, none⟩ = some (.slice a g.ns.length ca) ∧ w'.cell? ⟨w.heap.size, 1, none⟩ = some (.int .i64 g.root) ∧ w'.cell? ⟨w.heap.size + 1, 0, none⟩ = some (.slice b h.ns.length cb) ∧ w'.cell? ⟨w.heap.size + 1, 1, none⟩ = some (.int .i64 h.root))) [] (by kernel_rfl) ?_ (fun hH0 => ?_)
  · exact ⟨HM7.out.drew.cell 1 rfl 0 rfl, HM7.out.drew.cell 1 rfl 1 rfl, HM7.out.drew.cell 0 rfl 0 rfl, HM7.out.drew.cell 0 rfl 1 rfl⟩
  have H0 := Tre.hid HM7.out.drew
  generalize hq : World.drew _ = wq0 at H0 hH0 ⊢
  clear hq
  refine lPure (i := 0) (some 29) (v := ?_) (by rfl) (by kernel_rfl) (by kernel_rfl) (by kernel_rfl) (by kernel_rfl) (fun _ _ _ h => h) (by rfl) ?_ (keep_of hH0) ?_
  rotate_left
  · intro w; simp only [Tre.qa, Tre.qc, Tre.qd, Tre.qe]; (first | (go_simp; done) | (go_simp; with_reducible rfl))
  try simp only [Act.put, Tre.qf, Tre.qg, Tre.qh]
  refine lTake (i := 1) (some 30) (v := ?_) (by rfl) (by kernel_rfl) (by kernel_rfl) (by kernel_rfl) (by kernel_rfl) (by kernel_rfl) (fun _ _ _ h => h) (by rfl) ?_ hH0 ?_
  rotate_left
  · intro w hSw; (try dsimp only at hSw); simp only [Tre.qa, Tre.qb, Tre.qc, Tre.qd, Tre.qe]; (first | (go_simp; done) | (go_simp; with_reducible rfl))
  try simp only [Act.put, Tre.qf, Tre.qg, Tre.qh]
  refine lTake (i := 3) (some 32) (v := ?_) (by rfl) (by kernel_rfl) (by kernel_rfl) (by kernel_rfl) (by kernel_rfl) (by kernel_rfl) (fun _ _ _ h => h) (by rfl) ?_ hH0 ?_
  rotate_left
  · intro w hSw; (try dsimp only at hSw); simp only [Tre.qa, Tre.qb, Tre.qc, Tre.qd, Tre.qe]; (first | (go_simp; done) | (go_simp; with_reducible rfl))
  try simp only [Act.put, Tre.qf, Tre.qg, Tre.qh]
  refine lOne 2 (by kernel_rfl) (LStep.op (fun K hK => ?_))
  go_simp
  refine (least_any a ca g _ (HG.out.below H0.out.below) wg (HX.out.below H0.out.below) (HT.out.below H0.out.below) CG.out).mono ?_
  rintro e wq1 ⟨vG, dG, rfl, hd, mq⟩
  have HDG := Tre.hid hd
  obtain ⟨aG, cG, rfl, _⟩ := mq.val 0 rfl
  have H1 := Tre.hid (H0.out.call mq)
  clear mq hd
  (try dsimp only)
  refine hK.out _ _ ?_ (fun hH1 => ?_)
  · exact ⟨H1.out.cell 3 rfl 0 rfl, H1.out.cell 3 rfl 1 rfl, H1.out.cell 2 rfl 0 rfl, H1.out.cell 2 rfl 1 rfl⟩
  clear hK K hH0
  try simp only [Act.put, Tre.qf, Tre.qg, Tre.qh]
  refine lOne 4 (by kernel_rfl) (LStep.op (fun K hK => ?_))
  go_simp
  refine (least_any b cb h _ (HH.out.below H1.out.below) wh (HX.out.below H1.out.below) (HT.out.below H1.out.below) CH.out).mono ?_
  rintro e wq2 ⟨vH, dH, rfl, hd, mq⟩
  have HDH := Tre.hid hd
  obtain ⟨aH, cH, rfl, _⟩ := mq.val 0 rfl
  have H2 := Tre.hid (H1.out.call mq)
  clear mq hd
  (try dsimp only)
  refine hK.out _ _ ?_ (fun hH2 => ?_)
  · exact ⟨H2.out.cell 5 rfl 0 rfl, H2.out.cell 5 rfl 1 rfl, H2.out.cell 4 rfl 0 rfl, H2.out.cell 4 rfl 1 rfl⟩
  clear hK K hH1
  try simp only [Act.put, Tre.qf, Tre.qg, Tre.qh]
  refine lOne 5 (by kernel_rfl) (LStep.op (fun K hK => ?_))
  go_simp
  have NG := nodes_read (H2.out.at_ 2 rfl) (H2.out.at_ 3 rfl)
  have NH := nodes_read (H2.out.at_ 0 rfl) (H2.out.at_ 1 rfl)
  rw [HDG.out] at NG
  rw [HDH.out] at NH
  have lG : g.leastG.ns.length = dG.length := by rw [← HDG.out, List.length_map]
  have lH : h.leastG.ns.length = dH.length := by rw [← HDH.out, List.length_map]
  have CE := refEqual aG aH cG cH g.leastG h.leastG wq2 NG NH (by have := LW.out g; omega) (by have := LW.out h; omega)
  rw [HEQ.out, lG, lH] at CE
  refine Calls.mono (show Calls Tryz.prog 12 #[.agg #[.slice aG dG.length cG, .int .i64 0], .agg #[.slice aH dH.length cH, .int .i64 0]] wq2 _ from CE) ?_
  rintro e wq3 ⟨rfl, bq⟩
  have H3 := Tre.hid (((H2.out.quiet bq).drop1.drop1).drop1.drop1)
  clear bq CE NG NH lG lH
  (try dsimp only)
  refine hK.out _ _ ?_ (fun hH3 => ?_)
  · exact ⟨H3.out.cell 1 rfl 0 rfl, H3.out.cell 1 rfl 1 rfl, H3.out.cell 0 rfl 0 rfl, H3.out.cell 0 rfl 1 rfl⟩
  clear hK K hH2
  try simp only [Act.put, Tre.qf, Tre.qg, Tre.qh]
  refine lPure (i := 6) (some 35) (v := ?_) (by rfl) (by kernel_rfl) (by kernel_rfl) (by kernel_rfl) (by kernel_rfl) (fun _ _ _ h => h) (by rfl) ?_ (keep_of hH3) ?_
  rotate_left
  · intro w; simp only [Tre.qa, Tre.qb, Tre.qc, Tre.qd, Tre.qe]; (first | (go_simp; done) | (go_simp; with_reducible rfl))
  try simp only [Act.put, Tre.qf, Tre.qg, Tre.qh]
  refine lPure (i := 7) (some 36) (v := ?_) (by rfl) (by kernel_rfl) (by kernel_rfl) (by kernel_rfl) (by kernel_rfl) (fun _ _ _ h => h) (by rfl) ?_ (keep_of hH3) ?_
  rotate_left
  · intro w; simp only [Tre.qa, Tre.qb, Tre.qc, Tre.qd, Tre.qe]; (first | (go_simp; done) | (go_simp; with_reducible rfl))
  try simp only [Act.put, Tre.qf, Tre.qg, Tre.qh]
  refine lPure (i := 8) (some 37) (v := ?_) (by rfl) (by kernel_rfl) (by kernel_rfl) (by kernel_rfl) (by kernel_rfl) (fun _ _ _ h => h) (by rfl) ?_ (keep_of hH3) ?_
  rotate_left
  · intro w; simp only [Tre.qa, Tre.qb, Tre.qc, Tre.qd, Tre.qe]; (first | (go_simp; done) | (go_simp; with_reducible rfl))
  try simp only [Act.put, Tre.qf, Tre.qg, Tre.qh]
  refine lTake (i := 9) (some 38) (v := ?_) (by rfl) (by kernel_rfl) (by kernel_rfl) (by kernel_rfl) (by kernel_rfl) (by kernel_rfl) (fun _ _ _ h => h) (by rfl) ?_ hH3 ?_
  rotate_left
  · intro w hSw; (try dsimp only at hSw); simp only [Tre.qa, Tre.qb, Tre.qc, Tre.qd, Tre.qe]; (first | (go_simp; done) | (go_simp; with_reducible rfl))
  try simp only [Act.put, Tre.qf, Tre.qg, Tre.qh]
  refine lTake (i := 11) (some 40) (v := ?_) (by rfl) (by kernel_rfl) (by kernel_rfl) (by kernel_rfl) (by kernel_rfl) (by kernel_rfl) (fun _ _ _ h => h) (by rfl) ?_ hH3 ?_
  rotate_left
  · intro w hSw; (try dsimp only at hSw); simp only [Tre.qa, Tre.qb, Tre.qc, Tre.qd, Tre.qe]; (first | (go_simp; done) | (go_simp; with_reducible rfl))
  try simp only [Act.put, Tre.qf, Tre.qg, Tre.qh]
  refine lOne 10 (by kernel_rfl) (LStep.op (fun K hK => ?_))
  go_simp
  refine (SG.out _ (HG.out.below H3.out.below) (HX.out.below H3.out.below) (HT.out.below H3.out.below)).mono ?_
  rintro e wq4 ⟨rfl, bq⟩
  have H4 := Tre.hid (H3.out.quiet bq)
  clear bq
  (try dsimp only)
  refine hK.out _ _ ?_ (fun hH4 => ?_)
  · exact ⟨H4.out.cell 1 rfl 0 rfl, H4.out.cell 1 rfl 1 rfl, H4.out.cell 0 rfl 0 rfl, H4.out.cell 0 rfl 1 rfl⟩
  clear hK K hH3
  try simp only [Act.put, Tre.qf, Tre.qg, Tre.qh]
  refine lOne 12 (by kernel_rfl) (LStep.op (fun K hK => ?_))
  go_simp
  refine (SH.out _ (HH.out.below H4.out.below) (HX.out.below H4.out.below) (HT.out.below H4.out.below)).mono ?_
  rintro e wq5 ⟨rfl, bq⟩
  have H5 := Tre.hid (H4.out.quiet bq)
  clear bq
  (try dsimp only)
  refine hK.out _ _ ?_ (fun hH5 => ?_)
  · exact ⟨H5.out.cell 1 rfl 0 rfl, H5.out.cell 1 rfl 1 rfl, H5.out.cell 0 rfl 0 rfl, H5.out.cell 0 rfl 1 rfl⟩
  clear hK K hH4
  try simp only [Act.put, Tre.qf, Tre.qg, Tre.qh]
  refine lPure (i := 13) (some 42) (v := ?_) (by rfl) (by kernel_rfl) (by kernel_rfl) (by kernel_rfl) (by kernel_rfl) (fun _ _ _ h => h) (by rfl) ?_ (keep_of hH5) ?_
  rotate_left
  · intro w; simp only [Tre.qa, Tre.qb, Tre.qc, Tre.qd, Tre.qe]; (first | (go_simp; done) | (go_simp; with_reducible rfl))
  try simp only [Act.put, Tre.qf, Tre.qg, Tre.qh]
  refine lPure (i := 14) (some 43) (v := ?_) (by rfl) (by kernel_rfl) (by kernel_rfl) (by kernel_rfl) (by kernel_rfl) (fun _ _ _ h => h) (by rfl) ?_ (keep_of hH5) ?_
  rotate_left
  · intro w; simp only [Tre.qa, Tre.qb, Tre.qc, Tre.qd, Tre.qe]; (first | (go_simp; done) | (go_simp; with_reducible rfl))
  try simp only [Act.put, Tre.qf, Tre.qg, Tre.qh]
  refine lPure (i := 15) (some 44) (v := ?_) (by rfl) (by kernel_rfl) (by kernel_rfl) (by kernel_rfl) (by kernel_rfl) (fun _ _ _ h => h) (by rfl) ?_ (keep_of hH5) ?_
  rotate_left
  · intro w; simp only [Tre.qa, Tre.qb, Tre.qc, Tre.qd, Tre.qe]; (first | (go_simp; done) | (go_simp; with_reducible rfl))
  try simp only [Act.put, Tre.qf, Tre.qg, Tre.qh]
  refine lPure (i := 16) (some 4) (v := ?_) (by rfl) (by kernel_rfl) (by kernel_rfl) (by kernel_rfl) (by kernel_rfl) (fun _ _ _ h => h) (by rfl) ?_ (keep_of hH5) ?_
  rotate_left
  · intro w; simp only [Tre.qa, Tre.qb, Tre.qc, Tre.qd, Tre.qe]; (first | (go_simp; done) | (go_simp; with_reducible rfl))
  try simp only [Act.put, Tre.qf, Tre.qg, Tre.qh]
  refine lDone (by kernel_rfl) ?_
  clear hH5
  go_wp2_with fail
  go_ret
  exact ⟨rfl, H5.out.below⟩
end Go.Proofs.YtaleodkbghogfaaGreatDoor.gr
