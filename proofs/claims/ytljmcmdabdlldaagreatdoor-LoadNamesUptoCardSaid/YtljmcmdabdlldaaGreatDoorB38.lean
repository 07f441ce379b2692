/- The reference's Labels, Ints, Alike, IsFree, Equal. graph.Same. graph.Same, at any two graphs. The reference's Equal. -/
import Derived.Test.YtljmcmdabdlldaaGreatDoorB05
import Derived.Deep.QuietTactic
import Derived.BigQuiet
import Derived.Test.YtljmcmdabdlldaaGreatDoorB03
import Derived.BigRegion
import Derived.WalkSmall
import Derived.Deep.LoopGhost
import Derived.Deep.DeepCutAuto
import Derived.OpenShut
import Derived.Deep.RegionHeld3
import Derived.Deep.AppendLies
import Derived.Deep.DrawnRows
import Derived.Test.YtljmcmdabdlldaaGreatDoorB06
import Derived.Deep.RegionWith
set_option linter.unusedVariables false
namespace Go.Proofs.YtljmcmdabdlldaaGreatDoor.gr
open Go.RowKit Go.Maps Go.Tre lex

set_option maxHeartbeats 2000000 in
theorem refLabels (a b : Option Addr) (ca cb : Nat) (xs ys : List ByteArray) (w : World) (hx : StrsAt w a xs) (hy : StrsAt w b ys) (hlx : xs.length ≤ 8388608) (hly : ys.length ≤ 8388608) :
  Calls Tryz.prog 52 #[.slice a xs.length ca, .slice b ys.length cb] w fun e w' => e = .returned (.bool (decide (xs = ys))) ∧ Below w.heap.size w w' := by
 by_cases hl : xs.length = ys.length
 ·have e0 : ((xs.length : Int) != (ys.length : Int)) = false := by rw [hl]; simp
  have HL := Tre.hid hl
  clear hl
  go_enter Tryz.func52, Tryz.ntmps52
  go_wp2_with fail
  go_loopw [13] (fun i wr => ∃ k : Nat, k ≤ xs.length ∧ i = .int .i64 k ∧ xs.take k = ys.take k ∧ Below w.heap.size w wr) (fun i _ => xs.length - (intOf i).toNat)
  case atStart => exact ⟨0, Nat.zero_le _, rfl, rfl, Below.refl _ _⟩
  case round =>
   obtain ⟨k, hk, rfl, hrel, hb⟩ := hrel
   have HR := Tre.hid hrel
   clear hrel
   by_cases hlt : k < xs.length
   ·have hlt2 : k < ys.length := by have := HL.out; omega
    obtain ⟨b1, o1, rfl, hc1⟩ := (hx.below hb).at_ k (.string xs[k]) (by simp [List.getElem?_eq_getElem hlt])
    obtain ⟨b2, o2, rfl, hc2⟩ := (hy.below hb).at_ k (.string ys[k]) (by simp [List.getElem?_eq_getElem hlt2])
    have T1 : Hid (xs.take (k + 1) = xs.take k ++ [xs[k]]) := List.take_succ_eq_append_getElem hlt
    have T2 : Hid (ys.take (k + 1) = ys.take k ++ [ys[k]]) := List.take_succ_eq_append_getElem hlt2
    generalize hxk : xs[k] = x at *
    generalize hyk : ys[k] = y at *
    have i1 : (k : Int) < xs.length := by omega
    have i2 : (k : Int) < ys.length := by omega
    have i3 : (0 : Int) ≤ k := by omega
    have HX := Tre.hid hxk
    have HY := Tre.hid hyk
    clear hxk hyk
    by_cases he : x = y
    ·have e1 : (!(x.toList == y.toList)) = false := by rw [str_eq]; simp [he]
     have HE := Tre.hid he
     clear he
     go_wp2_with fail
     go_quiet (fail)
     go_wp2_with fail
     go_roundw
     case rel => exact ⟨k + 1, by omega, by go_num, by rw [T1.out, T2.out, HR.out, HE.out], by first | exact Go.below_drewN hb _ | exact hb⟩
     case measure => simp [intOf]; omega
    ·have e1 : (!(x.toList == y.toList)) = true := by rw [str_eq]; simp [he]
     have HE : Hid (¬ xs = ys) := by
      show ¬ _
      intro e
      subst e
      exact he (HX.out.symm.trans HY.out)
     clear he
     go_wp2_with fail
     go_quiet (fail)
     go_wp2_with fail
     go_ret
     exact ⟨ret_bool (by simp [HE.out]), by first | exact Go.below_drewN hb _ | exact hb⟩
   ·have HE : Hid (xs = ys) := by
     have h1 := HR.out
     rw [List.take_of_length_le (by omega), List.take_of_length_le (by have := HL.out; omega)] at h1
     exact h1
    go_wp2_with fail
    go_ret
    exact ⟨ret_bool (by simp [HE.out]), hb⟩
 ·have e0 : ((xs.length : Int) != (ys.length : Int)) = true := by rw [bne_iff_ne]; omega
  have HE : Hid (¬ xs = ys) := fun e => hl (by rw [e])
  clear hl
  go_enter Tryz.func52, Tryz.ntmps52
  go_wp2_with fail
  go_ret
  exact ⟨ret_bool (by simp [HE.out]), Below.refl _ _⟩

set_option maxHeartbeats 2000000 in
theorem refInts (a b : Option Addr) (ca cb : Nat) (xs ys : List Int) (w : World) (hx : IntsAt w a xs) (hy : IntsAt w b ys) (hlx : xs.length ≤ 8388608) (hly : ys.length ≤ 8388608) :
  Calls Tryz.prog 29 #[.slice a xs.length ca, .slice b ys.length cb] w fun e w' => e = .returned (.bool (decide (xs = ys))) ∧ Below w.heap.size w w' := by
 by_cases hl : xs.length = ys.length
 ·have e0 : ((xs.length : Int) != (ys.length : Int)) = false := by rw [hl]; simp
  have HL := Tre.hid hl
  clear hl
  go_enter Tryz.func29, Tryz.ntmps29
  go_wp2_with fail
  go_loopw [13] (fun i wr => ∃ k : Nat, k ≤ xs.length ∧ i = .int .i64 k ∧ xs.take k = ys.take k ∧ Below w.heap.size w wr) (fun i _ => xs.length - (intOf i).toNat)
  case atStart => exact ⟨0, Nat.zero_le _, rfl, rfl, Below.refl _ _⟩
  case round =>
   obtain ⟨k, hk, rfl, hrel, hb⟩ := hrel
   have HR := Tre.hid hrel
   clear hrel
   by_cases hlt : k < xs.length
   ·have hlt2 : k < ys.length := by have := HL.out; omega
    obtain ⟨b1, o1, rfl, hc1⟩ := (hx.below hb).at_ k (.int .i64 xs[k]) (by simp [List.getElem?_eq_getElem hlt])
    obtain ⟨b2, o2, rfl, hc2⟩ := (hy.below hb).at_ k (.int .i64 ys[k]) (by simp [List.getElem?_eq_getElem hlt2])
    have T1 : Hid (xs.take (k + 1) = xs.take k ++ [xs[k]]) := List.take_succ_eq_append_getElem hlt
    have T2 : Hid (ys.take (k + 1) = ys.take k ++ [ys[k]]) := List.take_succ_eq_append_getElem hlt2
    generalize hxk : xs[k] = x at *
    generalize hyk : ys[k] = y at *
    have i1 : (k : Int) < xs.length := by omega
    have i2 : (k : Int) < ys.length := by omega
    have i3 : (0 : Int) ≤ k := by omega
    have HX := Tre.hid hxk
    have HY := Tre.hid hyk
    clear hxk hyk
    by_cases he : x = y
    ·have e1 : (x != y) = false := by simp [he]
     have HE := Tre.hid he
     clear he
     go_wp2_with fail
     go_quiet (fail)
     go_wp2_with fail
     go_roundw
     case rel => exact ⟨k + 1, by omega, by go_num, by rw [T1.out, T2.out, HR.out, HE.out], by first | exact Go.below_drewN hb _ | exact hb⟩
     case measure => simp [intOf]; omega
    ·have e1 : (x != y) = true := by simp [he]
     have HE : Hid (¬ xs = ys) := by
      show ¬ _
      intro e
      subst e
      exact he (HX.out.symm.trans HY.out)
     clear he
     go_wp2_with fail
     go_quiet (fail)
     go_wp2_with fail
     go_ret
     exact ⟨ret_bool (by simp [HE.out]), by first | exact Go.below_drewN hb _ | exact hb⟩
   ·have HE : Hid (xs = ys) := by
     have h1 := HR.out
     rw [List.take_of_length_le (by omega), List.take_of_length_le (by have := HL.out; omega)] at h1
     exact h1
    go_wp2_with fail
    go_ret
    exact ⟨ret_bool (by simp [HE.out]), hb⟩
 ·have e0 : ((xs.length : Int) != (ys.length : Int)) = true := by rw [bne_iff_ne]; omega
  have HE : Hid (¬ xs = ys) := fun e => hl (by rw [e])
  clear hl
  go_enter Tryz.func29, Tryz.ntmps29
  go_wp2_with fail
  go_ret
  exact ⟨ret_bool (by simp [HE.out]), Below.refl _ _⟩

set_option maxHeartbeats 4000000 in
theorem refAlike (x y : Tre.Node) (ax : Option Addr) (cx : Nat) (lx : Option Addr) (dx : Nat) (ay : Option Addr) (cy : Nat) (ly : Option Addr) (dy : Nat) (w : World) (hx : StrsAt w lx x.labels) (hy : StrsAt w ly y.labels) (hlx : x.labels.length ≤ 8388608) (hly : y.labels.length ≤ 8388608) (_hax : x.args.length ≤ 8388608) (_hay : y.args.length ≤ 8388608) :
  Calls Tryz.prog 28 #[nodeVal x ax cx lx dx, nodeVal y ay cy ly dy] w fun e w' => e = .returned (.bool (alikeB x y)) ∧ Below w.heap.size w w' := by
 have b2 : Below w.heap.size w ((w.alloc (nodeObj x ax cx lx dx)).alloc (nodeObj y ay cy ly dy)) := ((Below.refl _ _).alloc (Nat.le_refl _) _).alloc (by simp) _
 have C := Tre.hid (refLabels lx ly dx dy x.labels y.labels _ (hx.below b2) (hy.below b2) hlx hly)
 clear hx hy
 by_cases h_kind : x.kind = y.kind
 ·have e_kind : (x.kind == y.kind) = true := by rw [h_kind]; simp
  by_cases h_name : x.name = y.name
  ·have e_name : (x.name.toList == y.name.toList) = true := by rw [str_eq]; simp [h_name]
   by_cases h_open : x.isOpen = y.isOpen
   ·have e_open : (x.isOpen == y.isOpen) = true := by rw [h_open]; simp
    by_cases h_args : x.args.length = y.args.length
    ·have e_args : ((x.args.length : Int) == (y.args.length : Int)) = true := by rw [h_args]; simp
     have H : Hid (alikeB x y = decide (x.labels = y.labels)) := by show _ = _; unfold alikeB; simp [h_kind, h_name, h_open, h_args]
     clear h_kind h_name h_open h_args
     go_enter Tryz.func28, Tryz.ntmps28
     go_wp2_with fail
     refine C.out.mono ?_
     rintro e w1 ⟨rfl, b1⟩
     go_wp2_with fail
     go_ret
     exact ⟨ret_bool H.out.symm, after2 b1⟩
    ·have e_args : ((x.args.length : Int) == (y.args.length : Int)) = false := beq_eq_false_iff_ne.2 (by omega)
     have H : Hid (alikeB x y = false) := by show _ = _; unfold alikeB; simp [h_args]
     clear h_kind h_name h_open h_args
     go_enter Tryz.func28, Tryz.ntmps28
     go_wp2_with fail
     go_ret
     exact ⟨ret_bool H.out.symm, b2⟩
   ·have e_open : (x.isOpen == y.isOpen) = false := by simpa using h_open
    have H : Hid (alikeB x y = false) := by show _ = _; unfold alikeB; simp [h_open]
    clear h_kind h_name h_open
    go_enter Tryz.func28, Tryz.ntmps28
    go_wp2_with fail
    go_ret
    exact ⟨ret_bool H.out.symm, b2⟩
  ·have e_name : (x.name.toList == y.name.toList) = false := by rw [str_eq]; simp [h_name]
   have H : Hid (alikeB x y = false) := by show _ = _; unfold alikeB; simp [h_name]
   clear h_kind h_name
   go_enter Tryz.func28, Tryz.ntmps28
   go_wp2_with fail
   go_ret
   exact ⟨ret_bool H.out.symm, b2⟩
 ·have e_kind : (x.kind == y.kind) = false := beq_eq_false_iff_ne.2 h_kind
  have H : Hid (alikeB x y = false) := by show _ = _; unfold alikeB; simp [h_kind]
  clear h_kind
  go_enter Tryz.func28, Tryz.ntmps28
  go_wp2_with fail
  go_ret
  exact ⟨ret_bool H.out.symm, b2⟩

end Go.Proofs.YtljmcmdabdlldaaGreatDoor.gr
namespace Go.Proofs.YtljmcmdabdlldaaGreatDoor.gr
open Go.RowKit Go.Maps Go.Tre lex
structure St (w : World) (S : Nat) (v : Value) (l : List (Nat × Nat)) (m : Nat × Nat → Option Unit) (f bk : Nat → Option Nat) (n1 n2 n3 : Nat) : Prop where
  own : w.ownsRow S 87 2 v l.length (pcells l)
  m1 : MapIs Tryz.prog 87 ep (fun _ => .bool true) w S n1 m
  m2 : MapIs Tryz.prog 3 en en w (S + 1) n2 f
  m3 : MapIs Tryz.prog 3 en en w (S + 1 + 1) n3 bk
theorem St.kept {w w' : World} {S : Nat} {v : Value} {l : List (Nat × Nat)} {m : Nat × Nat → Option Unit} {f bk : Nat → Option Nat} {n1 n2 n3 : Nat} (s : St w S v l m f bk n1 n2 n3) (h : w.grownBy w' none) : St w' S v l m f bk n1 n2 n3 :=
  ⟨s.own.kept h (by by_cases e : v.ownBlock = none; exact .inl e; exact .inr e), s.m1.kept h (by simp), s.m2.kept h (by simp), s.m3.kept h (by simp)⟩
end Go.Proofs.YtljmcmdabdlldaaGreatDoor.gr
namespace Go.Proofs.YtljmcmdabdlldaaGreatDoor.gr
open Go.RowKit Go.Maps Go.Tre lex

end Go.Proofs.YtljmcmdabdlldaaGreatDoor.gr
namespace Go.Tre
def sameAt (g h : Tre.Graph) (i : Nat) : Bool := alikeB (g.nd i) (h.nd i) && decide ((g.nd i).args = (h.nd i).args)
theorem node_eq {x y : Tre.Node} (h : (alikeB x y && decide (x.args = y.args)) = true) : x = y := by
 unfold alikeB at h
 simp only [Bool.and_eq_true, decide_eq_true_eq] at h
 obtain ⟨⟨⟨⟨⟨h1, h2⟩, h3⟩, _⟩, h5⟩, h6⟩ := h
 cases x; cases y
 simp only at h1 h2 h3 h5 h6
 subst h1 h2 h3 h5 h6
 rfl
theorem graph_eq {g h : Tre.Graph} (hr : g.root = h.root) (hl : g.ns.length = h.ns.length) (ha : ∀ i, i < g.ns.length → sameAt g h i = true) : g = h := by
 cases g; cases h
 simp only at hr hl ha
 subst hr
 congr 1
 apply List.ext_getElem hl
 intro i h1 h2
 have := node_eq (ha i h1)
 rw [Graph.nd_eq h1, Graph.nd_eq h2] at this
 exact this
end Go.Tre
namespace Go.Proofs.YtljmcmdabdlldaaGreatDoor.gr
open Go.RowKit Go.Maps Go.Tre lex

set_option maxRecDepth 100000 in
set_option maxHeartbeats 4000000 in
theorem refEqual (a b : Option Addr) (ca cb : Nat) (g h : Tre.Graph) (w : World) (hg : NodesAt w a g.ns) (hh : NodesAt w b h.ns) (wg : g.weight ≤ 8388608) (wh : h.weight ≤ 8388608) :
  Calls Tryz.prog 12 #[.agg #[.slice a g.ns.length ca, .int .i64 g.root], .agg #[.slice b h.ns.length cb, .int .i64 h.root]] w fun e w' => e = .returned (.bool (decide (g = h))) ∧ Below w.heap.size w w' := by
 have b2 : Below w.heap.size w ((w.alloc (.cells #[.slice a g.ns.length ca, .int .i64 g.root] 33)).alloc (.cells #[.slice b h.ns.length cb, .int .i64 h.root] 33)) := ((Below.refl _ _).alloc (Nat.le_refl _) _).alloc (by simp) _
 have hgl : g.ns.length ≤ 8388608 := Nat.le_trans (len_weight g) wg
 have hhl : h.ns.length ≤ 8388608 := Nat.le_trans (len_weight h) wh
 by_cases hr : g.root = h.root
 ·have e_r : (g.root != h.root) = false := by simp [hr]
  by_cases hl : g.ns.length = h.ns.length
  ·have e_l : ((g.ns.length : Int) != (h.ns.length : Int)) = false := by simp [hl]
   have HR := Tre.hid hr
   have HL := Tre.hid hl
   have HG := Tre.hid hg
   have HH := Tre.hid hh
   have hl1 : g.ns.length ≤ h.ns.length := by omega
   have HB := Tre.hid b2
   have k0 : ((w.alloc (.cells #[.slice a g.ns.length ca, .int .i64 g.root] 33)).alloc (.cells #[.slice b h.ns.length cb, .int .i64 h.root] 33)).heap[w.heap.size]? = some (.cells #[.slice a g.ns.length ca, .int .i64 g.root] 33) := (Below.heap_alloc _ _ _ (by simp)).trans (heap_alloc_new w _)
   have k1 : ((w.alloc (.cells #[.slice a g.ns.length ca, .int .i64 g.root] 33)).alloc (.cells #[.slice b h.ns.length cb, .int .i64 h.root] 33)).heap[w.heap.size + 1]? = some (.cells #[.slice b h.ns.length cb, .int .i64 h.root] 33) := heap_two _ _ _
   have K0 := Tre.hid k0
   have K1 := Tre.hid k1
   clear hr hl hg hh b2 k0 k1
   go_enter Tryz.func12, Tryz.ntmps12
   go_wp2_with fail
   go_loopw [23] (fun v23 wr => ∃ k : Nat, k ≤ g.ns.length ∧ v23 = .int .i64 k ∧ Hid (∀ j, j < k → sameAt g h j = true) ∧ Hid (Below w.heap.size w wr) ∧ Hid (w.heap.size + 2 ≤ wr.heap.size) ∧ Hid (wr.heap[w.heap.size]? = some (.cells #[.slice a g.ns.length ca, .int .i64 g.root] 33)) ∧ Hid (wr.heap[w.heap.size + 1]? = some (.cells #[.slice b h.ns.length cb, .int .i64 h.root] 33)))
    (fun v23 _ => g.ns.length - (intOf v23).toNat)
   case atStart => exact ⟨0, Nat.zero_le _, rfl, fun j hj => by omega, HB.out, (by show _ ≤ _; simp), K0.out, K1.out⟩
   case round =>
    obtain ⟨k, hk, rfl, hrel, hb, hsz, h0, h1⟩ := hrel
    by_cases hlt : k < g.ns.length
    ·have hlt2 : k < h.ns.length := by omega
     have d0 : wr.cell? ⟨w.heap.size, 0, none⟩ = some (.slice a g.ns.length ca) := cell_of_heap h0.out rfl
     have d1 : wr.cell? ⟨w.heap.size + 1, 0, none⟩ = some (.slice b h.ns.length cb) := cell_of_heap h1.out rfl
     obtain ⟨b1, o1, rfl, nx⟩ := (HG.out.below hb.out).at_ k (g.nd k) (by rw [Graph.nd_eq hlt]; exact List.getElem?_eq_getElem hlt)
     obtain ⟨b2, o2, rfl, ny⟩ := (HH.out.below hb.out).at_ k (h.nd k) (by rw [Graph.nd_eq hlt2]; exact List.getElem?_eq_getElem hlt2)
     have hXw : (g.nd k).weight ≤ g.weight := by rw [Graph.nd_eq hlt]; exact node_weight (List.getElem_mem hlt)
     have hYw : (h.nd k).weight ≤ h.weight := by rw [Graph.nd_eq hlt2]; exact node_weight (List.getElem_mem hlt2)
     have hXa := args_len (g.nd k)
     have hXl := labels_len (g.nd k)
     have hYa := args_len (h.nd k)
     have hYl := labels_len (h.nd k)
     have hsa : sameAt g h k = (alikeB (g.nd k) (h.nd k) && decide ((g.nd k).args = (h.nd k).args)) := rfl
     generalize hX : g.nd k = X at *
     generalize hY : h.nd k = Y at *
     obtain ⟨ax, cx, lx, dx, x0, x1, x2, x3, x4, xA, xL, _, _⟩ := nx
     obtain ⟨ay, cy, ly, dy, y0, y1, y2, y3, y4, yA, yL, _, _⟩ := ny
     have HX := Tre.hid hX
     have HY := Tre.hid hY
     have XA := Tre.hid xA
     have XL := Tre.hid xL
     have YA := Tre.hid yA
     have YL := Tre.hid yL
     have HSA := Tre.hid hsa
     have i1 : (0 : Int) ≤ k := by omega
     have i2 : (k : Int) < g.ns.length := by omega
     have i3 : (k : Int) < h.ns.length := by omega
     have bA : X.args.length ≤ 8388608 := by omega
     have bB : Y.args.length ≤ 8388608 := by omega
     have bC : X.labels.length ≤ 8388608 := by omega
     have bD : Y.labels.length ≤ 8388608 := by omega
     clear hX hY xA xL yA yL hsa hXw hYw hXa hXl hYa hYl
     by_cases hal : alikeB X Y = true
     ·have HAL := Tre.hid hal
      clear hal
      by_cases hae : X.args = Y.args
      ·have hae' : decide (X.args = Y.args) = true := by simp [hae]
       have HAE := Tre.hid hae'
       have HEQ := Tre.hid hae
       clear hae hae'
       go_wp2_with fail
       go_region_held3 (fun w' => Below wr.heap.size wr w' ∧ w'.cell? ⟨w.heap.size, 0, none⟩ = some (.slice (some ⟨b1, o1, none⟩) g.ns.length ca) ∧ w'.cell? ⟨w.heap.size + 1, 0, none⟩ = some (.slice (some ⟨b2, o2, none⟩) h.ns.length cb) ∧
        w'.cell? ⟨b1, o1 + k * 5, none⟩ = some (.int .i64 X.kind) ∧ w'.cell? ⟨b1, o1 + k * 5 + 1, none⟩ = some (.string X.name) ∧ w'.cell? ⟨b1, o1 + k * 5 + 2, none⟩ = some (.slice ax X.args.length cx) ∧ w'.cell? ⟨b1, o1 + k * 5 + 3, none⟩ = some (.slice lx X.labels.length dx) ∧ w'.cell? ⟨b1, o1 + k * 5 + 4, none⟩ = some (.bool X.isOpen) ∧
        w'.cell? ⟨b2, o2 + k * 5, none⟩ = some (.int .i64 Y.kind) ∧ w'.cell? ⟨b2, o2 + k * 5 + 1, none⟩ = some (.string Y.name) ∧ w'.cell? ⟨b2, o2 + k * 5 + 2, none⟩ = some (.slice ay Y.args.length cy) ∧ w'.cell? ⟨b2, o2 + k * 5 + 3, none⟩ = some (.slice ly Y.labels.length dy) ∧ w'.cell? ⟨b2, o2 + k * 5 + 4, none⟩ = some (.bool Y.isOpen))
        (first
         | exact ⟨(Below.refl _ _).drew, d0, d1, x0, x1, x2, x3, x4, y0, y1, y2, y3, y4⟩
         | exact ⟨((Below.refl _ _).drew).trans hb9, cell_below hb9 d0, cell_below hb9 d1, cell_below hb9 x0, cell_below hb9 x1, cell_below hb9 x2, cell_below hb9 x3, cell_below hb9 x4, cell_below hb9 y0, cell_below hb9 y1, cell_below hb9 y2, cell_below hb9 y3, cell_below hb9 y4⟩
         | (have hh := (show Below wr.heap.size wr w9 ∧ _ from by assumption); exact ⟨hh.1.trans (hb10.mono hh.1.size), cell_below hb10 hh.2.1, cell_below hb10 hh.2.2.1, cell_below hb10 hh.2.2.2.1, cell_below hb10 hh.2.2.2.2.1, cell_below hb10 hh.2.2.2.2.2.1, cell_below hb10 hh.2.2.2.2.2.2.1, cell_below hb10 hh.2.2.2.2.2.2.2.1, cell_below hb10 hh.2.2.2.2.2.2.2.2.1, cell_below hb10 hh.2.2.2.2.2.2.2.2.2.1, cell_below hb10 hh.2.2.2.2.2.2.2.2.2.2.1, cell_below hb10 hh.2.2.2.2.2.2.2.2.2.2.2.1, cell_below hb10 hh.2.2.2.2.2.2.2.2.2.2.2.2⟩)
         | go_keep)
        (first | (go_at_call 28; refine (refAlike X Y ax cx lx dx ay cy ly dy _ ?_ ?_ bC bD bA bB).mono ?_; (exact XL.out.below (by first | assumption | exact (Below.refl _ _).drew)); (exact YL.out.below (by first | assumption | exact (Below.refl _ _).drew)); rintro e w9 ⟨rfl, hb9⟩; rw [HAL.out]) | (go_at_call 29; refine (refInts ax ay cx cy X.args Y.args _ ?_ ?_ bA bB).mono ?_; (exact XA.out.below (show Below wr.heap.size wr w9 ∧ _ from by assumption).1); (exact YA.out.below (show Below wr.heap.size wr w9 ∧ _ from by assumption).1); rintro e w10 ⟨rfl, hb10⟩; rw [HAE.out]))
       have hh := (show Below wr.heap.size wr w10 ∧ _ from by assumption)
       have HB2 := Tre.hid hh.1
       clear hh
       rename_i hh1
       clear hh1
       go_wp2_with fail
       go_roundw
       case rel =>
        refine ⟨k + 1, by omega, by go_num, fun j hj => ?_, hb.out.trans (HB2.out.mono hb.out.size), Nat.le_trans hsz.out HB2.out.size, (HB2.out.block _ (by have := hsz.out; omega)).trans h0.out, (HB2.out.block _ (by have := hsz.out; omega)).trans h1.out⟩
        by_cases e : j = k
        ·subst e
         rw [HSA.out, HAL.out, HAE.out]; rfl
        ·exact hrel.out j (by omega)
       case measure => simp [intOf]; omega
      ·have hae' : decide (X.args = Y.args) = false := by simp [hae]
       have HAE := Tre.hid hae'
       have HNE := Tre.hid hae
       clear hae hae'
       go_wp2_with fail
       go_region_held3 (fun w' => Below wr.heap.size wr w' ∧ w'.cell? ⟨w.heap.size, 0, none⟩ = some (.slice (some ⟨b1, o1, none⟩) g.ns.length ca) ∧ w'.cell? ⟨w.heap.size + 1, 0, none⟩ = some (.slice (some ⟨b2, o2, none⟩) h.ns.length cb) ∧
        w'.cell? ⟨b1, o1 + k * 5, none⟩ = some (.int .i64 X.kind) ∧ w'.cell? ⟨b1, o1 + k * 5 + 1, none⟩ = some (.string X.name) ∧ w'.cell? ⟨b1, o1 + k * 5 + 2, none⟩ = some (.slice ax X.args.length cx) ∧ w'.cell? ⟨b1, o1 + k * 5 + 3, none⟩ = some (.slice lx X.labels.length dx) ∧ w'.cell? ⟨b1, o1 + k * 5 + 4, none⟩ = some (.bool X.isOpen) ∧
        w'.cell? ⟨b2, o2 + k * 5, none⟩ = some (.int .i64 Y.kind) ∧ w'.cell? ⟨b2, o2 + k * 5 + 1, none⟩ = some (.string Y.name) ∧ w'.cell? ⟨b2, o2 + k * 5 + 2, none⟩ = some (.slice ay Y.args.length cy) ∧ w'.cell? ⟨b2, o2 + k * 5 + 3, none⟩ = some (.slice ly Y.labels.length dy) ∧ w'.cell? ⟨b2, o2 + k * 5 + 4, none⟩ = some (.bool Y.isOpen))
        (first
         | exact ⟨(Below.refl _ _).drew, d0, d1, x0, x1, x2, x3, x4, y0, y1, y2, y3, y4⟩
         | exact ⟨((Below.refl _ _).drew).trans hb9, cell_below hb9 d0, cell_below hb9 d1, cell_below hb9 x0, cell_below hb9 x1, cell_below hb9 x2, cell_below hb9 x3, cell_below hb9 x4, cell_below hb9 y0, cell_below hb9 y1, cell_below hb9 y2, cell_below hb9 y3, cell_below hb9 y4⟩
         | (have hh := (show Below wr.heap.size wr w9 ∧ _ from by assumption); exact ⟨hh.1.trans (hb10.mono hh.1.size), cell_below hb10 hh.2.1, cell_below hb10 hh.2.2.1, cell_below hb10 hh.2.2.2.1, cell_below hb10 hh.2.2.2.2.1, cell_below hb10 hh.2.2.2.2.2.1, cell_below hb10 hh.2.2.2.2.2.2.1, cell_below hb10 hh.2.2.2.2.2.2.2.1, cell_below hb10 hh.2.2.2.2.2.2.2.2.1, cell_below hb10 hh.2.2.2.2.2.2.2.2.2.1, cell_below hb10 hh.2.2.2.2.2.2.2.2.2.2.1, cell_below hb10 hh.2.2.2.2.2.2.2.2.2.2.2.1, cell_below hb10 hh.2.2.2.2.2.2.2.2.2.2.2.2⟩)
         | go_keep)
        (first | (go_at_call 28; refine (refAlike X Y ax cx lx dx ay cy ly dy _ ?_ ?_ bC bD bA bB).mono ?_; (exact XL.out.below (by first | assumption | exact (Below.refl _ _).drew)); (exact YL.out.below (by first | assumption | exact (Below.refl _ _).drew)); rintro e w9 ⟨rfl, hb9⟩; rw [HAL.out]) | (go_at_call 29; refine (refInts ax ay cx cy X.args Y.args _ ?_ ?_ bA bB).mono ?_; (exact XA.out.below (show Below wr.heap.size wr w9 ∧ _ from by assumption).1); (exact YA.out.below (show Below wr.heap.size wr w9 ∧ _ from by assumption).1); rintro e w10 ⟨rfl, hb10⟩; rw [HAE.out]))
       have hh := (show Below wr.heap.size wr w10 ∧ _ from by assumption)
       have HB2 := Tre.hid hh.1
       clear hh
       go_wp2_with fail
       go_ret
       refine ⟨ret_bool (Eq.symm (decide_eq_false (fun e => ?_))), hb.out.trans (HB2.out.mono hb.out.size)⟩
       subst e
       exact HNE.out (by rw [← HX.out, ← HY.out])
     ·have hal' : alikeB X Y = false := by simpa using hal
      have HAL := Tre.hid hal'
      clear hal hal'
      go_wp2_with fail
      refine wp_region_held_drew (S := (fun w' => Below wr.heap.size wr w' ∧ w'.cell? ⟨w.heap.size, 0, none⟩ = some (.slice (some ⟨b1, o1, none⟩) g.ns.length ca) ∧ w'.cell? ⟨w.heap.size + 1, 0, none⟩ = some (.slice (some ⟨b2, o2, none⟩) h.ns.length cb) ∧ w'.cell? ⟨b1, o1 + k * 5, none⟩ = some (.int .i64 X.kind) ∧ w'.cell? ⟨b1, o1 + k * 5 + 1, none⟩ = some (.string X.name) ∧ w'.cell? ⟨b1, o1 + k * 5 + 2, none⟩ = some (.slice ax X.args.length cx) ∧ w'.cell? ⟨b1, o1 + k * 5 + 3, none⟩ = some (.slice lx X.labels.length dx) ∧ w'.cell? ⟨b1, o1 + k * 5 + 4, none⟩ = some (.bool X.isOpen) ∧ w'.cell? ⟨b2, o2 + k * 5, none⟩ = some (.int .i64 Y.kind) ∧ w'.cell? ⟨b2, o2 + k * 5 + 1, none⟩ = some (.string Y.name) ∧ w'.cell? ⟨b2, o2 + k * 5 + 2, none⟩ = some (.slice ay Y.args.length cy) ∧ w'.cell? ⟨b2, o2 + k * 5 + 3, none⟩ = some (.slice ly Y.labels.length dy) ∧ w'.cell? ⟨b2, o2 + k * 5 + 4, none⟩ = some (.bool Y.isOpen))) (by kernel_rfl) ?_ (fun hH0 => ?_)
      ·exact ⟨(Below.refl _ _).drew, d0, d1, x0, x1, x2, x3, x4, y0, y1, y2, y3, y4⟩
      refine hTake (i := 0) (some 26) (v := ?_) (by rfl) (by kernel_rfl) (by kernel_rfl) (by kernel_rfl) (fun _ _ _ h => h) (by rfl) ?_ hH0 ?_
      rotate_left
      ·intro w hSw; (try dsimp only at hSw); go_simp <;> with_reducible rfl
      try simp only [Act.put, zqf, zqg, zqh]
      refine hTake (i := 1) (some 27) (v := ?_) (by rfl) (by kernel_rfl) (by kernel_rfl) (by kernel_rfl) (fun _ _ _ h => h) (by rfl) ?_ hH0 ?_
      rotate_left
      ·intro w hSw; (try dsimp only at hSw); go_simp <;> with_reducible rfl
      try simp only [Act.put, zqf, zqg, zqh]
      refine hTake (i := 2) (some 28) (v := ?_) (by rfl) (by kernel_rfl) (by kernel_rfl) (by kernel_rfl) (fun _ _ _ h => h) (by rfl) ?_ hH0 ?_
      rotate_left
      ·intro w hSw; (try dsimp only at hSw); go_simp <;> with_reducible rfl
      try simp only [Act.put, zqf, zqg, zqh]
      refine hTake (i := 3) (some 29) (v := ?_) (by rfl) (by kernel_rfl) (by kernel_rfl) (by kernel_rfl) (fun _ _ _ h => h) (by rfl) ?_ hH0 ?_
      rotate_left
      ·intro w hSw; (try dsimp only at hSw); go_simp <;> with_reducible rfl
      try simp only [Act.put, zqf, zqg, zqh]
      refine hTake (i := 4) (some 30) (v := ?_) (by rfl) (by kernel_rfl) (by kernel_rfl) (by kernel_rfl) (fun _ _ _ h => h) (by rfl) ?_ hH0 ?_
      rotate_left
      ·intro w hSw; (try dsimp only at hSw); go_simp <;> with_reducible rfl
      try simp only [Act.put, zqf, zqg, zqh]
      refine hTake (i := 5) (some 31) (v := ?_) (by rfl) (by kernel_rfl) (by kernel_rfl) (by kernel_rfl) (fun _ _ _ h => h) (by rfl) ?_ hH0 ?_
      rotate_left
      ·intro w hSw; (try dsimp only at hSw); go_simp <;> with_reducible rfl
      try simp only [Act.put, zqf, zqg, zqh]
      refine hTake (i := 6) (some 32) (v := ?_) (by rfl) (by kernel_rfl) (by kernel_rfl) (by kernel_rfl) (fun _ _ _ h => h) (by rfl) ?_ hH0 ?_
      rotate_left
      ·intro w hSw; (try dsimp only at hSw); go_simp <;> with_reducible rfl
      try simp only [Act.put, zqf, zqg, zqh]
      refine hTake (i := 7) (some 33) (v := ?_) (by rfl) (by kernel_rfl) (by kernel_rfl) (by kernel_rfl) (fun _ _ _ h => h) (by rfl) ?_ hH0 ?_
      rotate_left
      ·intro w hSw; (try dsimp only at hSw); go_simp <;> with_reducible rfl
      try simp only [Act.put, zqf, zqg, zqh]
      refine hTake (i := 8) (some 34) (v := ?_) (by rfl) (by kernel_rfl) (by kernel_rfl) (by kernel_rfl) (fun _ _ _ h => h) (by rfl) ?_ hH0 ?_
      rotate_left
      ·intro w hSw; (try dsimp only at hSw); go_simp <;> with_reducible rfl
      try simp only [Act.put, zqf, zqg, zqh]
      refine hTake (i := 9) (some 35) (v := ?_) (by rfl) (by kernel_rfl) (by kernel_rfl) (by kernel_rfl) (fun _ _ _ h => h) (by rfl) ?_ hH0 ?_
      rotate_left
      ·intro w hSw; (try dsimp only at hSw); go_simp <;> with_reducible rfl
      try simp only [Act.put, zqf, zqg, zqh]
      refine hOne 10 (by kernel_rfl) (fun K hK => ?_)
      go_simp
      refine (refAlike X Y ax cx lx dx ay cy ly dy _ (XL.out.below hH0.1) (YL.out.below hH0.1) bC bD bA bB).mono ?_
      rintro e w9 ⟨rfl, hb9⟩
      rw [HAL.out]
      (try dsimp only)
      refine hK.out _ _ ?_ (fun hH1 => ?_)
      ·exact ⟨hH0.1.trans (hb9.mono hH0.1.size), cell_below hb9 d0, cell_below hb9 d1, cell_below hb9 x0, cell_below hb9 x1, cell_below hb9 x2, cell_below hb9 x3, cell_below hb9 x4, cell_below hb9 y0, cell_below hb9 y1, cell_below hb9 y2, cell_below hb9 y3, cell_below hb9 y4⟩
      clear hK K hH0
      try simp only [Act.put, zqf, zqg, zqh]
      refine hTake (i := 11) (some 37) (v := ?_) (by rfl) (by kernel_rfl) (by kernel_rfl) (by kernel_rfl) (fun _ _ _ h => h) (by rfl) ?_ hH1 ?_
      rotate_left
      ·intro w hSw; (try dsimp only at hSw); go_simp <;> with_reducible rfl
      try simp only [Act.put, zqf, zqg, zqh]
      refine hTake (i := 12) (some 38) (v := ?_) (by rfl) (by kernel_rfl) (by kernel_rfl) (by kernel_rfl) (fun _ _ _ h => h) (by rfl) ?_ hH1 ?_
      rotate_left
      ·intro w hSw; (try dsimp only at hSw); go_simp <;> with_reducible rfl
      try simp only [Act.put, zqf, zqg, zqh]
      refine hTakeNo (i := 13) (some 39) (by rfl) (by kernel_rfl) (by kernel_rfl) (by kernel_rfl) (fun _ _ _ h => h) (by rfl) hH1 ?_
      try simp only [Act.put, zqf, zqg, zqh]
      refine hTakeNo (i := 14) (some 40) (by rfl) (by kernel_rfl) (by kernel_rfl) (by kernel_rfl) (fun _ _ _ h => h) (by rfl) hH1 ?_
      try simp only [Act.put, zqf, zqg, zqh]
      refine hTakeNo (i := 15) (some 41) (by rfl) (by kernel_rfl) (by kernel_rfl) (by kernel_rfl) (fun _ _ _ h => h) (by rfl) hH1 ?_
      try simp only [Act.put, zqf, zqg, zqh]
      refine hTakeNo (i := 16) (some 42) (by rfl) (by kernel_rfl) (by kernel_rfl) (by kernel_rfl) (fun _ _ _ h => h) (by rfl) hH1 ?_
      try simp only [Act.put, zqf, zqg, zqh]
      refine hTakeNo (i := 17) (some 43) (by rfl) (by kernel_rfl) (by kernel_rfl) (by kernel_rfl) (fun _ _ _ h => h) (by rfl) hH1 ?_
      try simp only [Act.put, zqf, zqg, zqh]
      refine hTakeNo (i := 18) (some 44) (by rfl) (by kernel_rfl) (by kernel_rfl) (by kernel_rfl) (fun _ _ _ h => h) (by rfl) hH1 ?_
      try simp only [Act.put, zqf, zqg, zqh]
      refine hTakeNo (i := 19) (some 45) (by rfl) (by kernel_rfl) (by kernel_rfl) (by kernel_rfl) (fun _ _ _ h => h) (by rfl) hH1 ?_
      try simp only [Act.put, zqf, zqg, zqh]
      refine hTakeNo (i := 20) (some 46) (by rfl) (by kernel_rfl) (by kernel_rfl) (by kernel_rfl) (fun _ _ _ h => h) (by rfl) hH1 ?_
      try simp only [Act.put, zqf, zqg, zqh]
      refine hTakeNo (i := 21) (some 47) (by rfl) (by kernel_rfl) (by kernel_rfl) (by kernel_rfl) (fun _ _ _ h => h) (by rfl) hH1 ?_
      try simp only [Act.put, zqf, zqg, zqh]
      refine hTakeNo (i := 22) (some 48) (by rfl) (by kernel_rfl) (by kernel_rfl) (by kernel_rfl) (fun _ _ _ h => h) (by rfl) hH1 ?_
      try simp only [Act.put, zqf, zqg, zqh]
      refine hTakeNo (i := 23) (some 49) (by rfl) (by kernel_rfl) (by kernel_rfl) (by kernel_rfl) (fun _ _ _ h => h) (by rfl) hH1 ?_
      try simp only [Act.put, zqf, zqg, zqh]
      refine hTakeNo (i := 24) (some 50) (by rfl) (by kernel_rfl) (by kernel_rfl) (by kernel_rfl) (fun _ _ _ h => h) (by rfl) hH1 ?_
      try simp only [Act.put, zqf, zqg, zqh]
      refine hTakeNo (i := 25) (some 51) (by rfl) (by kernel_rfl) (by kernel_rfl) (by kernel_rfl) (fun _ _ _ h => h) (by rfl) hH1 ?_
      try simp only [Act.put, zqf, zqg, zqh]
      refine hTakeNo (i := 26) (some 52) (by rfl) (by kernel_rfl) (by kernel_rfl) (by kernel_rfl) (fun _ _ _ h => h) (by rfl) hH1 ?_
      try simp only [Act.put, zqf, zqg, zqh]
      refine hTake (i := 27) (some 53) (v := ?_) (by rfl) (by kernel_rfl) (by kernel_rfl) (by kernel_rfl) (fun _ _ _ h => h) (by rfl) ?_ hH1 ?_
      rotate_left
      ·intro w hSw; (try dsimp only at hSw); go_simp <;> with_reducible rfl
      try simp only [Act.put, zqf, zqg, zqh]
      refine wpAnyH_done (by kernel_rfl) ?_ _
      have HB2 := Tre.hid hH1.1
      clear hH1
      go_wp2_with fail
      go_ret
      refine ⟨ret_bool (Eq.symm (decide_eq_false (fun e => ?_))), hb.out.trans (HB2.out.mono hb.out.size)⟩
      subst e
      have h1 := HX.out
      have h2 := HY.out
      rw [h1] at h2
      subst h2
      have h3 := HAL.out
      simp [alikeB] at h3
    ·have e : Hid (g = h) := graph_eq HR.out HL.out (fun i hi => hrel.out i (by omega))
     go_wp2_with fail
     go_ret
     exact ⟨ret_bool (Eq.symm (decide_eq_true e.out)), hb.out⟩
  ·have e_l : ((g.ns.length : Int) != (h.ns.length : Int)) = true := by rw [bne_iff_ne]; omega
   have e : Hid (¬ g = h) := fun e => hl (by rw [e])
   clear hg hh hr hl
   go_enter Tryz.func12, Tryz.ntmps12
   go_wp2_with fail
   go_ret
   exact ⟨ret_bool (Eq.symm (decide_eq_false e.out)), b2⟩
 ·have e_r : (g.root != h.root) = true := by rw [bne_iff_ne]; exact hr
  have e : Hid (¬ g = h) := fun e => hr (by rw [e])
  clear hg hh hr
  go_enter Tryz.func12, Tryz.ntmps12
  go_wp2_with fail
  go_ret
  exact ⟨ret_bool (Eq.symm (decide_eq_false e.out)), b2⟩
end Go.Proofs.YtljmcmdabdlldaaGreatDoor.gr
