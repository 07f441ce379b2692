/- graph.Check, by its parts: slices.IndexFunc and ContainsFunc over nodes. slices.Equal over strings; graph.alike, graph.free. Which graphs are the same: pairs of nodes that must be matched; what the going through of pairs keeps. No program in sight. What is reached, in order: plain. Keys that are pairs of nodes, and numbers. Helpers on rows, cells and being the same. -/
import Derived.Test.YtljmcmdabdlldaaGreatDoorB02
import Derived.Deep.QuietTactic
import Derived.BigQuiet
import Derived.WalkSmall
import Derived.DeepKeys4
import Derived.DeepKeys5
import Derived.BigRegion
import Derived.Deep.LoopGhost
import Derived.Deep.DeepCutAuto
import Derived.OpenShut
import Derived.Deep.RegionHeld3
import Derived.Deep.AppendLies
import Derived.Deep.DrawnRows
set_option linter.unusedVariables false
namespace Go.Tre
def Graph.checkC (g : Graph) : Int := if 1048576 < g.ns.length then 3 else if g.root < 0 ∨ (g.ns.length : Int) ≤ g.root ∨ g.ns.any (fun n => !mayB n g.ns.length) = true then 2 else 0
theorem node_weight {n : Tre.Node} {l : List Tre.Node} (h : n ∈ l) : n.weight ≤ (l.map Tre.Node.weight).sum := by
 induction l with
 | nil => cases h
 | cons x r ih =>
  simp only [List.map_cons, List.sum_cons]
  rcases List.mem_cons.1 h with rfl | h
  ·omega
  ·have := ih h; omega
end Go.Tre
namespace Go.Proofs.YtljmcmdabdlldaaGreatDoor.gr
open Go.RowKit Go.Maps Go.Tre lex

set_option maxHeartbeats 2000000 in
theorem indexNodes (F : Nat) (caps : Array Value) (hcf : ∀ (args : Array Value) (w : World), (callFunc F args).run Tryz.prog w = .ok (.enter F args) w) (p : Tre.Node → Bool)
  (a : Option Addr) (cap : Nat) (xs : List Tre.Node) (w : World) (hx : NodesAt w a xs) (hlen : xs.length ≤ 8388608)
  (hF : ∀ n aa ca al cl wx, n ∈ xs → Below w.heap.size w wx → IntsAt wx aa n.args → StrsAt wx al n.labels →
   Calls Tryz.prog F (#[.agg #[.int .i64 n.kind, .string n.name, .slice aa n.args.length ca, .slice al n.labels.length cl, .bool n.isOpen]] ++ caps) wx fun e w' => e = .returned (.bool (p n)) ∧ Below wx.heap.size wx w') :
  Calls Tryz.prog 51 #[.slice a xs.length cap, .func (.func F) #[] caps] w fun e w' => e = .returned (.int .i64 (idxFunc p xs)) ∧ Below w.heap.size w w' := by
 have HF := Tre.hid hF
 clear hF
 go_enter Tryz.func51, Tryz.ntmps51
 go_wp2_with fail
 go_loopw [8] (fun i wr => ∃ k : Nat, k ≤ xs.length ∧ i = .int .i64 k ∧ (∀ j (hj : j < xs.length), j < k → p xs[j] = false) ∧ Below w.heap.size w wr) (fun i _ => xs.length - (intOf i).toNat)
 case atStart => exact ⟨0, Nat.zero_le _, rfl, fun j _ h => by omega, Below.refl _ _⟩
 case round =>
  obtain ⟨k, hk, rfl, hrel, hb⟩ := hrel
  have HR := Tre.hid hrel
  clear hrel
  by_cases hlt : k < xs.length
  ·obtain ⟨b, off, rfl, hn⟩ := (hx.below hb).at_ k _ (List.getElem?_eq_getElem hlt)
   have hmem := List.getElem_mem hlt
   obtain ⟨aa, ca, al, cl, h0, h1, h2, h3, h4, h5, h6, _, _⟩ := hn
   have H5 := Tre.hid h5
   have H6 := Tre.hid h6
   clear h5 h6
   by_cases hp : p xs[k] = true
   ·have HO := Tre.hid (idxFunc_hit hlt hp HR.out)
    go_wp2_with fail
    refine (HF.out xs[k] aa ca al cl _ hmem hb H5.out H6.out).mono ?_
    rintro e w' ⟨rfl, hb'⟩
    go_wp2_with fail
    go_ret
    exact ⟨ret_int HO.out.symm, hb.trans (hb'.mono hb.size)⟩
   ·have hp' : p xs[k] = false := by simpa using hp
    have HP := Tre.hid hp'
    clear hp
    go_wp2_with fail
    refine (HF.out xs[k] aa ca al cl _ hmem hb H5.out H6.out).mono ?_
    rintro e w' ⟨rfl, hb'⟩
    go_wp2_with fail
    go_roundw
    case rel =>
     refine ⟨k + 1, by omega, by go_num, fun j hj hjk => ?_, hb.trans (hb'.mono hb.size)⟩
     by_cases e : j = k
     ·subst e; exact HP.out
     ·exact HR.out j hj (by omega)
    case measure => simp [intOf]; omega
  ·have HO := Tre.hid (idxFunc_miss (p := p) (xs := xs) (fun j hj => HR.out j hj (by omega)))
   go_wp2_with fail
   go_ret
   exact ⟨ret_int HO.out.symm, hb⟩

set_option maxHeartbeats 1000000 in
theorem containsNodes (F : Nat) (caps : Array Value) (hcf : ∀ (args : Array Value) (w : World), (callFunc F args).run Tryz.prog w = .ok (.enter F args) w) (p : Tre.Node → Bool)
  (a : Option Addr) (cap : Nat) (xs : List Tre.Node) (w : World) (hx : NodesAt w a xs) (hlen : xs.length ≤ 8388608)
  (hF : ∀ n aa ca al cl wx, n ∈ xs → Below w.heap.size w wx → IntsAt wx aa n.args → StrsAt wx al n.labels →
   Calls Tryz.prog F (#[.agg #[.int .i64 n.kind, .string n.name, .slice aa n.args.length ca, .slice al n.labels.length cl, .bool n.isOpen]] ++ caps) wx fun e w' => e = .returned (.bool (p n)) ∧ Below wx.heap.size wx w') :
  Calls Tryz.prog 27 #[.slice a xs.length cap, .func (.func F) #[] caps] w fun e w' => e = .returned (.bool (xs.any p)) ∧ Below w.heap.size w w' := by
 have HI := Tre.hid (indexNodes F caps hcf p a cap xs w hx hlen hF)
 have HA := Tre.hid (idxFunc_any p xs)
 clear hF hx hcf
 go_enter Tryz.func27, Tryz.ntmps27
 go_wp2_with fail
 refine HI.out.mono ?_
 rintro e w' ⟨rfl, hb'⟩
 go_wp2_with fail
 go_ret
 exact ⟨ret_bool HA.out, hb'⟩

theorem cell_new1 (w : World) (cs : Array Value) (t : TypeId) (j : Nat) (u : Value) (h : cs[j]? = some u) : (w.alloc (.cells cs t)).cell? ⟨w.heap.size, j, none⟩ = some u := by
 have h1 : (w.alloc (.cells cs t)).heap[w.heap.size]? = some (.cells cs t) := heap_alloc_new w _
 simp only [World.cell?, h1]; exact h
theorem hcfC (args : Array Value) (w : World) : (callFunc 25 args).run Tryz.prog w = .ok (.enter 25 args) w := by kernel_rfl

set_option maxHeartbeats 1000000 in
theorem check1 (n : Tre.Node) (aa : Option Addr) (ca : Nat) (al : Option Addr) (cl : Nat) (bg bm b : Nat) (an : Option Addr) (size cap : Nat) (w : World) (ha : IntsAt w aa n.args) (hl : StrsAt w al n.labels) (hw : n.weight ≤ 8388608)
  (hg : w.cell? ⟨bg, 0, none⟩ = some (.slice an size cap)) (hb : w.cell? ⟨bm, 0, none⟩ = some (.map (some b)))
  (hmap : MapIs Tryz.prog 9 Value.string ei w b 6 arity) (hm : MaxAt w) :
  Calls Tryz.prog 25 #[.agg #[.int .i64 n.kind, .string n.name, .slice aa n.args.length ca, .slice al n.labels.length cl, .bool n.isOpen], .pointer (some ⟨bg, 0, none⟩), .pointer (some ⟨bm, 0, none⟩)] w
   fun e w' => e = .returned (.bool (!mayB n size)) ∧ Below w.heap.size w w' := by
 have bb : Below w.heap.size w (w.alloc (.cells #[.int .i64 n.kind, .string n.name, .slice aa n.args.length ca, .slice al n.labels.length cl, .bool n.isOpen] 39)) := (Below.refl _ _).alloc (Nat.le_refl _) _
 have C := Tre.hid (may_any n size aa ca al cl b _ (ha.below bb) (hl.below bb) hw (hmap.alloc _) (hm.below bb))
 have hg' := cell_below bb hg
 have hb' := cell_below bb hb
 clear ha hl hmap hm bb hg hb
 go_enter Tryz.func25, Tryz.ntmps25
 go_wp2_with fail
 refine C.out.mono ?_
 rintro e w1 ⟨rfl, b1⟩
 go_wp2_with fail
 go_ret
 exact ⟨rfl, after1 b1⟩

theorem after_two {w w0 w1 : World} (h0 : Below w.heap.size w w0) (h1 : Below w0.heap.size w0 w1) : Below w.heap.size w w1 := h0.trans (h1.mono h0.size)

set_option maxHeartbeats 2000000 in
theorem check_any (a : Option Addr) (cap : Nat) (g : Tre.Graph) (w : World) (hn : NodesAt w a g.ns) (hw : g.weight ≤ 8388608) (hm : MaxAt w) :
  Calls Tryz.prog 11 #[.agg #[.slice a g.ns.length cap, .int .i64 g.root]] w fun e w' => e = .returned (.int .i64 g.checkC) ∧ Below w.heap.size w w' := by
 have hlen : g.ns.length ≤ 8388608 := Nat.le_trans (length_le_sum _ (fun x => by unfold Tre.Node.weight; omega) _) hw
 have b0 : Below w.heap.size w (w.alloc (.cells #[.slice a g.ns.length cap, .int .i64 g.root] 33)) := (Below.refl _ _).alloc (Nat.le_refl _) _
 by_cases hl : 1048576 < g.ns.length
 ·have H : Hid (g.checkC = 3) := by show _ = _; unfold Tre.Graph.checkC; rw [if_pos hl]
  go_enter Tryz.func11, Tryz.ntmps11
  go_wp2_with fail
  go_ret
  exact ⟨ret_int (by rw [H.out]), b0⟩
 ·have HN := Tre.hid (hn.below b0)
  have HM := Tre.hid (hm.below b0)
  clear hn hm
  by_cases hr0 : g.root < 0
  ·have H : Hid (g.checkC = 2) := by show _ = _; unfold Tre.Graph.checkC; rw [if_neg hl, if_pos (.inl hr0)]
   go_enter Tryz.func11, Tryz.ntmps11
   go_wp2_with fail
   refine (arity_any _).mono ?_
   rintro e w1 ⟨rfl, m1, b1⟩
   have B1 := after_two b0 b1
   have hz : w.heap.size < w1.heap.size := by have := b1.size; simp at this; omega
   have g0 : w1.cell? ⟨w.heap.size, 0, none⟩ = some (.slice a g.ns.length cap) := cell_below b1 (cell_new1 w _ _ 0 _ rfl)
   have g1 : w1.cell? ⟨w.heap.size, 1, none⟩ = some (.int .i64 g.root) := cell_below b1 (cell_new1 w _ _ 1 _ rfl)
   have MM := Tre.hid m1
   have BB := Tre.hid b1
   clear b1 m1
   go_wp2_with fail
   go_ret
   exact ⟨ret_int (by rw [H.out]), B1.alloc B1.size _⟩
  by_cases hr1 : (g.ns.length : Int) ≤ g.root
  ·have H : Hid (g.checkC = 2) := by show _ = _; unfold Tre.Graph.checkC; rw [if_neg hl, if_pos (.inr (.inl hr1))]
   go_enter Tryz.func11, Tryz.ntmps11
   go_wp2_with fail
   refine (arity_any _).mono ?_
   rintro e w1 ⟨rfl, m1, b1⟩
   have B1 := after_two b0 b1
   have hz : w.heap.size < w1.heap.size := by have := b1.size; simp at this; omega
   have g0 : w1.cell? ⟨w.heap.size, 0, none⟩ = some (.slice a g.ns.length cap) := cell_below b1 (cell_new1 w _ _ 0 _ rfl)
   have g1 : w1.cell? ⟨w.heap.size, 1, none⟩ = some (.int .i64 g.root) := cell_below b1 (cell_new1 w _ _ 1 _ rfl)
   have MM := Tre.hid m1
   have BB := Tre.hid b1
   clear b1 m1
   go_wp2_with fail
   go_ret
   exact ⟨ret_int (by rw [H.out]), B1.alloc B1.size _⟩
  have H2 : Hid (g.checkC = if g.ns.any (fun n => !mayB n g.ns.length) = true then 2 else 0) := by
   show _ = _
   unfold Tre.Graph.checkC
   rw [if_neg hl]
   by_cases hy : g.ns.any (fun n => !mayB n g.ns.length) = true
   ·rw [if_pos (.inr (.inr hy)), if_pos hy]
   ·rw [if_neg (by rintro (h | h | h) <;> contradiction), if_neg hy]
  by_cases hy : g.ns.any (fun n => !mayB n g.ns.length) = true
  ·have H : Hid (g.checkC = 2) := by show _ = _; unfold Tre.Graph.checkC; rw [if_neg hl, if_pos (.inr (.inr hy))]
   have HY := Tre.hid hy
   clear hy
   go_enter Tryz.func11, Tryz.ntmps11
   go_wp2_with fail
   refine (arity_any _).mono ?_
   rintro e w1 ⟨rfl, m1, b1⟩
   have B1 := after_two b0 b1
   have hz : w.heap.size < w1.heap.size := by have := b1.size; simp at this; omega
   have g0 : w1.cell? ⟨w.heap.size, 0, none⟩ = some (.slice a g.ns.length cap) := cell_below b1 (cell_new1 w _ _ 0 _ rfl)
   have g1 : w1.cell? ⟨w.heap.size, 1, none⟩ = some (.int .i64 g.root) := cell_below b1 (cell_new1 w _ _ 1 _ rfl)
   have MM := Tre.hid m1
   have BB := Tre.hid b1
   clear b1 m1
   go_wp2_with fail
   have z0 := Below.alloc (Below.refl w1.heap.size w1) (Nat.le_refl _) (.cells #[.map (some (w.heap.size + 1))] 68)
   have q0 : (w1.alloc (.cells #[.map (some (w.heap.size + 1))] 68)).cell? ⟨w.heap.size, 0, none⟩ = some (.slice a g.ns.length cap) := cell_below z0 g0
   have q1 : (w1.alloc (.cells #[.map (some (w.heap.size + 1))] 68)).cell? ⟨w1.heap.size, 0, none⟩ = some (.map (some (w.heap.size + 1))) := cell_new1 w1 _ _ 0 _ rfl
   have B2 := B1.alloc B1.size (.cells #[.map (some (w.heap.size + 1))] 68)
   have mm := MM.out.alloc (.cells #[.map (some (w.heap.size + 1))] 68)
   rw [World.size_alloc] at mm
   have C0 : Below (w.alloc (.cells #[.slice a g.ns.length cap, .int .i64 g.root] 33)).heap.size (w.alloc (.cells #[.slice a g.ns.length cap, .int .i64 g.root] 33)) (w1.alloc (.cells #[.map (some (w.heap.size + 1))] 68)) := BB.out.alloc BB.out.size _
   refine (containsNodes 25 #[.pointer (some ⟨w.heap.size, 0, none⟩), .pointer (some ⟨w1.heap.size, 0, none⟩)] hcfC (fun n => !mayB n g.ns.length) a cap g.ns _ (HN.out.below C0) hlen
    (fun n aa ca al cl wx hmem hbx hia hil => check1 n aa ca al cl _ _ _ a _ cap wx hia hil (Nat.le_trans (node_weight hmem) hw) (cell_below hbx q0) (cell_below hbx q1) (mm.block (hbx.block _ mm.lt)) ((HM.out.below C0).below hbx))).mono ?_
   rintro e w2 ⟨rfl, b2⟩
   have B3 := after_two B2 b2
   clear b2 C0 mm B2 q0 q1 z0
   have HY2 : g.ns.any (fun n => !mayB n g.ns.length) = true := HY.out
   go_wp2_with fail
   go_ret
   exact ⟨ret_int (by rw [H.out]), B3⟩
  ·have HY : Hid (g.ns.any (fun n => !mayB n g.ns.length) = false) := by show _ = _; simpa using hy
   have H : Hid (g.checkC = 0) := by show _ = _; rw [H2.out, if_neg hy]
   clear hy
   go_enter Tryz.func11, Tryz.ntmps11
   go_wp2_with fail
   refine (arity_any _).mono ?_
   rintro e w1 ⟨rfl, m1, b1⟩
   have B1 := after_two b0 b1
   have hz : w.heap.size < w1.heap.size := by have := b1.size; simp at this; omega
   have g0 : w1.cell? ⟨w.heap.size, 0, none⟩ = some (.slice a g.ns.length cap) := cell_below b1 (cell_new1 w _ _ 0 _ rfl)
   have g1 : w1.cell? ⟨w.heap.size, 1, none⟩ = some (.int .i64 g.root) := cell_below b1 (cell_new1 w _ _ 1 _ rfl)
   have MM := Tre.hid m1
   have BB := Tre.hid b1
   clear b1 m1
   go_wp2_with fail
   have z0 := Below.alloc (Below.refl w1.heap.size w1) (Nat.le_refl _) (.cells #[.map (some (w.heap.size + 1))] 68)
   have q0 : (w1.alloc (.cells #[.map (some (w.heap.size + 1))] 68)).cell? ⟨w.heap.size, 0, none⟩ = some (.slice a g.ns.length cap) := cell_below z0 g0
   have q1 : (w1.alloc (.cells #[.map (some (w.heap.size + 1))] 68)).cell? ⟨w1.heap.size, 0, none⟩ = some (.map (some (w.heap.size + 1))) := cell_new1 w1 _ _ 0 _ rfl
   have B2 := B1.alloc B1.size (.cells #[.map (some (w.heap.size + 1))] 68)
   have mm := MM.out.alloc (.cells #[.map (some (w.heap.size + 1))] 68)
   rw [World.size_alloc] at mm
   have C0 : Below (w.alloc (.cells #[.slice a g.ns.length cap, .int .i64 g.root] 33)).heap.size (w.alloc (.cells #[.slice a g.ns.length cap, .int .i64 g.root] 33)) (w1.alloc (.cells #[.map (some (w.heap.size + 1))] 68)) := BB.out.alloc BB.out.size _
   refine (containsNodes 25 #[.pointer (some ⟨w.heap.size, 0, none⟩), .pointer (some ⟨w1.heap.size, 0, none⟩)] hcfC (fun n => !mayB n g.ns.length) a cap g.ns _ (HN.out.below C0) hlen
    (fun n aa ca al cl wx hmem hbx hia hil => check1 n aa ca al cl _ _ _ a _ cap wx hia hil (Nat.le_trans (node_weight hmem) hw) (cell_below hbx q0) (cell_below hbx q1) (mm.block (hbx.block _ mm.lt)) ((HM.out.below C0).below hbx))).mono ?_
   rintro e w2 ⟨rfl, b2⟩
   have B3 := after_two B2 b2
   clear b2 C0 mm B2 q0 q1 z0
   have HY2 : g.ns.any (fun n => !mayB n g.ns.length) = false := HY.out
   go_wp2_with fail
   go_ret
   exact ⟨ret_int (by rw [H.out]), B3⟩
end Go.Proofs.YtljmcmdabdlldaaGreatDoor.gr
namespace Go.Tre
def alikeB (x y : Tre.Node) : Bool := decide (x.kind = y.kind) && decide (x.name = y.name) && decide (x.isOpen = y.isOpen) && decide (x.args.length = y.args.length) && decide (x.labels = y.labels)
def freeB (n : Tre.Node) : Bool := decide (n.kind = 1) || (decide (n.kind = 3) && n.isOpen)
end Go.Tre
namespace Go.Proofs.YtljmcmdabdlldaaGreatDoor.gr
open Go.RowKit Go.Maps Go.Tre lex

theorem str_eq {a b : ByteArray} : (a.toList == b.toList) = decide (a = b) := by
 rw [Bool.eq_iff_iff, beq_iff_eq, decide_eq_true_iff, ByteArray.toList_eq, ByteArray.toList_eq]
 constructor
 ·intro h
  cases a; cases b
  simp only [ByteArray.mk.injEq]
  exact Array.toList_inj.1 h
 ·rintro rfl; rfl

abbrev nodeObj (n : Tre.Node) (aa : Option Addr) (ca : Nat) (al : Option Addr) (cl : Nat) : Obj := .cells #[.int .i64 n.kind, .string n.name, .slice aa n.args.length ca, .slice al n.labels.length cl, .bool n.isOpen] 39
abbrev nodeVal (n : Tre.Node) (aa : Option Addr) (ca : Nat) (al : Option Addr) (cl : Nat) : Value := .agg #[.int .i64 n.kind, .string n.name, .slice aa n.args.length ca, .slice al n.labels.length cl, .bool n.isOpen]

end Go.Proofs.YtljmcmdabdlldaaGreatDoor.gr
namespace Go.Tre
instance : DecidableEq Tre.Node := fun x y => decidable_of_iff (x.kind = y.kind ∧ x.name = y.name ∧ x.args = y.args ∧ x.labels = y.labels ∧ x.isOpen = y.isOpen) (by cases x; cases y; simp)
instance : DecidableEq Tre.Graph := fun x y => decidable_of_iff (x.ns = y.ns ∧ x.root = y.root) (by cases x; cases y; simp)
def dummy : Tre.Node := ⟨0, ByteArray.empty, [], [], false⟩
def Graph.nd (g : Tre.Graph) (a : Nat) : Tre.Node := g.ns.getD a dummy
def Graph.kid (g : Tre.Graph) (a i : Nat) : Nat := ((g.nd a).args.getD i 0).toNat
def Graph.deg (g : Tre.Graph) (a : Nat) : Nat := (g.nd a).args.length
theorem Graph.nd_eq {g : Tre.Graph} {a : Nat} (h : a < g.ns.length) : g.nd a = g.ns[a] := by
 unfold Graph.nd; rw [List.getD_eq_getElem?_getD, List.getElem?_eq_getElem h]; rfl

structure Graph.Ok (g : Tre.Graph) : Prop where
 root0 : 0 ≤ g.root
 root1 : g.root.toNat < g.ns.length
 may : ∀ a, a < g.ns.length → mayB (g.nd a) g.ns.length = true
 len : g.ns.length ≤ 1048576
theorem Graph.ok_of {g : Tre.Graph} (h : g.checkC = 0) : g.Ok := by
 unfold Graph.checkC at h
 by_cases hl : 1048576 < g.ns.length
 ·rw [if_pos hl] at h; cases h
 rw [if_neg hl] at h
 by_cases hr : g.root < 0 ∨ (g.ns.length : Int) ≤ g.root ∨ g.ns.any (fun n => !mayB n g.ns.length) = true
 ·rw [if_pos hr] at h; cases h
 ·have h1 : ¬ g.root < 0 := fun e => hr (.inl e)
  have h2 : ¬ (g.ns.length : Int) ≤ g.root := fun e => hr (.inr (.inl e))
  refine ⟨by omega, by omega, fun a ha => ?_, by omega⟩
  rw [Graph.nd_eq ha]
  cases hm : mayB g.ns[a] g.ns.length
  ·exact absurd (List.any_eq_true.2 ⟨g.ns[a], List.getElem_mem ha, by rw [hm]; rfl⟩) (fun e => hr (.inr (.inr e)))
  ·rfl
theorem Graph.Ok.arg {g : Tre.Graph} (h : g.Ok) {a i : Nat} (ha : a < g.ns.length) (hi : i < g.deg a) : ∃ k : Nat, (g.nd a).args[i]? = some (k : Int) ∧ k = g.kid a i ∧ k < g.ns.length := by
 have hm := h.may a ha
 unfold mayB at hm
 have h1 : (g.nd a).args.any (outside g.ns.length) = false := by
  cases hy : (g.nd a).args.any (outside g.ns.length)
  ·rfl
  ·rw [hy] at hm; simp at hm
 have hmem : (g.nd a).args[i] ∈ (g.nd a).args := List.getElem_mem hi
 have h2 : outside g.ns.length (g.nd a).args[i] = false := by
  cases hy : outside g.ns.length (g.nd a).args[i]
  ·rfl
  ·rw [List.any_eq_true.2 ⟨_, hmem, hy⟩] at h1; cases h1
 unfold outside at h2
 simp only [Bool.or_eq_false_iff, decide_eq_false_iff_not] at h2
 have e : g.kid a i = (g.nd a).args[i].toNat := by
  unfold Graph.kid; rw [List.getD_eq_getElem?_getD, List.getElem?_eq_getElem hi]; rfl
 refine ⟨(g.nd a).args[i].toNat, ?_, e.symm, by omega⟩
 rw [List.getElem?_eq_getElem hi]
 congr 1
 omega
theorem Graph.Ok.kid_lt {g : Tre.Graph} (h : g.Ok) {a i : Nat} (ha : a < g.ns.length) (hi : i < g.deg a) : g.kid a i < g.ns.length := by
 obtain ⟨k, _, rfl, hk⟩ := h.arg ha hi
 exact hk

inductive RP (g h : Tre.Graph) : Nat → Nat → Prop where
 | root : RP g h g.root.toNat h.root.toNat
 | kid {a b i : Nat} : RP g h a b → i < g.deg a → i < h.deg b → RP g h (g.kid a i) (h.kid b i)

structure SameG (g h : Tre.Graph) : Prop where
 okg : g.checkC = 0
 okh : h.checkC = 0
 alike : ∀ a b, RP g h a b → alikeB (g.nd a) (h.nd b) = true
 one : ∀ a b a' b', RP g h a b → RP g h a' b' → freeB (g.nd a) = true → (a = a' ↔ b = b')

open Classical in
noncomputable def sameB (g h : Tre.Graph) : Bool := decide (SameG g h)

theorem RP.lt {g h : Tre.Graph} (og : g.Ok) (oh : h.Ok) {a b : Nat} (r : RP g h a b) : a < g.ns.length ∧ b < h.ns.length := by
 induction r with
 | root => exact ⟨og.root1, oh.root1⟩
 | kid _ h1 h2 ih => exact ⟨og.kid_lt ih.1 h1, oh.kid_lt ih.2 h2⟩

theorem alike_deg {x y : Tre.Node} (h : alikeB x y = true) : x.args.length = y.args.length := by
 unfold alikeB at h
 simp only [Bool.and_eq_true, decide_eq_true_eq] at h
 exact h.1.2
theorem alike_free {x y : Tre.Node} (h : alikeB x y = true) : freeB x = freeB y := by
 unfold alikeB at h
 simp only [Bool.and_eq_true, decide_eq_true_eq] at h
 unfold freeB
 rw [h.1.1.1.1, h.1.1.2]

structure Inv (g h : Tre.Graph) (ex : Nat × Nat → Nat → Prop) (l : List (Nat × Nat)) (m : Nat × Nat → Option Unit) (f bk : Nat → Option Nat) : Prop where
 rl : ∀ p ∈ l, RP g h p.1 p.2
 rm : ∀ p, m p ≠ none → RP g h p.1 p.2
 root : (g.root.toNat, h.root.toNat) ∈ l ∨ m (g.root.toNat, h.root.toNat) ≠ none
 alike : ∀ p, m p ≠ none → alikeB (g.nd p.1) (h.nd p.2) = true
 kids : ∀ p, m p ≠ none → ∀ i, i < g.deg p.1 → ¬ ex p i → (g.kid p.1 i, h.kid p.2 i) ∈ l ∨ m (g.kid p.1 i, h.kid p.2 i) ≠ none
 fr : ∀ p, m p ≠ none → freeB (g.nd p.1) = true → f p.1 = some p.2 ∧ bk p.2 = some p.1
 fo : ∀ a b, f a = some b → m (a, b) ≠ none ∧ freeB (g.nd a) = true
 ba : ∀ b a, bk b = some a → m (a, b) ≠ none ∧ freeB (g.nd a) = true

def noEx : Nat × Nat → Nat → Prop := fun _ _ => False

theorem upd_same {α β : Type} [DecidableEq α] (m : α → Option β) (a : α) (x : β) : upd m a x a = some x := by simp [upd]
theorem upd_ne {α β : Type} [DecidableEq α] (m : α → Option β) {a a' : α} (x : β) (h : a' ≠ a) : upd m a x a' = m a' := by simp [upd, h]
theorem upd_some {α β : Type} [DecidableEq α] {m : α → Option β} {a a' : α} {x : β} (h : m a' ≠ none) : upd m a x a' ≠ none := by
 unfold upd
 split
 ·simp
 ·exact h

section
variable {g h : Tre.Graph} {l : List (Nat × Nat)} {m : Nat × Nat → Option Unit} {f bk : Nat → Option Nat} {p : Nat × Nat}

theorem Inv.start : Inv g h noEx [(g.root.toNat, h.root.toNat)] (fun _ => none) (fun _ => none) (fun _ => none) :=
 ⟨by rintro p hp; simp at hp; subst hp; exact .root, fun p e => absurd rfl e, .inl (by simp), fun p e => absurd rfl e, fun p e => absurd rfl e, fun p e => absurd rfl e, by simp, by simp⟩

theorem Inv.skip (I : Inv g h noEx (l ++ [p]) m f bk) (hp : m p ≠ none) : Inv g h noEx l m f bk := by
 refine ⟨fun q hq => I.rl q (by simp [hq]), I.rm, ?_, I.alike, fun q hq i hi he => ?_, I.fr, I.fo, I.ba⟩
 ·rcases I.root with h1 | h1
  ·rcases List.mem_append.1 h1 with h1 | h1
   ·exact .inl h1
   ·simp at h1; rw [h1]; exact .inr hp
  ·exact .inr h1
 ·rcases I.kids q hq i hi he with h1 | h1
  ·rcases List.mem_append.1 h1 with h1 | h1
   ·exact .inl h1
   ·simp at h1; rw [h1]; exact .inr hp
  ·exact .inr h1

theorem Inv.mark (I : Inv g h noEx (l ++ [p]) m f bk) (ha : alikeB (g.nd p.1) (h.nd p.2) = true) (hfr : freeB (g.nd p.1) = false) :
  Inv g h (fun q _ => q = p) l (upd m p ()) f bk := by
 have keep : ∀ q, upd m p () q ≠ none → q = p ∨ m q ≠ none := fun q hq => by
  by_cases e : q = p
  ·exact .inl e
  ·rw [upd_ne m () e] at hq; exact .inr hq
 have rp : RP g h p.1 p.2 := I.rl p (by simp)
 refine ⟨fun q hq => I.rl q (by simp [hq]), fun q hq => ?_, ?_, fun q hq => ?_, fun q hq i hi he => ?_, fun q hq hf => ?_, fun a b e => ⟨upd_some (I.fo a b e).1, (I.fo a b e).2⟩, fun b a e => ⟨upd_some (I.ba b a e).1, (I.ba b a e).2⟩⟩
 ·rcases keep q hq with rfl | h1
  ·exact rp
  ·exact I.rm q h1
 ·rcases I.root with h1 | h1
  ·rcases List.mem_append.1 h1 with h1 | h1
   ·exact .inl h1
   ·simp at h1; rw [h1]; exact .inr (by rw [upd_same]; simp)
  ·exact .inr (upd_some h1)
 ·rcases keep q hq with rfl | h1
  ·exact ha
  ·exact I.alike q h1
 ·rcases keep q hq with rfl | h1
  ·exact absurd rfl he
  ·rcases I.kids q h1 i hi (fun e => e) with h2 | h2
   ·rcases List.mem_append.1 h2 with h2 | h2
    ·exact .inl h2
    ·simp at h2; rw [h2]; exact .inr (by rw [upd_same]; simp)
   ·exact .inr (upd_some h2)
 ·rcases keep q hq with rfl | h1
  ·rw [hfr] at hf; cases hf
  ·exact I.fr q h1 hf

theorem Inv.more {j : Nat} (I : Inv g h (fun q i => q = p ∧ j ≤ i) l m f bk) (hp : m p ≠ none) (h1 : j < g.deg p.1) (h2 : j < h.deg p.2) :
  Inv g h (fun q i => q = p ∧ j + 1 ≤ i) (l ++ [(g.kid p.1 j, h.kid p.2 j)]) m f bk := by
 refine ⟨fun q hq => ?_, I.rm, ?_, I.alike, fun q hq i hi he => ?_, I.fr, I.fo, I.ba⟩
 ·rcases List.mem_append.1 hq with hq | hq
  ·exact I.rl q hq
  ·simp at hq; subst hq; exact .kid (I.rm p hp) h1 h2
 ·rcases I.root with h1 | h1
  ·exact .inl (by simp [h1])
  ·exact .inr h1
 ·by_cases hj : q = p ∧ i = j
  ·obtain ⟨rfl, rfl⟩ := hj
   exact .inl (by simp)
  ·rcases I.kids q hq i hi (fun e => he ⟨e.1, by have := e.2; have : i ≠ j := fun e' => hj ⟨e.1, e'⟩; omega⟩) with h3 | h3
   ·exact .inl (by simp [h3])
   ·exact .inr h3
theorem Inv.first (I : Inv g h (fun q _ => q = p) l m f bk) : Inv g h (fun q i => q = p ∧ 0 ≤ i) l m f bk :=
 { I with kids := fun q hq i hi he => I.kids q hq i hi (fun e => he ⟨e, Nat.zero_le _⟩) }
theorem Inv.last {j : Nat} (I : Inv g h (fun q i => q = p ∧ j ≤ i) l m f bk) (hj : g.deg p.1 ≤ j) : Inv g h noEx l m f bk :=
 { I with kids := fun q hq i hi _ => I.kids q hq i hi (fun e => by have := e.2; rw [e.1] at hi; omega) }

theorem Inv.done (I : Inv g h noEx [] m f bk) (c0 : g.checkC = 0) (c1 : h.checkC = 0) : SameG g h := by
 have all : ∀ a b, RP g h a b → m (a, b) ≠ none := fun a b r => by
  induction r with
  | root => exact I.root.resolve_left (by simp)
  | kid _ h1 _ ih => exact (I.kids _ ih _ h1 (fun e => e)).resolve_left (by simp)
 refine ⟨c0, c1, fun a b r => I.alike _ (all a b r), fun a b a' b' r r' hf => ⟨fun e => ?_, fun e => ?_⟩⟩
 ·subst e
  have e1 := (I.fr _ (all a b r) hf).1
  have e2 := (I.fr _ (all a b' r') hf).1
  simp only at e1 e2
  rw [e1] at e2
  exact Option.some.inj e2
 ·subst e
  have ha := I.alike _ (all a b r)
  have ha' := I.alike _ (all a' b r')
  have hf' : freeB (g.nd a') = true := by
   have h1 := alike_free ha
   have h2 := alike_free ha'
   simp only at h1 h2
   rw [h2, ← h1, hf]
  have e1 := (I.fr _ (all a b r) hf).2
  have e2 := (I.fr _ (all a' b r') hf').2
  simp only at e1 e2
  rw [e1] at e2
  exact Option.some.inj e2
end

/-! how many rounds at the most -/
def univ (n k : Nat) : List (Nat × Nat) := (List.range n).flatMap fun a => (List.range k).map fun b => (a, b)
def wgt (g : Tre.Graph) (m : Nat × Nat → Option Unit) (q : Nat × Nat) : Nat := if m q = none then g.deg q.1 else 0
def left (g h : Tre.Graph) (m : Nat × Nat → Option Unit) : Nat := ((univ g.ns.length h.ns.length).map (wgt g m)).sum
theorem sum_upd {α : Type} (F G : α → Nat) (p : α) : ∀ L : List α, L.Nodup → p ∈ L → (∀ q, q ≠ p → F q = G q) → (L.map F).sum + G p = (L.map G).sum + F p
 | [], _, h, _ => by cases h
 | x :: r, hn, h, he => by
  have hx := List.nodup_cons.1 hn
  simp only [List.map_cons, List.sum_cons]
  rcases List.mem_cons.1 h with rfl | h
  ·have : r.map F = r.map G := List.map_congr_left (fun q hq => he q (fun e => hx.1 (e ▸ hq)))
   rw [this]; omega
  ·have := sum_upd F G p r hx.2 h he
   have hxp : x ≠ p := fun e => hx.1 (e ▸ h)
   rw [he x hxp]; omega
end Go.Tre
namespace Go.Tre
def Graph.kids (g : Tre.Graph) (a : Nat) : List Nat := (g.nd a).args.map Int.toNat
theorem Graph.kids_len (g : Tre.Graph) (a : Nat) : (g.kids a).length = g.deg a := by unfold Graph.kids Graph.deg; simp
def Graph.budget (g : Tre.Graph) (out : List Nat) : Nat := ((List.range g.ns.length).map fun a => if a ∈ out then 0 else g.deg a + 1).sum
theorem Graph.budget_step {g : Tre.Graph} {out : List Nat} {a : Nat} (ha : a < g.ns.length) (hn : a ∉ out) : g.budget (out ++ [a]) + (g.deg a + 1) = g.budget out := by
 have := sum_upd (fun x => if x ∈ out ++ [a] then 0 else g.deg x + 1) (fun x => if x ∈ out then 0 else g.deg x + 1) a (List.range g.ns.length) List.nodup_range (List.mem_range.2 ha)
  (fun q hq => by
   have : (q ∈ out ++ [a]) = (q ∈ out) := by simp [hq]
   simp only [this])
 simp only [List.mem_append, List.mem_singleton, or_true, if_true, if_neg hn] at this
 unfold Graph.budget
 simp only [List.mem_append, List.mem_singleton]
 omega
def Graph.dfs (g : Tre.Graph) : List Nat → List Nat → List Nat
 | [], out => out
 | a :: s, out => if _h : a ∈ out ∨ g.ns.length ≤ a then g.dfs s out else g.dfs (g.kids a ++ s) (out ++ [a])
termination_by s out => g.budget out + s.length
decreasing_by
 ·simp
 ·have := Graph.budget_step (g := g) (out := out) (a := a) (by omega) (fun e => _h (.inl e))
  simp only [List.length_append, List.length_cons, g.kids_len]
  omega
theorem Graph.dfs_nil (g : Tre.Graph) (out : List Nat) : g.dfs [] out = out := by rw [Graph.dfs]
theorem Graph.dfs_skip {g : Tre.Graph} {out s : List Nat} {a : Nat} (h : a ∈ out) : g.dfs (a :: s) out = g.dfs s out := by rw [Graph.dfs, dif_pos (.inl h)]
theorem Graph.dfs_take {g : Tre.Graph} {out s : List Nat} {a : Nat} (h : a ∉ out) (hl : a < g.ns.length) : g.dfs (a :: s) out = g.dfs (g.kids a ++ s) (out ++ [a]) := by
 rw [Graph.dfs, dif_neg (fun e => e.elim h (fun e => by omega))]
def Graph.reachL (g : Tre.Graph) : List Nat := if g.checkC = 0 then g.dfs [g.root.toNat] [] else []
theorem Graph.budget_le (g : Tre.Graph) : g.budget [] ≤ g.weight := by
 unfold Graph.budget Graph.weight
 have e2 : ((List.range g.ns.length).map fun a => if a ∈ ([] : List Nat) then 0 else g.deg a + 1) = g.ns.map fun n => n.args.length + 1 := by
  apply List.ext_getElem
  ·simp
  ·intro i h1 h2
   have hi : i < g.ns.length := by simpa using h1
   simp [Graph.deg, Graph.nd_eq hi]
 rw [e2]
 generalize g.ns = ns
 induction ns with
 | nil => simp
 | cons n r ih =>
  have : n.args.length + 1 ≤ n.weight := by unfold Tre.Node.weight; omega
  simp only [List.map_cons, List.sum_cons]
  omega
theorem Graph.Ok.kids_eq {g : Tre.Graph} (h : g.Ok) {a : Nat} (ha : a < g.ns.length) : (g.nd a).args = (g.kids a).map (fun k : Nat => (k : Int)) := by
 unfold Graph.kids
 rw [List.map_map]
 apply List.ext_getElem
 ·simp
 ·intro i h1 h2
  obtain ⟨k, hk, _, _⟩ := h.arg ha (i := i) h1
  rw [List.getElem?_eq_getElem h1] at hk
  rw [List.getElem_map, Option.some.inj hk]
  simp
theorem Graph.Ok.kids_lt {g : Tre.Graph} (h : g.Ok) {a : Nat} (ha : a < g.ns.length) : ∀ b ∈ g.kids a, b < g.ns.length := by
 intro b hb
 unfold Graph.kids at hb
 obtain ⟨z, hz, rfl⟩ := List.mem_map.1 hb
 obtain ⟨i, hi, ez⟩ := List.getElem_of_mem hz
 obtain ⟨q, hq, _, hql⟩ := h.arg ha (i := i) hi
 rw [List.getElem?_eq_getElem hi, ez] at hq
 cases hq
 simpa using hql

/-! what is reached: each once; whatever a node that is reached leads to -/
theorem Graph.dfs_spec (g : Tre.Graph) (og : g.Ok) : ∀ (k : Nat) (s out : List Nat), g.budget out + s.length ≤ k → out.Nodup → (∀ a ∈ out, a < g.ns.length) → (∀ a ∈ s, a < g.ns.length) → (∀ a ∈ out, ∀ b ∈ g.kids a, b ∈ out ∨ b ∈ s) →
  (g.dfs s out).Nodup ∧ (∀ a ∈ g.dfs s out, a < g.ns.length) ∧ (∀ a ∈ g.dfs s out, ∀ b ∈ g.kids a, b ∈ g.dfs s out) ∧ (∃ t, g.dfs s out = out ++ t) ∧ (∀ a ∈ s, a ∈ g.dfs s out) := by
 intro k
 induction k with
 | zero =>
  intro s out hk h1 h2 h3 h4
  have : s = [] := List.length_eq_zero_iff.1 (by omega)
  subst this
  rw [g.dfs_nil]
  exact ⟨h1, h2, fun a ha b hb => (h4 a ha b hb).elim (fun e => e) (fun e => by simp at e), ⟨[], by simp⟩, by simp⟩
 | succ k ih =>
  intro s out hk h1 h2 h3 h4
  cases s with
  | nil =>
   rw [g.dfs_nil]
   exact ⟨h1, h2, fun a ha b hb => (h4 a ha b hb).elim (fun e => e) (fun e => by simp at e), ⟨[], by simp⟩, by simp⟩
  | cons a s =>
   have hal := h3 a (by simp)
   by_cases hm : a ∈ out
   ·rw [Graph.dfs_skip hm]
    obtain ⟨r1, r2, r3, ⟨t, r4⟩, r5⟩ := ih s out (by simp at hk; omega) h1 h2 (fun b hb => h3 b (by simp [hb])) (fun b hb c hc => by
     rcases h4 b hb c hc with e | e
     ·exact .inl e
     ·rcases List.mem_cons.1 e with rfl | e
      ·exact .inl hm
      ·exact .inr e)
    refine ⟨r1, r2, r3, ⟨t, r4⟩, fun b hb => ?_⟩
    rcases List.mem_cons.1 hb with rfl | hb
    ·rw [r4]; simp [hm]
    ·exact r5 b hb
   ·rw [Graph.dfs_take hm hal]
    have hb := Graph.budget_step hal hm
    obtain ⟨r1, r2, r3, ⟨t, r4⟩, r5⟩ := ih (g.kids a ++ s) (out ++ [a]) (by simp only [List.length_append, List.length_cons, g.kids_len] at hk ⊢; omega)
     (List.nodup_append.2 ⟨h1, by simp, fun x hx y hy e => by simp at hy; subst hy; subst e; exact hm hx⟩)
     (fun b hb => by rcases List.mem_append.1 hb with hb | hb; exact h2 b hb; simp at hb; rw [hb]; exact hal)
     (fun b hb => by
      rcases List.mem_append.1 hb with hb | hb
      ·unfold Graph.kids at hb
       obtain ⟨z, hz, rfl⟩ := List.mem_map.1 hb
       obtain ⟨i, hi, ez⟩ := List.getElem_of_mem hz
       obtain ⟨q, hq, _, hql⟩ := og.arg hal (i := i) hi
       rw [List.getElem?_eq_getElem hi, ez] at hq
       cases hq
       simpa using hql
      ·exact h3 b (by simp [hb]))
     (fun b hb c hc => by
      rcases List.mem_append.1 hb with hb | hb
      ·rcases h4 b hb c hc with e | e
       ·exact .inl (by simp [e])
       ·rcases List.mem_cons.1 e with rfl | e
        ·exact .inl (by simp)
        ·exact .inr (by simp [e])
      ·simp at hb; subst hb
       exact .inr (by simp [hc]))
    refine ⟨r1, r2, r3, ⟨a :: t, by rw [r4]; simp⟩, fun b hb => ?_⟩
    rcases List.mem_cons.1 hb with rfl | hb
    ·rw [r4]; simp
    ·exact r5 b (by simp [hb])
end Go.Tre
namespace Go.Proofs.YtljmcmdabdlldaaGreatDoor.gr
open Go.RowKit Go.Maps Go.Tre lex
theorem laidOut : laidOutB Tryz.prog = true := by kernel_rfl
abbrev ep (p : Nat × Nat) : Value := .agg #[.int .i64 (p.1 : Int), .int .i64 (p.2 : Int)]
abbrev en (n : Nat) : Value := .int .i64 (n : Int)
theorem injN (a b : Nat) (h : en a = en b) : a = b := by
 simp only [en, Value.int.injEq, true_and] at h
 omega
theorem KI : Keyed Tryz.prog 3 := int_keyed Tryz.underlying3
theorem kn (a : Nat) (ha : a ≤ 8388608) : keyOf Tryz.prog 3 (en a) = some (.int .i64 (a : Int)) :=
 keyOf_int_mk Tryz.underlying3 (by simp [Lit.wf, IntKind.min, IntKind.max, IntKind.signed, IntKind.bits]; omega)
theorem zb (w : World) : (zeroValue 4).run Tryz.prog w = .ok (.bool false) w := by kernel_rfl
end Go.Proofs.YtljmcmdabdlldaaGreatDoor.gr
namespace Go.Tre
def pcells (l : List (Nat × Nat)) : List Value := l.flatMap fun p => [.int .i64 (p.1 : Int), .int .i64 (p.2 : Int)]
section
variable {w : World} {base : Nat} {e : TypeId} {size : Nat} {v : Value} {n : Nat} {xs : List Value}
theorem own_pos (h : w.ownsRow base e size v (n + 1) xs) : ∃ g cap, v = .slice (some ⟨g, 0, none⟩) (n + 1) cap ∧ n + 1 ≤ cap := by
 rcases h.2 with ⟨_, h0⟩ | ⟨g, cap, _, hv, _, _, hc, _⟩
 ·omega
 ·exact ⟨g, cap, hv, hc⟩
theorem own_any (h : w.ownsRow base e size v n xs) : ∃ o cap, v = .slice o n cap := by
 rcases h.2 with ⟨rfl, h0⟩ | ⟨g, cap, _, hv, _⟩
 ·subst h0; exact ⟨none, 0, rfl⟩
 ·exact ⟨_, cap, hv⟩
end
end Go.Tre
namespace Go.Proofs.YtljmcmdabdlldaaGreatDoor.gr
open Go.RowKit Go.Maps Go.Tre lex

theorem cell_of_heap {w : World} {b : Nat} {cs : Array Value} {t : TypeId} {z : Nat × Nat} (h : w.heap[b]? = some (.cells cs t z)) {j : Nat} {u : Value} (hj : cs[j]? = some u) : w.cell? ⟨b, j, none⟩ = some u := by
 simp only [World.cell?, h]; exact hj
theorem heap_two (w : World) (o o2 : Obj) : ((w.alloc o).alloc o2).heap[w.heap.size + 1]? = some o2 := by
 have := heap_alloc_new (w.alloc o) o2
 rwa [World.size_alloc] at this
theorem args_len (n : Tre.Node) : n.args.length ≤ n.weight := by unfold Tre.Node.weight; omega
theorem labels_len (n : Tre.Node) : n.labels.length ≤ n.weight := by
 have := length_le_sum (fun s : ByteArray => s.size + 1) (fun s => by omega) n.labels
 unfold Tre.Node.weight; omega
theorem lt_heap {w : World} {b : Nat} {o : Obj} (h : w.heap[b]? = some o) : b < w.heap.size := (Array.getElem?_eq_some_iff.1 h).1
theorem own_ne {w : World} {base : Nat} {e : TypeId} {size : Nat} {v : Value} {n : Nat} {xs : List Value} {b : Nat} (h : w.ownsRow base e size v n xs) (hb : b < base) : v.ownBlock ≠ some b := by
 rcases h.2 with ⟨rfl, _⟩ | ⟨g, cap, cur, rfl, h1, _, _⟩
 ·simp [Value.ownBlock]
 ·intro e'
  simp [Value.ownBlock] at e'
  omega
theorem own_ge {w : World} {base : Nat} {e : TypeId} {size : Nat} {v : Value} {n : Nat} {xs : List Value} {b : Nat} (h : w.ownsRow base e size v n xs) (hb : v.ownBlock = some b) : base ≤ b := by
 rcases h.2 with ⟨rfl, _⟩ | ⟨g, cap, cur, rfl, h1, _, _⟩
 ·simp [Value.ownBlock] at hb
 ·simp [Value.ownBlock] at hb
  omega
theorem not_ok {c : Int} (h : c ≠ 0) : (c != 0) = true := by rw [bne_iff_ne]; exact h


end Go.Proofs.YtljmcmdabdlldaaGreatDoor.gr
