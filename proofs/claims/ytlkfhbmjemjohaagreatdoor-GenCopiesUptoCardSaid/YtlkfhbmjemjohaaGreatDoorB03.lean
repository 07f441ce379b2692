/- graph.Check, by its parts: slices.IndexFunc and ContainsFunc over nodes. slices.Equal over strings; graph.alike, graph.free. Which graphs are the same: pairs of nodes that must be matched; what the going through of pairs keeps. No program in sight. -/
import Derived.Test.YtlkfhbmjemjohaaGreatDoorB02
import Derived.Deep.QuietTactic
import Derived.BigQuiet
import Derived.WalkSmall
set_option linter.unusedVariables false
namespace Go.Tre
def Graph.checkC (g : Graph) : Int := if 1048576 < g.ns.length then 3 else if g.root < 0 ∨ (g.ns.length : Int) ≤ g.root ∨ g.ns.any (fun n => !mayB n g.ns.length) = true then 2 else 0
theorem node_weight {n : Tre.Node} {l : List Tre.Node} (h : n ∈ l) : n.weight ≤ (l.map Tre.Node.weight).sum := by
 induction l with
 | nil => cases h
 | cons x r ih =>
  simp only [List.map_cons, List.sum_cons]
  rcases List.mem_cons.1 h with rfl | h
  ·omega
  ·have := ih h; omega
end Go.Tre
namespace Go.Proofs.YtlkfhbmjemjohaaGreatDoor.gr
open Go.RowKit Go.Maps Go.Tre lex

set_option maxHeartbeats 2000000 in
theorem indexNodes (F : Nat) (caps : Array Value) (hcf : ∀ (args : Array Value) (w : World), (callFunc F args).run Tryz.prog w = .ok (.enter F args) w) (p : Tre.Node → Bool)
  (a : Option Addr) (cap : Nat) (xs : List Tre.Node) (w : World) (hx : NodesAt w a xs) (hlen : xs.length ≤ 8388608)
  (hF : ∀ n aa ca al cl wx, n ∈ xs → Below w.heap.size w wx → IntsAt wx aa n.args → StrsAt wx al n.labels →
   Calls Tryz.prog F (#[.agg #[.int .i64 n.kind, .string n.name, .slice aa n.args.length ca, .slice al n.labels.length cl, .bool n.isOpen]] ++ caps) wx fun e w' => e = .returned (.bool (p n)) ∧ Below wx.heap.size wx w') :
  Calls Tryz.prog 37 #[.slice a xs.length cap, .func (.func F) #[] caps] w fun e w' => e = .returned (.int .i64 (idxFunc p xs)) ∧ Below w.heap.size w w' := by
 have HF := Tre.hid hF
 clear hF
 go_enter Tryz.func37, Tryz.ntmps37
 go_wp2_with fail
 go_loopw [8] (fun i wr => ∃ k : Nat, k ≤ xs.length ∧ i = .int .i64 k ∧ (∀ j (hj : j < xs.length), j < k → p xs[j] = false) ∧ Below w.heap.size w wr) (fun i _ => xs.length - (intOf i).toNat)
 case atStart => exact ⟨0, Nat.zero_le _, rfl, fun j _ h => by omega, Below.refl _ _⟩
 case round =>
  obtain ⟨k, hk, rfl, hrel, hb⟩ := hrel
  have HR := Tre.hid hrel
  clear hrel
  by_cases hlt : k < xs.length
  ·obtain ⟨b, off, rfl, hn⟩ := (hx.below hb).at_ k _ (List.getElem?_eq_getElem hlt)
   have hmem := List.getElem_mem hlt
   obtain ⟨aa, ca, al, cl, h0, h1, h2, h3, h4, h5, h6, _, _⟩ := hn
   have H5 := Tre.hid h5
   have H6 := Tre.hid h6
   clear h5 h6
   by_cases hp : p xs[k] = true
   ·have HO := Tre.hid (idxFunc_hit hlt hp HR.out)
    go_wp2_with fail
    refine (HF.out xs[k] aa ca al cl _ hmem hb H5.out H6.out).mono ?_
    rintro e w' ⟨rfl, hb'⟩
    go_wp2_with fail
    go_ret
    exact ⟨ret_int HO.out.symm, hb.trans (hb'.mono hb.size)⟩
   ·have hp' : p xs[k] = false := by simpa using hp
    have HP := Tre.hid hp'
    clear hp
    go_wp2_with fail
    refine (HF.out xs[k] aa ca al cl _ hmem hb H5.out H6.out).mono ?_
    rintro e w' ⟨rfl, hb'⟩
    go_wp2_with fail
    go_roundw
    case rel =>
     refine ⟨k + 1, by omega, by go_num, fun j hj hjk => ?_, hb.trans (hb'.mono hb.size)⟩
     by_cases e : j = k
     ·subst e; exact HP.out
     ·exact HR.out j hj (by omega)
    case measure => simp [intOf]; omega
  ·have HO := Tre.hid (idxFunc_miss (p := p) (xs := xs) (fun j hj => HR.out j hj (by omega)))
   go_wp2_with fail
   go_ret
   exact ⟨ret_int HO.out.symm, hb⟩

set_option maxHeartbeats 1000000 in
theorem containsNodes (F : Nat) (caps : Array Value) (hcf : ∀ (args : Array Value) (w : World), (callFunc F args).run Tryz.prog w = .ok (.enter F args) w) (p : Tre.Node → Bool)
  (a : Option Addr) (cap : Nat) (xs : List Tre.Node) (w : World) (hx : NodesAt w a xs) (hlen : xs.length ≤ 8388608)
  (hF : ∀ n aa ca al cl wx, n ∈ xs → Below w.heap.size w wx → IntsAt wx aa n.args → StrsAt wx al n.labels →
   Calls Tryz.prog F (#[.agg #[.int .i64 n.kind, .string n.name, .slice aa n.args.length ca, .slice al n.labels.length cl, .bool n.isOpen]] ++ caps) wx fun e w' => e = .returned (.bool (p n)) ∧ Below wx.heap.size wx w') :
  Calls Tryz.prog 15 #[.slice a xs.length cap, .func (.func F) #[] caps] w fun e w' => e = .returned (.bool (xs.any p)) ∧ Below w.heap.size w w' := by
 have HI := Tre.hid (indexNodes F caps hcf p a cap xs w hx hlen hF)
 have HA := Tre.hid (idxFunc_any p xs)
 clear hF hx hcf
 go_enter Tryz.func15, Tryz.ntmps15
 go_wp2_with fail
 refine HI.out.mono ?_
 rintro e w' ⟨rfl, hb'⟩
 go_wp2_with fail
 go_ret
 exact ⟨ret_bool HA.out, hb'⟩

theorem cell_new1 (w : World) (cs : Array Value) (t : TypeId) (j : Nat) (u : Value) (h : cs[j]? = some u) : (w.alloc (.cells cs t)).cell? ⟨w.heap.size, j, none⟩ = some u := by
 have h1 : (w.alloc (.cells cs t)).heap[w.heap.size]? = some (.cells cs t) := heap_alloc_new w _
 simp only [World.cell?, h1]; exact h
theorem hcfC (args : Array Value) (w : World) : (callFunc 13 args).run Tryz.prog w = .ok (.enter 13 args) w := by kernel_rfl

set_option maxHeartbeats 1000000 in
theorem check1 (n : Tre.Node) (aa : Option Addr) (ca : Nat) (al : Option Addr) (cl : Nat) (bg bm b : Nat) (an : Option Addr) (size cap : Nat) (w : World) (ha : IntsAt w aa n.args) (hl : StrsAt w al n.labels) (hw : n.weight ≤ 8388608)
  (hg : w.cell? ⟨bg, 0, none⟩ = some (.slice an size cap)) (hb : w.cell? ⟨bm, 0, none⟩ = some (.map (some b)))
  (hmap : MapIs Tryz.prog 9 Value.string ei w b 6 arity) (hm : MaxAt w) :
  Calls Tryz.prog 13 #[.agg #[.int .i64 n.kind, .string n.name, .slice aa n.args.length ca, .slice al n.labels.length cl, .bool n.isOpen], .pointer (some ⟨bg, 0, none⟩), .pointer (some ⟨bm, 0, none⟩)] w
   fun e w' => e = .returned (.bool (!mayB n size)) ∧ Below w.heap.size w w' := by
 have bb : Below w.heap.size w (w.alloc (.cells #[.int .i64 n.kind, .string n.name, .slice aa n.args.length ca, .slice al n.labels.length cl, .bool n.isOpen] 40)) := (Below.refl _ _).alloc (Nat.le_refl _) _
 have C := Tre.hid (may_any n size aa ca al cl b _ (ha.below bb) (hl.below bb) hw (hmap.alloc _) (hm.below bb))
 have hg' := cell_below bb hg
 have hb' := cell_below bb hb
 clear ha hl hmap hm bb hg hb
 go_enter Tryz.func13, Tryz.ntmps13
 go_wp2_with fail
 refine C.out.mono ?_
 rintro e w1 ⟨rfl, b1⟩
 go_wp2_with fail
 go_ret
 exact ⟨rfl, after1 b1⟩

theorem after_two {w w0 w1 : World} (h0 : Below w.heap.size w w0) (h1 : Below w0.heap.size w0 w1) : Below w.heap.size w w1 := h0.trans (h1.mono h0.size)

set_option maxHeartbeats 2000000 in
theorem check_any (a : Option Addr) (cap : Nat) (g : Tre.Graph) (w : World) (hn : NodesAt w a g.ns) (hw : g.weight ≤ 8388608) (hm : MaxAt w) :
  Calls Tryz.prog 6 #[.agg #[.slice a g.ns.length cap, .int .i64 g.root]] w fun e w' => e = .returned (.int .i64 g.checkC) ∧ Below w.heap.size w w' := by
 have hlen : g.ns.length ≤ 8388608 := Nat.le_trans (length_le_sum _ (fun x => by unfold Tre.Node.weight; omega) _) hw
 have b0 : Below w.heap.size w (w.alloc (.cells #[.slice a g.ns.length cap, .int .i64 g.root] 24)) := (Below.refl _ _).alloc (Nat.le_refl _) _
 by_cases hl : 1048576 < g.ns.length
 ·have H : Hid (g.checkC = 3) := by show _ = _; unfold Tre.Graph.checkC; rw [if_pos hl]
  go_enter Tryz.func6, Tryz.ntmps6
  go_wp2_with fail
  go_ret
  exact ⟨ret_int (by rw [H.out]), b0⟩
 ·have HN := Tre.hid (hn.below b0)
  have HM := Tre.hid (hm.below b0)
  clear hn hm
  by_cases hr0 : g.root < 0
  ·have H : Hid (g.checkC = 2) := by show _ = _; unfold Tre.Graph.checkC; rw [if_neg hl, if_pos (.inl hr0)]
   go_enter Tryz.func6, Tryz.ntmps6
   go_wp2_with fail
   refine (arity_any _).mono ?_
   rintro e w1 ⟨rfl, m1, b1⟩
   have B1 := after_two b0 b1
   have hz : w.heap.size < w1.heap.size := by have := b1.size; simp at this; omega
   have g0 : w1.cell? ⟨w.heap.size, 0, none⟩ = some (.slice a g.ns.length cap) := cell_below b1 (cell_new1 w _ _ 0 _ rfl)
   have g1 : w1.cell? ⟨w.heap.size, 1, none⟩ = some (.int .i64 g.root) := cell_below b1 (cell_new1 w _ _ 1 _ rfl)
   have MM := Tre.hid m1
   have BB := Tre.hid b1
   clear b1 m1
   go_wp2_with fail
   go_ret
   exact ⟨ret_int (by rw [H.out]), B1.alloc B1.size _⟩
  by_cases hr1 : (g.ns.length : Int) ≤ g.root
  ·have H : Hid (g.checkC = 2) := by show _ = _; unfold Tre.Graph.checkC; rw [if_neg hl, if_pos (.inr (.inl hr1))]
   go_enter Tryz.func6, Tryz.ntmps6
   go_wp2_with fail
   refine (arity_any _).mono ?_
   rintro e w1 ⟨rfl, m1, b1⟩
   have B1 := after_two b0 b1
   have hz : w.heap.size < w1.heap.size := by have := b1.size; simp at this; omega
   have g0 : w1.cell? ⟨w.heap.size, 0, none⟩ = some (.slice a g.ns.length cap) := cell_below b1 (cell_new1 w _ _ 0 _ rfl)
   have g1 : w1.cell? ⟨w.heap.size, 1, none⟩ = some (.int .i64 g.root) := cell_below b1 (cell_new1 w _ _ 1 _ rfl)
   have MM := Tre.hid m1
   have BB := Tre.hid b1
   clear b1 m1
   go_wp2_with fail
   go_ret
   exact ⟨ret_int (by rw [H.out]), B1.alloc B1.size _⟩
  have H2 : Hid (g.checkC = if g.ns.any (fun n => !mayB n g.ns.length) = true then 2 else 0) := by
   show _ = _
   unfold Tre.Graph.checkC
   rw [if_neg hl]
   by_cases hy : g.ns.any (fun n => !mayB n g.ns.length) = true
   ·rw [if_pos (.inr (.inr hy)), if_pos hy]
   ·rw [if_neg (by rintro (h | h | h) <;> contradiction), if_neg hy]
  by_cases hy : g.ns.any (fun n => !mayB n g.ns.length) = true
  ·have H : Hid (g.checkC = 2) := by show _ = _; unfold Tre.Graph.checkC; rw [if_neg hl, if_pos (.inr (.inr hy))]
   have HY := Tre.hid hy
   clear hy
   go_enter Tryz.func6, Tryz.ntmps6
   go_wp2_with fail
   refine (arity_any _).mono ?_
   rintro e w1 ⟨rfl, m1, b1⟩
   have B1 := after_two b0 b1
   have hz : w.heap.size < w1.heap.size := by have := b1.size; simp at this; omega
   have g0 : w1.cell? ⟨w.heap.size, 0, none⟩ = some (.slice a g.ns.length cap) := cell_below b1 (cell_new1 w _ _ 0 _ rfl)
   have g1 : w1.cell? ⟨w.heap.size, 1, none⟩ = some (.int .i64 g.root) := cell_below b1 (cell_new1 w _ _ 1 _ rfl)
   have MM := Tre.hid m1
   have BB := Tre.hid b1
   clear b1 m1
   go_wp2_with fail
   have z0 := Below.alloc (Below.refl w1.heap.size w1) (Nat.le_refl _) (.cells #[.map (some (w.heap.size + 1))] 44)
   have q0 : (w1.alloc (.cells #[.map (some (w.heap.size + 1))] 44)).cell? ⟨w.heap.size, 0, none⟩ = some (.slice a g.ns.length cap) := cell_below z0 g0
   have q1 : (w1.alloc (.cells #[.map (some (w.heap.size + 1))] 44)).cell? ⟨w1.heap.size, 0, none⟩ = some (.map (some (w.heap.size + 1))) := cell_new1 w1 _ _ 0 _ rfl
   have B2 := B1.alloc B1.size (.cells #[.map (some (w.heap.size + 1))] 44)
   have mm := MM.out.alloc (.cells #[.map (some (w.heap.size + 1))] 44)
   rw [World.size_alloc] at mm
   have C0 : Below (w.alloc (.cells #[.slice a g.ns.length cap, .int .i64 g.root] 24)).heap.size (w.alloc (.cells #[.slice a g.ns.length cap, .int .i64 g.root] 24)) (w1.alloc (.cells #[.map (some (w.heap.size + 1))] 44)) := BB.out.alloc BB.out.size _
   refine (containsNodes 13 #[.pointer (some ⟨w.heap.size, 0, none⟩), .pointer (some ⟨w1.heap.size, 0, none⟩)] hcfC (fun n => !mayB n g.ns.length) a cap g.ns _ (HN.out.below C0) hlen
    (fun n aa ca al cl wx hmem hbx hia hil => check1 n aa ca al cl _ _ _ a _ cap wx hia hil (Nat.le_trans (node_weight hmem) hw) (cell_below hbx q0) (cell_below hbx q1) (mm.block (hbx.block _ mm.lt)) ((HM.out.below C0).below hbx))).mono ?_
   rintro e w2 ⟨rfl, b2⟩
   have B3 := after_two B2 b2
   clear b2 C0 mm B2 q0 q1 z0
   have HY2 : g.ns.any (fun n => !mayB n g.ns.length) = true := HY.out
   go_wp2_with fail
   go_ret
   exact ⟨ret_int (by rw [H.out]), B3⟩
  ·have HY : Hid (g.ns.any (fun n => !mayB n g.ns.length) = false) := by show _ = _; simpa using hy
   have H : Hid (g.checkC = 0) := by show _ = _; rw [H2.out, if_neg hy]
   clear hy
   go_enter Tryz.func6, Tryz.ntmps6
   go_wp2_with fail
   refine (arity_any _).mono ?_
   rintro e w1 ⟨rfl, m1, b1⟩
   have B1 := after_two b0 b1
   have hz : w.heap.size < w1.heap.size := by have := b1.size; simp at this; omega
   have g0 : w1.cell? ⟨w.heap.size, 0, none⟩ = some (.slice a g.ns.length cap) := cell_below b1 (cell_new1 w _ _ 0 _ rfl)
   have g1 : w1.cell? ⟨w.heap.size, 1, none⟩ = some (.int .i64 g.root) := cell_below b1 (cell_new1 w _ _ 1 _ rfl)
   have MM := Tre.hid m1
   have BB := Tre.hid b1
   clear b1 m1
   go_wp2_with fail
   have z0 := Below.alloc (Below.refl w1.heap.size w1) (Nat.le_refl _) (.cells #[.map (some (w.heap.size + 1))] 44)
   have q0 : (w1.alloc (.cells #[.map (some (w.heap.size + 1))] 44)).cell? ⟨w.heap.size, 0, none⟩ = some (.slice a g.ns.length cap) := cell_below z0 g0
   have q1 : (w1.alloc (.cells #[.map (some (w.heap.size + 1))] 44)).cell? ⟨w1.heap.size, 0, none⟩ = some (.map (some (w.heap.size + 1))) := cell_new1 w1 _ _ 0 _ rfl
   have B2 := B1.alloc B1.size (.cells #[.map (some (w.heap.size + 1))] 44)
   have mm := MM.out.alloc (.cells #[.map (some (w.heap.size + 1))] 44)
   rw [World.size_alloc] at mm
   have C0 : Below (w.alloc (.cells #[.slice a g.ns.length cap, .int .i64 g.root] 24)).heap.size (w.alloc (.cells #[.slice a g.ns.length cap, .int .i64 g.root] 24)) (w1.alloc (.cells #[.map (some (w.heap.size + 1))] 44)) := BB.out.alloc BB.out.size _
   refine (containsNodes 13 #[.pointer (some ⟨w.heap.size, 0, none⟩), .pointer (some ⟨w1.heap.size, 0, none⟩)] hcfC (fun n => !mayB n g.ns.length) a cap g.ns _ (HN.out.below C0) hlen
    (fun n aa ca al cl wx hmem hbx hia hil => check1 n aa ca al cl _ _ _ a _ cap wx hia hil (Nat.le_trans (node_weight hmem) hw) (cell_below hbx q0) (cell_below hbx q1) (mm.block (hbx.block _ mm.lt)) ((HM.out.below C0).below hbx))).mono ?_
   rintro e w2 ⟨rfl, b2⟩
   have B3 := after_two B2 b2
   clear b2 C0 mm B2 q0 q1 z0
   have HY2 : g.ns.any (fun n => !mayB n g.ns.length) = false := HY.out
   go_wp2_with fail
   go_ret
   exact ⟨ret_int (by rw [H.out]), B3⟩
end Go.Proofs.YtlkfhbmjemjohaaGreatDoor.gr
namespace Go.Tre
def alikeB (x y : Tre.Node) : Bool := decide (x.kind = y.kind) && decide (x.name = y.name) && decide (x.isOpen = y.isOpen) && decide (x.args.length = y.args.length) && decide (x.labels = y.labels)
def freeB (n : Tre.Node) : Bool := decide (n.kind = 1) || (decide (n.kind = 3) && n.isOpen)
end Go.Tre
namespace Go.Proofs.YtlkfhbmjemjohaaGreatDoor.gr
open Go.RowKit Go.Maps Go.Tre lex

theorem str_eq {a b : ByteArray} : (a.toList == b.toList) = decide (a = b) := by
 rw [Bool.eq_iff_iff, beq_iff_eq, decide_eq_true_iff, ByteArray.toList_eq, ByteArray.toList_eq]
 constructor
 ·intro h
  cases a; cases b
  simp only [ByteArray.mk.injEq]
  exact Array.toList_inj.1 h
 ·rintro rfl; rfl

set_option maxHeartbeats 2000000 in
theorem equalStrs (a b : Option Addr) (ca cb : Nat) (xs ys : List ByteArray) (w : World) (hx : StrsAt w a xs) (hy : StrsAt w b ys) (hlx : xs.length ≤ 8388608) (hly : ys.length ≤ 8388608) :
  Calls Tryz.prog 47 #[.slice a xs.length ca, .slice b ys.length cb] w fun e w' => e = .returned (.bool (decide (xs = ys))) ∧ Below w.heap.size w w' := by
 by_cases hl : xs.length = ys.length
 ·have e0 : ((xs.length : Int) != (ys.length : Int)) = false := by rw [hl]; simp
  have HL := Tre.hid hl
  clear hl
  go_enter Tryz.func47, Tryz.ntmps47
  go_wp2_with fail
  go_loopw [13] (fun i wr => ∃ k : Nat, k ≤ xs.length ∧ i = .int .i64 k ∧ xs.take k = ys.take k ∧ Below w.heap.size w wr) (fun i _ => xs.length - (intOf i).toNat)
  case atStart => exact ⟨0, Nat.zero_le _, rfl, rfl, Below.refl _ _⟩
  case round =>
   obtain ⟨k, hk, rfl, hrel, hb⟩ := hrel
   have HR := Tre.hid hrel
   clear hrel
   by_cases hlt : k < xs.length
   ·have hlt2 : k < ys.length := by have := HL.out; omega
    obtain ⟨b1, o1, rfl, hc1⟩ := (hx.below hb).at_ k (.string xs[k]) (by simp [List.getElem?_eq_getElem hlt])
    obtain ⟨b2, o2, rfl, hc2⟩ := (hy.below hb).at_ k (.string ys[k]) (by simp [List.getElem?_eq_getElem hlt2])
    have T1 : Hid (xs.take (k + 1) = xs.take k ++ [xs[k]]) := List.take_succ_eq_append_getElem hlt
    have T2 : Hid (ys.take (k + 1) = ys.take k ++ [ys[k]]) := List.take_succ_eq_append_getElem hlt2
    generalize hxk : xs[k] = x at *
    generalize hyk : ys[k] = y at *
    have i1 : (k : Int) < xs.length := by omega
    have i2 : (k : Int) < ys.length := by omega
    have i3 : (0 : Int) ≤ k := by omega
    have HX := Tre.hid hxk
    have HY := Tre.hid hyk
    clear hxk hyk
    by_cases he : x = y
    ·have e1 : (!(x.toList == y.toList)) = false := by rw [str_eq]; simp [he]
     have HE := Tre.hid he
     clear he
     go_wp2_with fail
     go_quiet (fail)
     go_wp2_with fail
     go_roundw
     case rel => exact ⟨k + 1, by omega, by go_num, by rw [T1.out, T2.out, HR.out, HE.out], by first | exact Go.below_drewN hb _ | exact hb⟩
     case measure => simp [intOf]; omega
    ·have e1 : (!(x.toList == y.toList)) = true := by rw [str_eq]; simp [he]
     have HE : Hid (¬ xs = ys) := by
      show ¬ _
      intro e
      subst e
      exact he (HX.out.symm.trans HY.out)
     clear he
     go_wp2_with fail
     go_quiet (fail)
     go_wp2_with fail
     go_ret
     exact ⟨ret_bool (by simp [HE.out]), by first | exact Go.below_drewN hb _ | exact hb⟩
   ·have HE : Hid (xs = ys) := by
     have h1 := HR.out
     rw [List.take_of_length_le (by omega), List.take_of_length_le (by have := HL.out; omega)] at h1
     exact h1
    go_wp2_with fail
    go_ret
    exact ⟨ret_bool (by simp [HE.out]), hb⟩
 ·have e0 : ((xs.length : Int) != (ys.length : Int)) = true := by rw [bne_iff_ne]; omega
  have HE : Hid (¬ xs = ys) := fun e => hl (by rw [e])
  clear hl
  go_enter Tryz.func47, Tryz.ntmps47
  go_wp2_with fail
  go_ret
  exact ⟨ret_bool (by simp [HE.out]), Below.refl _ _⟩

abbrev nodeObj (n : Tre.Node) (aa : Option Addr) (ca : Nat) (al : Option Addr) (cl : Nat) : Obj := .cells #[.int .i64 n.kind, .string n.name, .slice aa n.args.length ca, .slice al n.labels.length cl, .bool n.isOpen] 40
abbrev nodeVal (n : Tre.Node) (aa : Option Addr) (ca : Nat) (al : Option Addr) (cl : Nat) : Value := .agg #[.int .i64 n.kind, .string n.name, .slice aa n.args.length ca, .slice al n.labels.length cl, .bool n.isOpen]

set_option maxHeartbeats 4000000 in
theorem alike_any (x y : Tre.Node) (ax : Option Addr) (cx : Nat) (lx : Option Addr) (dx : Nat) (ay : Option Addr) (cy : Nat) (ly : Option Addr) (dy : Nat) (w : World) (hx : StrsAt w lx x.labels) (hy : StrsAt w ly y.labels) (hlx : x.labels.length ≤ 8388608) (hly : y.labels.length ≤ 8388608) (_hax : x.args.length ≤ 8388608) (_hay : y.args.length ≤ 8388608) :
  Calls Tryz.prog 30 #[nodeVal x ax cx lx dx, nodeVal y ay cy ly dy] w fun e w' => e = .returned (.bool (alikeB x y)) ∧ Below w.heap.size w w' := by
 have b2 : Below w.heap.size w ((w.alloc (nodeObj x ax cx lx dx)).alloc (nodeObj y ay cy ly dy)) := ((Below.refl _ _).alloc (Nat.le_refl _) _).alloc (by simp) _
 have C := Tre.hid (equalStrs lx ly dx dy x.labels y.labels _ (hx.below b2) (hy.below b2) hlx hly)
 clear hx hy
 by_cases h_kind : x.kind = y.kind
 ·have e_kind : (x.kind == y.kind) = true := by rw [h_kind]; simp
  by_cases h_name : x.name = y.name
  ·have e_name : (x.name.toList == y.name.toList) = true := by rw [str_eq]; simp [h_name]
   by_cases h_open : x.isOpen = y.isOpen
   ·have e_open : (x.isOpen == y.isOpen) = true := by rw [h_open]; simp
    by_cases h_args : x.args.length = y.args.length
    ·have e_args : ((x.args.length : Int) == (y.args.length : Int)) = true := by rw [h_args]; simp
     have H : Hid (alikeB x y = decide (x.labels = y.labels)) := by show _ = _; unfold alikeB; simp [h_kind, h_name, h_open, h_args]
     clear h_kind h_name h_open h_args
     go_enter Tryz.func30, Tryz.ntmps30
     go_wp2_with fail
     refine C.out.mono ?_
     rintro e w1 ⟨rfl, b1⟩
     go_wp2_with fail
     go_ret
     exact ⟨ret_bool H.out.symm, after2 b1⟩
    ·have e_args : ((x.args.length : Int) == (y.args.length : Int)) = false := beq_eq_false_iff_ne.2 (by omega)
     have H : Hid (alikeB x y = false) := by show _ = _; unfold alikeB; simp [h_args]
     clear h_kind h_name h_open h_args
     go_enter Tryz.func30, Tryz.ntmps30
     go_wp2_with fail
     go_ret
     exact ⟨ret_bool H.out.symm, b2⟩
   ·have e_open : (x.isOpen == y.isOpen) = false := by simpa using h_open
    have H : Hid (alikeB x y = false) := by show _ = _; unfold alikeB; simp [h_open]
    clear h_kind h_name h_open
    go_enter Tryz.func30, Tryz.ntmps30
    go_wp2_with fail
    go_ret
    exact ⟨ret_bool H.out.symm, b2⟩
  ·have e_name : (x.name.toList == y.name.toList) = false := by rw [str_eq]; simp [h_name]
   have H : Hid (alikeB x y = false) := by show _ = _; unfold alikeB; simp [h_name]
   clear h_kind h_name
   go_enter Tryz.func30, Tryz.ntmps30
   go_wp2_with fail
   go_ret
   exact ⟨ret_bool H.out.symm, b2⟩
 ·have e_kind : (x.kind == y.kind) = false := beq_eq_false_iff_ne.2 h_kind
  have H : Hid (alikeB x y = false) := by show _ = _; unfold alikeB; simp [h_kind]
  clear h_kind
  go_enter Tryz.func30, Tryz.ntmps30
  go_wp2_with fail
  go_ret
  exact ⟨ret_bool H.out.symm, b2⟩

theorem free_any (n : Tre.Node) (aa : Option Addr) (ca : Nat) (al : Option Addr) (cl : Nat) (w : World) :
  Calls Tryz.prog 31 #[nodeVal n aa ca al cl] w fun e w' => e = .returned (.bool (freeB n)) ∧ Below w.heap.size w w' := by
 have b1 : Below w.heap.size w (w.alloc (nodeObj n aa ca al cl)) := (Below.refl _ _).alloc (Nat.le_refl _) _
 by_cases h1 : n.kind = 1
 ·have e1 : (n.kind == 1) = true := by rw [h1]; rfl
  have H : Hid (freeB n = true) := by show _ = _; unfold freeB; simp [h1]
  clear h1
  go_enter Tryz.func31, Tryz.ntmps31
  go_wp2_with fail
  go_ret
  exact ⟨ret_bool H.out.symm, b1⟩
 ·have e1 : (n.kind == 1) = false := beq_eq_false_iff_ne.2 h1
  by_cases h3 : n.kind = 3
  ·have e3 : (n.kind == 3) = true := by rw [h3]; rfl
   have H : Hid (freeB n = n.isOpen) := by show _ = _; unfold freeB; simp [h3]
   clear h1 h3
   go_enter Tryz.func31, Tryz.ntmps31
   go_wp2_with fail
   go_ret
   exact ⟨ret_bool H.out.symm, b1⟩
  ·have e3 : (n.kind == 3) = false := beq_eq_false_iff_ne.2 h3
   have H : Hid (freeB n = false) := by show _ = _; unfold freeB; simp [h1, h3]
   clear h1 h3
   go_enter Tryz.func31, Tryz.ntmps31
   go_wp2_with fail
   go_ret
   exact ⟨ret_bool H.out.symm, b1⟩
end Go.Proofs.YtlkfhbmjemjohaaGreatDoor.gr
namespace Go.Tre
instance : DecidableEq Tre.Node := fun x y => decidable_of_iff (x.kind = y.kind ∧ x.name = y.name ∧ x.args = y.args ∧ x.labels = y.labels ∧ x.isOpen = y.isOpen) (by cases x; cases y; simp)
instance : DecidableEq Tre.Graph := fun x y => decidable_of_iff (x.ns = y.ns ∧ x.root = y.root) (by cases x; cases y; simp)
def dummy : Tre.Node := ⟨0, ByteArray.empty, [], [], false⟩
def Graph.nd (g : Tre.Graph) (a : Nat) : Tre.Node := g.ns.getD a dummy
def Graph.kid (g : Tre.Graph) (a i : Nat) : Nat := ((g.nd a).args.getD i 0).toNat
def Graph.deg (g : Tre.Graph) (a : Nat) : Nat := (g.nd a).args.length
theorem Graph.nd_eq {g : Tre.Graph} {a : Nat} (h : a < g.ns.length) : g.nd a = g.ns[a] := by
 unfold Graph.nd; rw [List.getD_eq_getElem?_getD, List.getElem?_eq_getElem h]; rfl

structure Graph.Ok (g : Tre.Graph) : Prop where
 root0 : 0 ≤ g.root
 root1 : g.root.toNat < g.ns.length
 may : ∀ a, a < g.ns.length → mayB (g.nd a) g.ns.length = true
 len : g.ns.length ≤ 1048576
theorem Graph.ok_of {g : Tre.Graph} (h : g.checkC = 0) : g.Ok := by
 unfold Graph.checkC at h
 by_cases hl : 1048576 < g.ns.length
 ·rw [if_pos hl] at h; cases h
 rw [if_neg hl] at h
 by_cases hr : g.root < 0 ∨ (g.ns.length : Int) ≤ g.root ∨ g.ns.any (fun n => !mayB n g.ns.length) = true
 ·rw [if_pos hr] at h; cases h
 ·have h1 : ¬ g.root < 0 := fun e => hr (.inl e)
  have h2 : ¬ (g.ns.length : Int) ≤ g.root := fun e => hr (.inr (.inl e))
  refine ⟨by omega, by omega, fun a ha => ?_, by omega⟩
  rw [Graph.nd_eq ha]
  cases hm : mayB g.ns[a] g.ns.length
  ·exact absurd (List.any_eq_true.2 ⟨g.ns[a], List.getElem_mem ha, by rw [hm]; rfl⟩) (fun e => hr (.inr (.inr e)))
  ·rfl
theorem Graph.Ok.arg {g : Tre.Graph} (h : g.Ok) {a i : Nat} (ha : a < g.ns.length) (hi : i < g.deg a) : ∃ k : Nat, (g.nd a).args[i]? = some (k : Int) ∧ k = g.kid a i ∧ k < g.ns.length := by
 have hm := h.may a ha
 unfold mayB at hm
 have h1 : (g.nd a).args.any (outside g.ns.length) = false := by
  cases hy : (g.nd a).args.any (outside g.ns.length)
  ·rfl
  ·rw [hy] at hm; simp at hm
 have hmem : (g.nd a).args[i] ∈ (g.nd a).args := List.getElem_mem hi
 have h2 : outside g.ns.length (g.nd a).args[i] = false := by
  cases hy : outside g.ns.length (g.nd a).args[i]
  ·rfl
  ·rw [List.any_eq_true.2 ⟨_, hmem, hy⟩] at h1; cases h1
 unfold outside at h2
 simp only [Bool.or_eq_false_iff, decide_eq_false_iff_not] at h2
 have e : g.kid a i = (g.nd a).args[i].toNat := by
  unfold Graph.kid; rw [List.getD_eq_getElem?_getD, List.getElem?_eq_getElem hi]; rfl
 refine ⟨(g.nd a).args[i].toNat, ?_, e.symm, by omega⟩
 rw [List.getElem?_eq_getElem hi]
 congr 1
 omega
theorem Graph.Ok.kid_lt {g : Tre.Graph} (h : g.Ok) {a i : Nat} (ha : a < g.ns.length) (hi : i < g.deg a) : g.kid a i < g.ns.length := by
 obtain ⟨k, _, rfl, hk⟩ := h.arg ha hi
 exact hk

inductive RP (g h : Tre.Graph) : Nat → Nat → Prop where
 | root : RP g h g.root.toNat h.root.toNat
 | kid {a b i : Nat} : RP g h a b → i < g.deg a → i < h.deg b → RP g h (g.kid a i) (h.kid b i)

structure SameG (g h : Tre.Graph) : Prop where
 okg : g.checkC = 0
 okh : h.checkC = 0
 alike : ∀ a b, RP g h a b → alikeB (g.nd a) (h.nd b) = true
 one : ∀ a b a' b', RP g h a b → RP g h a' b' → freeB (g.nd a) = true → (a = a' ↔ b = b')

open Classical in
noncomputable def sameB (g h : Tre.Graph) : Bool := decide (SameG g h)

theorem RP.lt {g h : Tre.Graph} (og : g.Ok) (oh : h.Ok) {a b : Nat} (r : RP g h a b) : a < g.ns.length ∧ b < h.ns.length := by
 induction r with
 | root => exact ⟨og.root1, oh.root1⟩
 | kid _ h1 h2 ih => exact ⟨og.kid_lt ih.1 h1, oh.kid_lt ih.2 h2⟩

theorem alike_deg {x y : Tre.Node} (h : alikeB x y = true) : x.args.length = y.args.length := by
 unfold alikeB at h
 simp only [Bool.and_eq_true, decide_eq_true_eq] at h
 exact h.1.2
theorem alike_free {x y : Tre.Node} (h : alikeB x y = true) : freeB x = freeB y := by
 unfold alikeB at h
 simp only [Bool.and_eq_true, decide_eq_true_eq] at h
 unfold freeB
 rw [h.1.1.1.1, h.1.1.2]

structure Inv (g h : Tre.Graph) (ex : Nat × Nat → Nat → Prop) (l : List (Nat × Nat)) (m : Nat × Nat → Option Unit) (f bk : Nat → Option Nat) : Prop where
 rl : ∀ p ∈ l, RP g h p.1 p.2
 rm : ∀ p, m p ≠ none → RP g h p.1 p.2
 root : (g.root.toNat, h.root.toNat) ∈ l ∨ m (g.root.toNat, h.root.toNat) ≠ none
 alike : ∀ p, m p ≠ none → alikeB (g.nd p.1) (h.nd p.2) = true
 kids : ∀ p, m p ≠ none → ∀ i, i < g.deg p.1 → ¬ ex p i → (g.kid p.1 i, h.kid p.2 i) ∈ l ∨ m (g.kid p.1 i, h.kid p.2 i) ≠ none
 fr : ∀ p, m p ≠ none → freeB (g.nd p.1) = true → f p.1 = some p.2 ∧ bk p.2 = some p.1
 fo : ∀ a b, f a = some b → m (a, b) ≠ none ∧ freeB (g.nd a) = true
 ba : ∀ b a, bk b = some a → m (a, b) ≠ none ∧ freeB (g.nd a) = true

def noEx : Nat × Nat → Nat → Prop := fun _ _ => False

theorem upd_same {α β : Type} [DecidableEq α] (m : α → Option β) (a : α) (x : β) : upd m a x a = some x := by simp [upd]
theorem upd_ne {α β : Type} [DecidableEq α] (m : α → Option β) {a a' : α} (x : β) (h : a' ≠ a) : upd m a x a' = m a' := by simp [upd, h]
theorem upd_some {α β : Type} [DecidableEq α] {m : α → Option β} {a a' : α} {x : β} (h : m a' ≠ none) : upd m a x a' ≠ none := by
 unfold upd
 split
 ·simp
 ·exact h

section
variable {g h : Tre.Graph} {l : List (Nat × Nat)} {m : Nat × Nat → Option Unit} {f bk : Nat → Option Nat} {p : Nat × Nat}

theorem Inv.start : Inv g h noEx [(g.root.toNat, h.root.toNat)] (fun _ => none) (fun _ => none) (fun _ => none) :=
 ⟨by rintro p hp; simp at hp; subst hp; exact .root, fun p e => absurd rfl e, .inl (by simp), fun p e => absurd rfl e, fun p e => absurd rfl e, fun p e => absurd rfl e, by simp, by simp⟩

theorem Inv.skip (I : Inv g h noEx (l ++ [p]) m f bk) (hp : m p ≠ none) : Inv g h noEx l m f bk := by
 refine ⟨fun q hq => I.rl q (by simp [hq]), I.rm, ?_, I.alike, fun q hq i hi he => ?_, I.fr, I.fo, I.ba⟩
 ·rcases I.root with h1 | h1
  ·rcases List.mem_append.1 h1 with h1 | h1
   ·exact .inl h1
   ·simp at h1; rw [h1]; exact .inr hp
  ·exact .inr h1
 ·rcases I.kids q hq i hi he with h1 | h1
  ·rcases List.mem_append.1 h1 with h1 | h1
   ·exact .inl h1
   ·simp at h1; rw [h1]; exact .inr hp
  ·exact .inr h1

theorem Inv.mark (I : Inv g h noEx (l ++ [p]) m f bk) (ha : alikeB (g.nd p.1) (h.nd p.2) = true) (hfr : freeB (g.nd p.1) = false) :
  Inv g h (fun q _ => q = p) l (upd m p ()) f bk := by
 have keep : ∀ q, upd m p () q ≠ none → q = p ∨ m q ≠ none := fun q hq => by
  by_cases e : q = p
  ·exact .inl e
  ·rw [upd_ne m () e] at hq; exact .inr hq
 have rp : RP g h p.1 p.2 := I.rl p (by simp)
 refine ⟨fun q hq => I.rl q (by simp [hq]), fun q hq => ?_, ?_, fun q hq => ?_, fun q hq i hi he => ?_, fun q hq hf => ?_, fun a b e => ⟨upd_some (I.fo a b e).1, (I.fo a b e).2⟩, fun b a e => ⟨upd_some (I.ba b a e).1, (I.ba b a e).2⟩⟩
 ·rcases keep q hq with rfl | h1
  ·exact rp
  ·exact I.rm q h1
 ·rcases I.root with h1 | h1
  ·rcases List.mem_append.1 h1 with h1 | h1
   ·exact .inl h1
   ·simp at h1; rw [h1]; exact .inr (by rw [upd_same]; simp)
  ·exact .inr (upd_some h1)
 ·rcases keep q hq with rfl | h1
  ·exact ha
  ·exact I.alike q h1
 ·rcases keep q hq with rfl | h1
  ·exact absurd rfl he
  ·rcases I.kids q h1 i hi (fun e => e) with h2 | h2
   ·rcases List.mem_append.1 h2 with h2 | h2
    ·exact .inl h2
    ·simp at h2; rw [h2]; exact .inr (by rw [upd_same]; simp)
   ·exact .inr (upd_some h2)
 ·rcases keep q hq with rfl | h1
  ·rw [hfr] at hf; cases hf
  ·exact I.fr q h1 hf

theorem Inv.markFree (I : Inv g h noEx (l ++ [p]) m f bk) (ha : alikeB (g.nd p.1) (h.nd p.2) = true) (hfr : freeB (g.nd p.1) = true)
  (hf : ∀ b, f p.1 = some b → b = p.2) (hb : ∀ a, bk p.2 = some a → a = p.1) :
  Inv g h (fun q _ => q = p) l (upd m p ()) (upd f p.1 p.2) (upd bk p.2 p.1) := by
 have keep : ∀ q, upd m p () q ≠ none → q = p ∨ m q ≠ none := fun q hq => by
  by_cases e : q = p
  ·exact .inl e
  ·rw [upd_ne m () e] at hq; exact .inr hq
 have rp : RP g h p.1 p.2 := I.rl p (by simp)
 have mp : upd m p () (p.1, p.2) ≠ none := by rw [show (p.1, p.2) = p from rfl, upd_same]; simp
 refine ⟨fun q hq => I.rl q (by simp [hq]), fun q hq => ?_, ?_, fun q hq => ?_, fun q hq i hi he => ?_, fun q hq hfq => ?_, fun a b e => ?_, fun b a e => ?_⟩
 ·rcases keep q hq with rfl | h1
  ·exact rp
  ·exact I.rm q h1
 ·rcases I.root with h1 | h1
  ·rcases List.mem_append.1 h1 with h1 | h1
   ·exact .inl h1
   ·simp at h1; rw [h1]; exact .inr (by rw [upd_same]; simp)
  ·exact .inr (upd_some h1)
 ·rcases keep q hq with rfl | h1
  ·exact ha
  ·exact I.alike q h1
 ·rcases keep q hq with rfl | h1
  ·exact absurd rfl he
  ·rcases I.kids q h1 i hi (fun e => e) with h2 | h2
   ·rcases List.mem_append.1 h2 with h2 | h2
    ·exact .inl h2
    ·simp at h2; rw [h2]; exact .inr (by rw [upd_same]; simp)
   ·exact .inr (upd_some h2)
 ·rcases keep q hq with rfl | h1
  ·exact ⟨upd_same _ _ _, upd_same _ _ _⟩
  ·obtain ⟨e1, e2⟩ := I.fr q h1 hfq
   constructor
   ·by_cases e : q.1 = p.1
    ·rw [e, upd_same, ← hf q.2 (by rw [← e]; exact e1)]
    ·rw [upd_ne _ _ e, e1]
   ·by_cases e : q.2 = p.2
    ·rw [e, upd_same, ← hb q.1 (by rw [← e]; exact e2)]
    ·rw [upd_ne _ _ e, e2]
 ·by_cases ea : a = p.1
  ·subst ea
   rw [upd_same] at e
   cases e
   exact ⟨mp, hfr⟩
  ·rw [upd_ne _ _ ea] at e
   exact ⟨upd_some (I.fo a b e).1, (I.fo a b e).2⟩
 ·by_cases ea : b = p.2
  ·subst ea
   rw [upd_same] at e
   cases e
   exact ⟨mp, hfr⟩
  ·rw [upd_ne _ _ ea] at e
   exact ⟨upd_some (I.ba b a e).1, (I.ba b a e).2⟩

theorem Inv.more {j : Nat} (I : Inv g h (fun q i => q = p ∧ j ≤ i) l m f bk) (hp : m p ≠ none) (h1 : j < g.deg p.1) (h2 : j < h.deg p.2) :
  Inv g h (fun q i => q = p ∧ j + 1 ≤ i) (l ++ [(g.kid p.1 j, h.kid p.2 j)]) m f bk := by
 refine ⟨fun q hq => ?_, I.rm, ?_, I.alike, fun q hq i hi he => ?_, I.fr, I.fo, I.ba⟩
 ·rcases List.mem_append.1 hq with hq | hq
  ·exact I.rl q hq
  ·simp at hq; subst hq; exact .kid (I.rm p hp) h1 h2
 ·rcases I.root with h1 | h1
  ·exact .inl (by simp [h1])
  ·exact .inr h1
 ·by_cases hj : q = p ∧ i = j
  ·obtain ⟨rfl, rfl⟩ := hj
   exact .inl (by simp)
  ·rcases I.kids q hq i hi (fun e => he ⟨e.1, by have := e.2; have : i ≠ j := fun e' => hj ⟨e.1, e'⟩; omega⟩) with h3 | h3
   ·exact .inl (by simp [h3])
   ·exact .inr h3
theorem Inv.first (I : Inv g h (fun q _ => q = p) l m f bk) : Inv g h (fun q i => q = p ∧ 0 ≤ i) l m f bk :=
 { I with kids := fun q hq i hi he => I.kids q hq i hi (fun e => he ⟨e, Nat.zero_le _⟩) }
theorem Inv.last {j : Nat} (I : Inv g h (fun q i => q = p ∧ j ≤ i) l m f bk) (hj : g.deg p.1 ≤ j) : Inv g h noEx l m f bk :=
 { I with kids := fun q hq i hi _ => I.kids q hq i hi (fun e => by have := e.2; rw [e.1] at hi; omega) }

theorem Inv.done (I : Inv g h noEx [] m f bk) (c0 : g.checkC = 0) (c1 : h.checkC = 0) : SameG g h := by
 have all : ∀ a b, RP g h a b → m (a, b) ≠ none := fun a b r => by
  induction r with
  | root => exact I.root.resolve_left (by simp)
  | kid _ h1 _ ih => exact (I.kids _ ih _ h1 (fun e => e)).resolve_left (by simp)
 refine ⟨c0, c1, fun a b r => I.alike _ (all a b r), fun a b a' b' r r' hf => ⟨fun e => ?_, fun e => ?_⟩⟩
 ·subst e
  have e1 := (I.fr _ (all a b r) hf).1
  have e2 := (I.fr _ (all a b' r') hf).1
  simp only at e1 e2
  rw [e1] at e2
  exact Option.some.inj e2
 ·subst e
  have ha := I.alike _ (all a b r)
  have ha' := I.alike _ (all a' b r')
  have hf' : freeB (g.nd a') = true := by
   have h1 := alike_free ha
   have h2 := alike_free ha'
   simp only at h1 h2
   rw [h2, ← h1, hf]
  have e1 := (I.fr _ (all a b r) hf).2
  have e2 := (I.fr _ (all a' b r') hf').2
  simp only at e1 e2
  rw [e1] at e2
  exact Option.some.inj e2
theorem not_same_alike {a b : Nat} (r : RP g h a b) (ha : alikeB (g.nd a) (h.nd b) = false) : ¬ SameG g h := fun s => by
 rw [s.alike a b r] at ha; cases ha
theorem Inv.not_forth {b : Nat} (I : Inv g h noEx (l ++ [p]) m f bk) (hf : f p.1 = some b) (hne : b ≠ p.2) : ¬ SameG g h := fun s => by
 obtain ⟨h1, h2⟩ := I.fo _ _ hf
 exact hne ((s.one _ _ _ _ (I.rm _ h1) (I.rl p (by simp)) h2).1 rfl)
theorem Inv.not_back {a : Nat} (I : Inv g h noEx (l ++ [p]) m f bk) (hb : bk p.2 = some a) (hne : a ≠ p.1) : ¬ SameG g h := fun s => by
 obtain ⟨h1, h2⟩ := I.ba _ _ hb
 exact hne ((s.one _ _ _ _ (I.rm _ h1) (I.rl p (by simp)) h2).2 rfl)
end

/-! how many rounds at the most -/
def univ (n k : Nat) : List (Nat × Nat) := (List.range n).flatMap fun a => (List.range k).map fun b => (a, b)
theorem mem_univ {n k : Nat} {p : Nat × Nat} : p ∈ univ n k ↔ p.1 < n ∧ p.2 < k := by
 obtain ⟨a, b⟩ := p
 simp [univ]
theorem univ_nodup (n k : Nat) : (univ n k).Nodup := by
 unfold univ
 refine List.pairwise_flatMap.2 ⟨fun a _ => ?_, ?_⟩
 ·exact List.Pairwise.map _ (fun x y hxy e => hxy (by simpa using e)) List.nodup_range
 ·refine List.Pairwise.imp ?_ (List.nodup_range (n := n))
  intro a b hab x hx y hy e
  obtain ⟨_, _, rfl⟩ := List.mem_map.1 hx
  obtain ⟨_, _, rfl⟩ := List.mem_map.1 hy
  exact hab (by simpa using congrArg Prod.fst e)
def wgt (g : Tre.Graph) (m : Nat × Nat → Option Unit) (q : Nat × Nat) : Nat := if m q = none then g.deg q.1 else 0
def left (g h : Tre.Graph) (m : Nat × Nat → Option Unit) : Nat := ((univ g.ns.length h.ns.length).map (wgt g m)).sum
theorem sum_upd {α : Type} (F G : α → Nat) (p : α) : ∀ L : List α, L.Nodup → p ∈ L → (∀ q, q ≠ p → F q = G q) → (L.map F).sum + G p = (L.map G).sum + F p
 | [], _, h, _ => by cases h
 | x :: r, hn, h, he => by
  have hx := List.nodup_cons.1 hn
  simp only [List.map_cons, List.sum_cons]
  rcases List.mem_cons.1 h with rfl | h
  ·have : r.map F = r.map G := List.map_congr_left (fun q hq => he q (fun e => hx.1 (e ▸ hq)))
   rw [this]; omega
  ·have := sum_upd F G p r hx.2 h he
   have hxp : x ≠ p := fun e => hx.1 (e ▸ h)
   rw [he x hxp]; omega
theorem left_mark {g h : Tre.Graph} {m : Nat × Nat → Option Unit} {p : Nat × Nat} (h1 : p.1 < g.ns.length) (h2 : p.2 < h.ns.length) (hm : m p = none) :
  left g h (upd m p ()) + g.deg p.1 = left g h m := by
 have := sum_upd (wgt g (upd m p ())) (wgt g m) p _ (univ_nodup g.ns.length h.ns.length) (mem_univ.2 ⟨h1, h2⟩) (fun q hq => by unfold wgt; rw [upd_ne m () hq])
 have e1 : wgt g m p = g.deg p.1 := by unfold wgt; rw [if_pos hm]
 have e2 : wgt g (upd m p ()) p = 0 := by unfold wgt; rw [upd_same]; simp
 unfold left
 omega
end Go.Tre
