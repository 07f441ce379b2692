/- graph.Check, by its parts: slices.IndexFunc and ContainsFunc over nodes. -/
import Derived.Test.YtlkfhbmjemjohaaMayw
namespace Go.Tre
/-- may a graph be? 0: it may; 3: too long; 2: it may not -/
def Graph.checkC (g : Graph) : Int := if 1048576 < g.ns.length then 3 else if g.root < 0 ∨ (g.ns.length : Int) ≤ g.root ∨ g.ns.any (fun n => !mayB n g.ns.length) = true then 2 else 0
theorem node_weight {n : Tre.Node} {l : List Tre.Node} (h : n ∈ l) : n.weight ≤ (l.map Tre.Node.weight).sum := by
  induction l with
  | nil => cases h
  | cons x r ih =>
    simp only [List.map_cons, List.sum_cons]
    rcases List.mem_cons.1 h with rfl | h
    · omega
    · have := ih h; omega
end Go.Tre
namespace Go.Proofs.Ytlkfhbmjemjohaa.gr
open Go.RowKit Go.Maps Go.Tre lex

set_option maxHeartbeats 2000000 in
theorem indexNodes (F : Nat) (caps : Array Value) (hcf : ∀ (args : Array Value) (w : World), (callFunc F args).run Try.prog w = .ok (.enter F args) w) (p : Tre.Node → Bool)
    (a : Option Addr) (cap : Nat) (xs : List Tre.Node) (w : World) (hx : NodesAt w a xs) (hlen : xs.length ≤ 8388608)
    (hF : ∀ n aa ca al cl wx, n ∈ xs → Below w.heap.size w wx → IntsAt wx aa n.args → StrsAt wx al n.labels →
      Calls Try.prog F (#[.agg #[.int .i64 n.kind, .string n.name, .slice aa n.args.length ca, .slice al n.labels.length cl, .bool n.isOpen]] ++ caps) wx fun e w' => e = .returned (.bool (p n)) ∧ Below wx.heap.size wx w') :
    Calls Try.prog 38 #[.slice a xs.length cap, .func (.func F) #[] caps] w fun e w' => e = .returned (.int .i64 (idxFunc p xs)) ∧ Below w.heap.size w w' := by
  have HF := Tre.hid hF
  clear hF
  go_enter Try.func38, Try.ntmps38
  go_wp2_with fail
  go_loopw [8] (fun i wr => ∃ k : Nat, k ≤ xs.length ∧ i = .int .i64 k ∧ (∀ j (hj : j < xs.length), j < k → p xs[j] = false) ∧ Below w.heap.size w wr) (fun i _ => xs.length - (intOf i).toNat)
  case atStart => exact ⟨0, Nat.zero_le _, rfl, fun j _ h => by omega, Below.refl _ _⟩
  case round =>
    obtain ⟨k, hk, rfl, hrel, hb⟩ := hrel
    have HR := Tre.hid hrel
    clear hrel
    by_cases hlt : k < xs.length
    · obtain ⟨b, off, rfl, hn⟩ := (hx.below hb).at_ k _ (List.getElem?_eq_getElem hlt)
      have hmem := List.getElem_mem hlt
      obtain ⟨aa, ca, al, cl, h0, h1, h2, h3, h4, h5, h6, _, _⟩ := hn
      have H5 := Tre.hid h5
      have H6 := Tre.hid h6
      clear h5 h6
      by_cases hp : p xs[k] = true
      · have HO := Tre.hid (idxFunc_hit hlt hp HR.out)
        go_wp2_with fail
        refine (HF.out xs[k] aa ca al cl _ hmem hb H5.out H6.out).mono ?_
        rintro e w' ⟨rfl, hb'⟩
        go_wp2_with fail
        go_ret
        exact ⟨ret_int HO.out.symm, hb.trans (hb'.mono hb.size)⟩
      · have hp' : p xs[k] = false := by simpa using hp
        have HP := Tre.hid hp'
        clear hp
        go_wp2_with fail
        refine (HF.out xs[k] aa ca al cl _ hmem hb H5.out H6.out).mono ?_
        rintro e w' ⟨rfl, hb'⟩
        go_wp2_with fail
        go_roundw
        case rel =>
          refine ⟨k + 1, by omega, by go_num, fun j hj hjk => ?_, hb.trans (hb'.mono hb.size)⟩
          by_cases e : j = k
          · subst e; exact HP.out
          · exact HR.out j hj (by omega)
        case measure => simp [intOf]; omega
    · have HO := Tre.hid (idxFunc_miss (p := p) (xs := xs) (fun j hj => HR.out j hj (by omega)))
      go_wp2_with fail
      go_ret
      exact ⟨ret_int HO.out.symm, hb⟩

set_option maxHeartbeats 1000000 in
theorem containsNodes (F : Nat) (caps : Array Value) (hcf : ∀ (args : Array Value) (w : World), (callFunc F args).run Try.prog w = .ok (.enter F args) w) (p : Tre.Node → Bool)
    (a : Option Addr) (cap : Nat) (xs : List Tre.Node) (w : World) (hx : NodesAt w a xs) (hlen : xs.length ≤ 8388608)
    (hF : ∀ n aa ca al cl wx, n ∈ xs → Below w.heap.size w wx → IntsAt wx aa n.args → StrsAt wx al n.labels →
      Calls Try.prog F (#[.agg #[.int .i64 n.kind, .string n.name, .slice aa n.args.length ca, .slice al n.labels.length cl, .bool n.isOpen]] ++ caps) wx fun e w' => e = .returned (.bool (p n)) ∧ Below wx.heap.size wx w') :
    Calls Try.prog 22 #[.slice a xs.length cap, .func (.func F) #[] caps] w fun e w' => e = .returned (.bool (xs.any p)) ∧ Below w.heap.size w w' := by
  have HI := Tre.hid (indexNodes F caps hcf p a cap xs w hx hlen hF)
  have HA := Tre.hid (idxFunc_any p xs)
  clear hF hx hcf
  go_enter Try.func22, Try.ntmps22
  go_wp2_with fail
  refine HI.out.mono ?_
  rintro e w' ⟨rfl, hb'⟩
  go_wp2_with fail
  go_ret
  exact ⟨ret_bool HA.out, hb'⟩

theorem cell_new1 (w : World) (cs : Array Value) (t : TypeId) (j : Nat) (u : Value) (h : cs[j]? = some u) : (w.alloc (.cells cs t)).cell? ⟨w.heap.size, j, none⟩ = some u := by
  have h1 : (w.alloc (.cells cs t)).heap[w.heap.size]? = some (.cells cs t) := heap_alloc_new w _
  simp only [World.cell?, h1]; exact h
theorem hcfC (args : Array Value) (w : World) : (callFunc 20 args).run Try.prog w = .ok (.enter 20 args) w := by kernel_rfl

set_option maxHeartbeats 1000000 in
theorem check1 (n : Tre.Node) (aa : Option Addr) (ca : Nat) (al : Option Addr) (cl : Nat) (bg bm b : Nat) (an : Option Addr) (size cap : Nat) (w : World) (ha : IntsAt w aa n.args) (hl : StrsAt w al n.labels) (hw : n.weight ≤ 8388608)
    (hg : w.cell? ⟨bg, 0, none⟩ = some (.slice an size cap)) (hb : w.cell? ⟨bm, 0, none⟩ = some (.map (some b)))
    (hmap : MapIs Try.prog 9 Value.string ei w b 6 arity) (hm : MaxAt w) :
    Calls Try.prog 20 #[.agg #[.int .i64 n.kind, .string n.name, .slice aa n.args.length ca, .slice al n.labels.length cl, .bool n.isOpen], .pointer (some ⟨bg, 0, none⟩), .pointer (some ⟨bm, 0, none⟩)] w
      fun e w' => e = .returned (.bool (!mayB n size)) ∧ Below w.heap.size w w' := by
  have bb : Below w.heap.size w (w.alloc (.cells #[.int .i64 n.kind, .string n.name, .slice aa n.args.length ca, .slice al n.labels.length cl, .bool n.isOpen] 38)) := (Below.refl _ _).alloc (Nat.le_refl _) _
  have C := Tre.hid (may_any n size aa ca al cl b _ (ha.below bb) (hl.below bb) hw (hmap.alloc _) (hm.below bb))
  have hg' := cell_below bb hg
  have hb' := cell_below bb hb
  clear ha hl hmap hm bb hg hb
  go_enter Try.func20, Try.ntmps20
  go_wp2_with fail
  refine C.out.mono ?_
  rintro e w1 ⟨rfl, b1⟩
  go_wp2_with fail
  go_ret
  exact ⟨rfl, after1 b1⟩

theorem after_two {w w0 w1 : World} (h0 : Below w.heap.size w w0) (h1 : Below w0.heap.size w0 w1) : Below w.heap.size w w1 := h0.trans (h1.mono h0.size)

set_option maxHeartbeats 2000000 in
theorem check_any (a : Option Addr) (cap : Nat) (g : Tre.Graph) (w : World) (hn : NodesAt w a g.ns) (hw : g.weight ≤ 8388608) (hm : MaxAt w) :
    Calls Try.prog 8 #[.agg #[.slice a g.ns.length cap, .int .i64 g.root]] w fun e w' => e = .returned (.int .i64 g.checkC) ∧ Below w.heap.size w w' := by
  have hlen : g.ns.length ≤ 8388608 := Nat.le_trans (length_le_sum _ (fun x => by unfold Tre.Node.weight; omega) _) hw
  have b0 : Below w.heap.size w (w.alloc (.cells #[.slice a g.ns.length cap, .int .i64 g.root] 24)) := (Below.refl _ _).alloc (Nat.le_refl _) _
  by_cases hl : 1048576 < g.ns.length
  · have H : Hid (g.checkC = 3) := by show _ = _; unfold Tre.Graph.checkC; rw [if_pos hl]
    go_enter Try.func8, Try.ntmps8
    go_wp2_with fail
    go_ret
    exact ⟨ret_int (by rw [H.out]), b0⟩
  · have HN := Tre.hid (hn.below b0)
    have HM := Tre.hid (hm.below b0)
    clear hn hm
    by_cases hr0 : g.root < 0
    · have H : Hid (g.checkC = 2) := by show _ = _; unfold Tre.Graph.checkC; rw [if_neg hl, if_pos (.inl hr0)]
      go_enter Try.func8, Try.ntmps8
      go_wp2_with fail
      refine (arity_any _).mono ?_
      rintro e w1 ⟨rfl, m1, b1⟩
      have B1 := after_two b0 b1
      have hz : w.heap.size < w1.heap.size := by have := b1.size; simp at this; omega
      have g0 : w1.cell? ⟨w.heap.size, 0, none⟩ = some (.slice a g.ns.length cap) := cell_below b1 (cell_new1 w _ _ 0 _ rfl)
      have g1 : w1.cell? ⟨w.heap.size, 1, none⟩ = some (.int .i64 g.root) := cell_below b1 (cell_new1 w _ _ 1 _ rfl)
      have MM := Tre.hid m1
      have BB := Tre.hid b1
      clear b1 m1
      go_wp2_with fail
      go_ret
      exact ⟨ret_int (by rw [H.out]), B1.alloc B1.size _⟩
    by_cases hr1 : (g.ns.length : Int) ≤ g.root
    · have H : Hid (g.checkC = 2) := by show _ = _; unfold Tre.Graph.checkC; rw [if_neg hl, if_pos (.inr (.inl hr1))]
      go_enter Try.func8, Try.ntmps8
      go_wp2_with fail
      refine (arity_any _).mono ?_
      rintro e w1 ⟨rfl, m1, b1⟩
      have B1 := after_two b0 b1
      have hz : w.heap.size < w1.heap.size := by have := b1.size; simp at this; omega
      have g0 : w1.cell? ⟨w.heap.size, 0, none⟩ = some (.slice a g.ns.length cap) := cell_below b1 (cell_new1 w _ _ 0 _ rfl)
      have g1 : w1.cell? ⟨w.heap.size, 1, none⟩ = some (.int .i64 g.root) := cell_below b1 (cell_new1 w _ _ 1 _ rfl)
      have MM := Tre.hid m1
      have BB := Tre.hid b1
      clear b1 m1
      go_wp2_with fail
      go_ret
      exact ⟨ret_int (by rw [H.out]), B1.alloc B1.size _⟩
    have H2 : Hid (g.checkC = if g.ns.any (fun n => !mayB n g.ns.length) = true then 2 else 0) := by
      show _ = _
      unfold Tre.Graph.checkC
      rw [if_neg hl]
      by_cases hy : g.ns.any (fun n => !mayB n g.ns.length) = true
      · rw [if_pos (.inr (.inr hy)), if_pos hy]
      · rw [if_neg (by rintro (h | h | h) <;> contradiction), if_neg hy]
    by_cases hy : g.ns.any (fun n => !mayB n g.ns.length) = true
    · have H : Hid (g.checkC = 2) := by show _ = _; unfold Tre.Graph.checkC; rw [if_neg hl, if_pos (.inr (.inr hy))]
      have HY := Tre.hid hy
      clear hy
      go_enter Try.func8, Try.ntmps8
      go_wp2_with fail
      refine (arity_any _).mono ?_
      rintro e w1 ⟨rfl, m1, b1⟩
      have B1 := after_two b0 b1
      have hz : w.heap.size < w1.heap.size := by have := b1.size; simp at this; omega
      have g0 : w1.cell? ⟨w.heap.size, 0, none⟩ = some (.slice a g.ns.length cap) := cell_below b1 (cell_new1 w _ _ 0 _ rfl)
      have g1 : w1.cell? ⟨w.heap.size, 1, none⟩ = some (.int .i64 g.root) := cell_below b1 (cell_new1 w _ _ 1 _ rfl)
      have MM := Tre.hid m1
      have BB := Tre.hid b1
      clear b1 m1
      go_wp2_with fail
      have z0 := Below.alloc (Below.refl w1.heap.size w1) (Nat.le_refl _) (.cells #[.map (some (w.heap.size + 1))] 44)
      have q0 : (w1.alloc (.cells #[.map (some (w.heap.size + 1))] 44)).cell? ⟨w.heap.size, 0, none⟩ = some (.slice a g.ns.length cap) := cell_below z0 g0
      have q1 : (w1.alloc (.cells #[.map (some (w.heap.size + 1))] 44)).cell? ⟨w1.heap.size, 0, none⟩ = some (.map (some (w.heap.size + 1))) := cell_new1 w1 _ _ 0 _ rfl
      have B2 := B1.alloc B1.size (.cells #[.map (some (w.heap.size + 1))] 44)
      have mm := MM.out.alloc (.cells #[.map (some (w.heap.size + 1))] 44)
      rw [World.size_alloc] at mm
      have C0 : Below (w.alloc (.cells #[.slice a g.ns.length cap, .int .i64 g.root] 24)).heap.size (w.alloc (.cells #[.slice a g.ns.length cap, .int .i64 g.root] 24)) (w1.alloc (.cells #[.map (some (w.heap.size + 1))] 44)) := BB.out.alloc BB.out.size _
      refine (containsNodes 20 #[.pointer (some ⟨w.heap.size, 0, none⟩), .pointer (some ⟨w1.heap.size, 0, none⟩)] hcfC (fun n => !mayB n g.ns.length) a cap g.ns _ (HN.out.below C0) hlen
        (fun n aa ca al cl wx hmem hbx hia hil => check1 n aa ca al cl _ _ _ a _ cap wx hia hil (Nat.le_trans (node_weight hmem) hw) (cell_below hbx q0) (cell_below hbx q1) (mm.block (hbx.block _ mm.lt)) ((HM.out.below C0).below hbx))).mono ?_
      rintro e w2 ⟨rfl, b2⟩
      have B3 := after_two B2 b2
      clear b2 C0 mm B2 q0 q1 z0
      have HY2 : g.ns.any (fun n => !mayB n g.ns.length) = true := HY.out
      go_wp2_with fail
      go_ret
      exact ⟨ret_int (by rw [H.out]), B3⟩
    · have HY : Hid (g.ns.any (fun n => !mayB n g.ns.length) = false) := by show _ = _; simpa using hy
      have H : Hid (g.checkC = 0) := by show _ = _; rw [H2.out, if_neg hy]
      clear hy
      go_enter Try.func8, Try.ntmps8
      go_wp2_with fail
      refine (arity_any _).mono ?_
      rintro e w1 ⟨rfl, m1, b1⟩
      have B1 := after_two b0 b1
      have hz : w.heap.size < w1.heap.size := by have := b1.size; simp at this; omega
      have g0 : w1.cell? ⟨w.heap.size, 0, none⟩ = some (.slice a g.ns.length cap) := cell_below b1 (cell_new1 w _ _ 0 _ rfl)
      have g1 : w1.cell? ⟨w.heap.size, 1, none⟩ = some (.int .i64 g.root) := cell_below b1 (cell_new1 w _ _ 1 _ rfl)
      have MM := Tre.hid m1
      have BB := Tre.hid b1
      clear b1 m1
      go_wp2_with fail
      have z0 := Below.alloc (Below.refl w1.heap.size w1) (Nat.le_refl _) (.cells #[.map (some (w.heap.size + 1))] 44)
      have q0 : (w1.alloc (.cells #[.map (some (w.heap.size + 1))] 44)).cell? ⟨w.heap.size, 0, none⟩ = some (.slice a g.ns.length cap) := cell_below z0 g0
      have q1 : (w1.alloc (.cells #[.map (some (w.heap.size + 1))] 44)).cell? ⟨w1.heap.size, 0, none⟩ = some (.map (some (w.heap.size + 1))) := cell_new1 w1 _ _ 0 _ rfl
      have B2 := B1.alloc B1.size (.cells #[.map (some (w.heap.size + 1))] 44)
      have mm := MM.out.alloc (.cells #[.map (some (w.heap.size + 1))] 44)
      rw [World.size_alloc] at mm
      have C0 : Below (w.alloc (.cells #[.slice a g.ns.length cap, .int .i64 g.root] 24)).heap.size (w.alloc (.cells #[.slice a g.ns.length cap, .int .i64 g.root] 24)) (w1.alloc (.cells #[.map (some (w.heap.size + 1))] 44)) := BB.out.alloc BB.out.size _
      refine (containsNodes 20 #[.pointer (some ⟨w.heap.size, 0, none⟩), .pointer (some ⟨w1.heap.size, 0, none⟩)] hcfC (fun n => !mayB n g.ns.length) a cap g.ns _ (HN.out.below C0) hlen
        (fun n aa ca al cl wx hmem hbx hia hil => check1 n aa ca al cl _ _ _ a _ cap wx hia hil (Nat.le_trans (node_weight hmem) hw) (cell_below hbx q0) (cell_below hbx q1) (mm.block (hbx.block _ mm.lt)) ((HM.out.below C0).below hbx))).mono ?_
      rintro e w2 ⟨rfl, b2⟩
      have B3 := after_two B2 b2
      clear b2 C0 mm B2 q0 q1 z0
      have HY2 : g.ns.any (fun n => !mayB n g.ns.length) = false := HY.out
      go_wp2_with fail
      go_ret
      exact ⟨ret_int (by rw [H.out]), B3⟩
end Go.Proofs.Ytlkfhbmjemjohaa.gr
