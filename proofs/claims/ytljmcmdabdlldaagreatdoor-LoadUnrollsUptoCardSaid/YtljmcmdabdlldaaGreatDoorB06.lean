/- Plain: a graph's free nodes. Nodes that a call makes: a row of them, their rows of arguments and labels. graph.Trim: plain. Plain laws on being the same. Whether two variables are one is told: plain. How many pairs there are; how long a graph is. What is trimmed is the same type, and trimmed again it is itself: plain. Layer 7, plain: a type's nodes in a table; what its names are bound to; its graph. Steps through a drawn region, by hand: the slot that an operation writes is typed. -/
import Derived.Test.YtljmcmdabdlldaaGreatDoorB05
import Derived.Test.YtljmcmdabdlldaaGreatDoorB03
import Derived.Test.YtljmcmdabdlldaaGreatDoorB01
import Derived.Deep.RegionHeld3
set_option linter.unusedVariables false
namespace Go.Tre
def Graph.freeL (g : Tre.Graph) : List Nat := g.reachL.filter fun i => freeB (g.nd i)
theorem Graph.reach_lt (g : Tre.Graph) : ∀ a ∈ g.reachL, a < g.ns.length := by
 unfold Graph.reachL
 by_cases h : g.checkC = 0
 ·rw [if_pos h]
  have og := Graph.ok_of h
  exact (g.dfs_spec og _ [g.root.toNat] [] (Nat.le_refl _) (by simp) (by simp) (fun a ha => by simp at ha; rw [ha]; exact og.root1) (by simp)).2.1
 ·rw [if_neg h]; simp
theorem Graph.reach_nodup (g : Tre.Graph) : g.reachL.Nodup := by
 unfold Graph.reachL
 by_cases h : g.checkC = 0
 ·rw [if_pos h]
  have og := Graph.ok_of h
  exact (g.dfs_spec og _ [g.root.toNat] [] (Nat.le_refl _) (by simp) (by simp) (fun a ha => by simp at ha; rw [ha]; exact og.root1) (by simp)).1
 ·rw [if_neg h]; simp
theorem Graph.dfs_len {g : Tre.Graph} (og : g.Ok) : ∀ (k : Nat) (s out : List Nat), g.budget out + s.length ≤ k → (∀ a ∈ s, a < g.ns.length) → (g.dfs s out).length ≤ out.length + g.budget out := by
 intro k
 induction k with
 | zero =>
  intro s out hk _
  have : s = [] := List.length_eq_zero_iff.1 (by omega)
  subst this
  rw [g.dfs_nil]; omega
 | succ k ih =>
  intro s out hk hs
  cases s with
  | nil => rw [g.dfs_nil]; omega
  | cons a s =>
   by_cases hm : a ∈ out
   ·rw [Graph.dfs_skip hm]; exact ih s out (by simp at hk; omega) (fun b hb => hs b (by simp [hb]))
   ·have hal := hs a (by simp)
    have hb := Graph.budget_step hal hm
    rw [Graph.dfs_take hm hal]
    have := ih (g.kids a ++ s) (out ++ [a]) (by simp only [List.length_append, List.length_cons, g.kids_len] at hk ⊢; omega) (fun b hb' => by
     rcases List.mem_append.1 hb' with h | h
     ·exact og.kids_lt hal b h
     ·exact hs b (by simp [h]))
    simp only [List.length_append, List.length_singleton] at this
    omega
theorem Graph.reach_len (g : Tre.Graph) : g.reachL.length ≤ g.weight := by
 unfold Graph.reachL
 by_cases h : g.checkC = 0
 ·rw [if_pos h]
  have og := Graph.ok_of h
  have := Graph.dfs_len og _ [g.root.toNat] [] (Nat.le_refl _) (fun a ha => by simp at ha; rw [ha]; exact og.root1)
  have := g.budget_le
  simp at *
  omega
 ·rw [if_neg h]; simp
end Go.Tre
namespace Go.Tre
open Go.RowKit
structure NodeV where
 n : Tre.Node
 va : Value
 vl : Value
def NodeV.cells (d : NodeV) : List Value := [.int .i64 d.n.kind, .string d.n.name, d.va, d.vl, .bool d.n.isOpen]
end Go.Tre
namespace Go.Proofs.YtljmcmdabdlldaaGreatDoor.gr
open Go.RowKit Go.Shelf Go.Maps Go.Tre lex
def kids (d : NodeV) : List Res := [rowR 3 1 d.va d.n.args.length (d.n.args.map (Value.int .i64)), rowR 9 1 d.vl d.n.labels.length (d.n.labels.map Value.string)]
def nodesR (v : Value) (ds : List NodeV) : Res := rowR 39 5 v ds.length (ds.flatMap NodeV.cells)
def kidsR (ds : List NodeV) : Res := manyR (ds.flatMap kids)
theorem cells_at : ∀ (ds : List NodeV) (k j : Nat) (d : NodeV), ds[k]? = some d → j < 5 → (ds.flatMap NodeV.cells)[k * 5 + j]? = d.cells[j]? := by
 intro ds
 induction ds with
 | nil => intro k j d h; simp at h
 | cons x r ih =>
  intro k j d h hj
  have hl : x.cells.length = 5 := rfl
  rw [List.flatMap_cons]
  cases k with
  | zero =>
   simp at h; subst h
   rw [Nat.zero_mul, Nat.zero_add, List.getElem?_append_left (by rw [hl]; exact hj)]
  | succ k =>
   simp at h
   rw [List.getElem?_append_right (by rw [hl]; omega), hl, show (k + 1) * 5 + j - 5 = k * 5 + j by omega]
   exact ih k j d h hj
theorem kidsR_snoc (ds : List NodeV) (d : NodeV) : kidsR (ds ++ [d]) = manyR (ds.flatMap kids ++ kids d) := by unfold kidsR; rw [List.flatMap_append]; simp
theorem nodesR_snoc (v : Value) (ds : List NodeV) (d : NodeV) : nodesR v (ds ++ [d]) = rowR 39 5 v (ds.length + 1) (ds.flatMap NodeV.cells ++ d.cells) := by unfold nodesR; rw [List.flatMap_append, List.length_append]; simp
theorem row_read {w : World} {e : TypeId} {size n : Nat} {v : Value} {xs : List Value} (h : w.ownsRow 0 e size v n xs) : ∃ a c, v = .slice a n c ∧ n ≤ c ∧ Row w size a n xs := by
 rcases h.2 with ⟨rfl, rfl⟩ | ⟨g, cap, cur, rfl, _, hg, hc, _⟩
 ·refine ⟨_, _, rfl, Nat.le_refl _, h.1, fun j u hu => ?_⟩
  have : xs = [] := List.eq_nil_of_length_eq_zero (by simpa using h.1)
  subst this
  simp at hu
 ·refine ⟨_, _, rfl, hc, h.1, fun j u hu => ⟨g, 0, rfl, ?_⟩⟩
  rw [Nat.zero_add, h.cellAt j (by have := (List.getElem?_eq_some_iff.1 hu).1; rw [← h.1]; exact this), hu]
theorem nodes_read {w : World} {a : Option Addr} {n c : Nat} {ds : List NodeV} (h : (nodesR (.slice a n c) ds).P w) (hk : (kidsR ds).P w) : NodesAt w a (ds.map NodeV.n) := by
 refine ⟨fun k n hn => ?_⟩
 rw [List.getElem?_map] at hn
 obtain ⟨d, hd, rfl⟩ := Option.map_eq_some_iff.1 hn
 have hr : w.ownsRow 0 _ 5 (.slice a _ c) _ _ := h
 obtain ⟨a', c', e, _, hrow⟩ := row_read hr
 cases e
 have hmem := List.mem_of_getElem? hd
 have ha := hk (rowR 3 1 d.va d.n.args.length (d.n.args.map (Value.int .i64))) (List.mem_flatMap.2 ⟨d, hmem, by simp [kids]⟩)
 have hl := hk (rowR 9 1 d.vl d.n.labels.length (d.n.labels.map Value.string)) (List.mem_flatMap.2 ⟨d, hmem, by simp [kids]⟩)
 obtain ⟨aa, ca, ea, la, ra⟩ := row_read ha
 obtain ⟨al, cl, el, ll, rl⟩ := row_read hl
 obtain ⟨b, off, e0, c0⟩ := hrow.at_ (k * 5 + 0) _ ((cells_at ds k 0 d hd (by omega)).trans rfl)
 have rest : ∀ j u, j < 5 → d.cells[j]? = some u → w.cell? ⟨b, off + (k * 5 + j), none⟩ = some u := fun j u hj hu => by
  obtain ⟨b', off', e', c'⟩ := hrow.at_ (k * 5 + j) u ((cells_at ds k j d hd hj).trans hu)
  rw [e0] at e'; cases e'; exact c'
 refine ⟨b, off, e0, aa, ca, al, cl, ?_, ?_, ?_, ?_, ?_, ra, rl, la, ll⟩
 ·have := rest 0 _ (by omega) rfl; rwa [Nat.add_zero] at this
 ·have := rest 1 _ (by omega) rfl; rwa [← Nat.add_assoc] at this
 ·have := rest 2 d.va (by omega) rfl; rw [← Nat.add_assoc, ea] at this; exact this
 ·have := rest 3 d.vl (by omega) rfl; rw [← Nat.add_assoc, el] at this; exact this
 ·have := rest 4 _ (by omega) rfl; rwa [← Nat.add_assoc] at this

theorem cloneInts (a : Option Addr) (cap : Nat) (xs : List Int) (w : World) (hx : IntsAt w a xs) (hl : xs.length ≤ 8388608) :
  Calls Tryz.prog 32 #[.slice a xs.length cap] w fun e w' => ∃ v, e = .returned v ∧ Mem w w' [rowR 3 1 v xs.length (xs.map (Value.int .i64))] := by
 cases a with
 | none =>
  have h0 : xs = [] := by
   cases xs with
   | nil => rfl
   | cons x r => obtain ⟨_, _, e, _⟩ := hx.at_ 0 (.int .i64 x) rfl; cases e
  subst h0
  exact (Tryz.slices_Clone_int_nil _ _ _).mono fun e w' ⟨h1, h2⟩ => ⟨_, h1, by subst h2; exact (Mem.nil w').addNil _ _⟩
 | some ad =>
  by_cases h0 : xs = []
  ·subst h0
   exact (Tryz.slices_Clone_int_zero ad cap w).mono fun e w' ⟨v, h1, h2, _, h4⟩ => ⟨v, h1, Mem.of_own h2 h4⟩
  ·obtain ⟨x, r, rfl⟩ := List.exists_cons_of_ne_nil h0
   obtain ⟨b, off, e, _⟩ := hx.at_ 0 (.int .i64 x) rfl
   cases e
   refine (Tryz.slices_Clone_int b off (x :: r).length cap (x :: r) w (Nat.le_refl _) (by omega) (fun j hj => ?_)).mono fun e w' ⟨v, h1, h2, _, h4⟩ => ⟨v, h1, Mem.of_own (by rw [List.take_of_length_le (Nat.le_refl _)] at h2; exact h2) h4⟩
   obtain ⟨b', off', e', c'⟩ := hx.at_ j (.int .i64 ((x :: r).getD j 0)) (by rw [List.getElem?_map, List.getD_eq_getElem?_getD, List.getElem?_eq_getElem hj]; rfl)
   cases e'; exact c'
theorem cloneStrs (a : Option Addr) (cap : Nat) (xs : List ByteArray) (w : World) (hx : StrsAt w a xs) (hl : xs.length ≤ 8388608) :
  Calls Tryz.prog 31 #[.slice a xs.length cap] w fun e w' => ∃ v, e = .returned v ∧ Mem w w' [rowR 9 1 v xs.length (xs.map Value.string)] := by
 cases a with
 | none =>
  have h0 : xs = [] := by
   cases xs with
   | nil => rfl
   | cons x r => obtain ⟨_, _, e, _⟩ := hx.at_ 0 (.string x) rfl; cases e
  subst h0
  exact (Tryz.slices_Clone_string_nil _ _ _).mono fun e w' ⟨h1, h2⟩ => ⟨_, h1, by subst h2; exact (Mem.nil w').addNil _ _⟩
 | some ad =>
  by_cases h0 : xs = []
  ·subst h0
   exact (Tryz.slices_Clone_string_zero ad cap w).mono fun e w' ⟨v, h1, h2, _, h4⟩ => ⟨v, h1, Mem.of_own h2 h4⟩
  ·obtain ⟨x, r, rfl⟩ := List.exists_cons_of_ne_nil h0
   obtain ⟨b, off, e, _⟩ := hx.at_ 0 (.string x) rfl
   cases e
   refine (Tryz.slices_Clone_string b off (x :: r).length cap (x :: r) w (Nat.le_refl _) (by omega) (fun j hj => ?_)).mono fun e w' ⟨v, h1, h2, _, h4⟩ => ⟨v, h1, Mem.of_own (by rw [List.take_of_length_le (Nat.le_refl _)] at h2; exact h2) h4⟩
   obtain ⟨b', off', e', c'⟩ := hx.at_ j (.string ((x :: r).getD j ByteArray.empty)) (by rw [List.getElem?_map, List.getD_eq_getElem?_getD, List.getElem?_eq_getElem hj]; rfl)
   cases e'; exact c'
end Go.Proofs.YtljmcmdabdlldaaGreatDoor.gr
namespace Go.Tre
def placeOf (L : List Nat) (a : Int) : Int := ((L.idxOf a.toNat : Nat) : Int)
def trimNode (L : List Nat) (n : Tre.Node) : Tre.Node := { n with args := n.args.map (placeOf L) }
def Graph.trim (g : Tre.Graph) : Tre.Graph := ⟨g.reachL.map fun i => trimNode g.reachL (g.nd i), 0⟩
def idxMap (L : List Nat) (k : Nat) : Nat → Option Nat := fun x => if x ∈ L.take k then some (L.idxOf x) else none
theorem idxOf_nodup {L : List Nat} (hn : L.Nodup) {k : Nat} (h : k < L.length) : L.idxOf L[k] = k := by
 have h1 : L.idxOf L[k] < L.length := List.idxOf_lt_length_of_mem (List.getElem_mem h)
 have h2 : L[L.idxOf L[k]] = L[k] := List.getElem_idxOf h1
 exact (List.getElem?_inj h1 hn).1 (by rw [List.getElem?_eq_getElem h1, List.getElem?_eq_getElem h, h2])
theorem idxMap_succ {L : List Nat} (hn : L.Nodup) {k : Nat} (h : k < L.length) : upd (idxMap L k) L[k] k = idxMap L (k + 1) := by
 funext x
 unfold upd idxMap
 have e : L.take (k + 1) = L.take k ++ [L[k]] := by rw [List.take_add_one, List.getElem?_eq_getElem h]; rfl
 rw [e]
 by_cases hx : x = L[k]
 ·subst hx
  rw [if_pos rfl, if_pos (List.mem_append.2 (.inr (List.mem_singleton.2 rfl))), idxOf_nodup hn h]
 ·rw [if_neg hx]
  have : (x ∈ L.take k ++ [L[k]]) = (x ∈ L.take k) := by rw [List.mem_append, List.mem_singleton]; simp only [hx, or_false]
  simp only [this]
theorem idxMap_all (L : List Nat) {x : Nat} (h : x ∈ L) : idxMap L L.length x = some (L.idxOf x) := by
 unfold idxMap; rw [List.take_length, if_pos h]
def half {α : Type} (f : α → α) (l : List α) (j : Nat) : List α := (l.take j).map f ++ l.drop j
theorem half_zero {α : Type} (f : α → α) (l : List α) : half f l 0 = l := by simp [half]
theorem half_all {α : Type} (f : α → α) (l : List α) : half f l l.length = l.map f := by simp [half]
theorem half_at {α : Type} (f : α → α) (l : List α) {j : Nat} (h : j < l.length) : (half f l j)[j]? = some l[j] := by
 unfold half
 rw [List.getElem?_append_right (by rw [List.length_map, List.length_take]; omega), List.length_map, List.length_take, Nat.min_eq_left (by omega), Nat.sub_self, List.getElem?_drop, Nat.add_zero, List.getElem?_eq_getElem h]
theorem half_set {α : Type} (f : α → α) (l : List α) {j : Nat} (h : j < l.length) : (half f l j).set j (f l[j]) = half f l (j + 1) := by
 unfold half
 have e : ((l.take j).map f).length = j := by rw [List.length_map, List.length_take]; omega
 rw [List.set_append_right _ _ (by omega), e, Nat.sub_self, List.drop_eq_getElem_cons h, zqg, List.take_add_one, List.getElem?_eq_getElem h, List.map_append]
 simp
theorem Graph.reach_kids (g : Tre.Graph) {a : Nat} (ha : a ∈ g.reachL) : ∀ b ∈ g.kids a, b ∈ g.reachL := by
 unfold Graph.reachL at ha ⊢
 by_cases h : g.checkC = 0
 ·rw [if_pos h] at ha ⊢
  have og := Graph.ok_of h
  exact (g.dfs_spec og _ [g.root.toNat] [] (Nat.le_refl _) (by simp) (by simp) (fun a ha => by simp at ha; rw [ha]; exact og.root1) (by simp)).2.2.1 a ha
 ·rw [if_neg h] at ha; simp at ha
theorem Graph.reach_ok {g : Tre.Graph} {a : Nat} (ha : a ∈ g.reachL) : g.Ok := by
 unfold Graph.reachL at ha
 by_cases h : g.checkC = 0
 ·exact Graph.ok_of h
 ·rw [if_neg h] at ha; simp at ha
end Go.Tre
namespace Go.Tre
def setMap (L : List Nat) (k : Nat) : Nat → Option Unit := fun x => if x ∈ L.take k then some () else none
theorem Graph.reach_head {g : Tre.Graph} (h : g.checkC = 0) : g.reachL[0]? = some g.root.toNat := by
 have og := Graph.ok_of h
 unfold Graph.reachL
 rw [if_pos h, Graph.dfs_take (by simp) og.root1, List.append_nil, List.nil_append]
 obtain ⟨_, _, _, ⟨t, ht⟩, _⟩ := g.dfs_spec og _ (g.kids g.root.toNat) [g.root.toNat] (Nat.le_refl _) (by simp) (fun a ha => by simp at ha; rw [ha]; exact og.root1) (og.kids_lt og.root1) (fun a ha b hb => by simp at ha; subst ha; exact .inr hb)
 rw [ht]; rfl
theorem alike_refl (x : Tre.Node) : alikeB x x = true := by simp [alikeB]
theorem alike_symm {x y : Tre.Node} (h : alikeB x y = true) : alikeB y x = true := by
 unfold alikeB at *
 simp only [Bool.and_eq_true, decide_eq_true_eq] at *
 obtain ⟨⟨⟨⟨h1, h2⟩, h3⟩, h4⟩, h5⟩ := h
 exact ⟨⟨⟨⟨h1.symm, h2.symm⟩, h3.symm⟩, h4.symm⟩, h5.symm⟩
theorem alike_trans {x y z : Tre.Node} (h : alikeB x y = true) (k : alikeB y z = true) : alikeB x z = true := by
 unfold alikeB at *
 simp only [Bool.and_eq_true, decide_eq_true_eq] at *
 obtain ⟨⟨⟨⟨h1, h2⟩, h3⟩, h4⟩, h5⟩ := h
 obtain ⟨⟨⟨⟨k1, k2⟩, k3⟩, k4⟩, k5⟩ := k
 exact ⟨⟨⟨⟨h1.trans k1, h2.trans k2⟩, h3.trans k3⟩, h4.trans k4⟩, h5.trans k5⟩
theorem RP.symm {g h : Tre.Graph} {a b : Nat} (r : RP g h a b) : RP h g b a := by
 induction r with
 | root => exact .root
 | kid _ h1 h2 ih => exact .kid ih h2 h1
theorem SameG.symm {g h : Tre.Graph} (s : SameG g h) : SameG h g :=
 ⟨s.okh, s.okg, fun a b r => alike_symm (s.alike b a r.symm), fun a b a' b' r r' hf => (s.one b a b' a' r.symm r'.symm (by rw [alike_free (s.alike b a r.symm)]; exact hf)).symm⟩
theorem RP.refl_eq {g : Tre.Graph} {a b : Nat} (r : RP g g a b) : a = b := by
 induction r with
 | root => rfl
 | kid _ _ _ ih => rw [ih]
theorem SameG.refl {g : Tre.Graph} (h : g.checkC = 0) : SameG g g :=
 ⟨h, h, fun a b r => by rw [r.refl_eq]; exact alike_refl _, fun a b a' b' r r' _ => by rw [r.refl_eq, r'.refl_eq]⟩
theorem RP.comp {g h k : Tre.Graph} (s : SameG g h) (_t : SameG h k) {a c : Nat} (r : RP g k a c) : ∃ b, RP g h a b ∧ RP h k b c := by
 induction r with
 | root => exact ⟨_, .root, .root⟩
 | kid _ h1 h2 ih =>
  obtain ⟨b, r1, r2⟩ := ih
  have e1 := alike_deg (s.alike _ _ r1)
  refine ⟨h.kid b _, .kid r1 h1 ?_, .kid r2 ?_ h2⟩ <;> (unfold Graph.deg at *; omega)
theorem SameG.trans {g h k : Tre.Graph} (s : SameG g h) (t : SameG h k) : SameG g k := by
 refine ⟨s.okg, t.okh, fun a c r => ?_, fun a c a' c' r r' hf => ?_⟩
 ·obtain ⟨b, r1, r2⟩ := r.comp s t
  exact alike_trans (s.alike _ _ r1) (t.alike _ _ r2)
 ·obtain ⟨b, r1, r2⟩ := r.comp s t
  obtain ⟨b', r1', r2'⟩ := r'.comp s t
  exact (s.one _ _ _ _ r1 r1' hf).trans (t.one _ _ _ _ r2 r2' (by rw [← alike_free (s.alike _ _ r1)]; exact hf))
end Go.Tre
namespace Go.Tre
def starB : ByteArray := ⟨#[42]⟩
def varN : Tre.Node := ⟨1, ByteArray.empty, [], [], false⟩
def starN (a b : Int) : Tre.Node := ⟨2, starB, [a, b], [], false⟩
theorem mayB_var (k : Nat) : mayB varN k = true := by simp [mayB, varN]
theorem check_mk {g : Tre.Graph} (hl : g.ns.length ≤ 1048576) (h0 : 0 ≤ g.root) (h1 : g.root < g.ns.length) (hm : ∀ n ∈ g.ns, mayB n g.ns.length = true) : g.checkC = 0 := by
 unfold Graph.checkC
 rw [if_neg (by omega), if_neg]
 rintro (h | h | h)
 ·omega
 ·omega
 ·obtain ⟨n, hn, e⟩ := List.any_eq_true.1 h
  rw [hm n hn] at e
  cases e
def oneG (g : Tre.Graph) : Tre.Graph := ⟨g.ns ++ [varN, starN g.ns.length g.ns.length], g.ns.length + 1⟩
def twoG (g : Tre.Graph) : Tre.Graph := ⟨g.ns ++ [varN, varN, starN g.ns.length (g.ns.length + 1)], g.ns.length + 2⟩
end Go.Tre
namespace Go.Tre
theorem sum_const {α : Type} (c : Nat) : ∀ L : List α, (L.map fun _ => c).sum = L.length * c
 | [] => by simp
 | _ :: r => by simp only [List.map_cons, List.sum_cons, List.length_cons, sum_const c r, Nat.add_mul]; omega
theorem left_le (g h : Tre.Graph) : left g h (fun _ => none) ≤ g.weight * h.ns.length := by
 have e : ∀ L : List Nat, (∀ a ∈ L, a < g.ns.length) → ((L.flatMap fun a => (List.range h.ns.length).map fun b => (a, b)).map (wgt g (fun _ => none))).sum = (L.map fun a => h.ns.length * g.deg a).sum := by
  intro L
  induction L with
  | nil => intro _; rfl
  | cons a r ih =>
   intro hl
   rw [List.flatMap_cons, List.map_append, List.sum_append, ih (fun a h => hl a (by simp [h]))]
   simp only [wgt, List.map_map, Function.comp_def, if_true, List.map_cons, List.sum_cons, sum_const, List.length_range]
 unfold left univ
 rw [e _ (fun a h => by simpa using h)]
 have e2 : ((List.range g.ns.length).map fun a => h.ns.length * g.deg a) = g.ns.map fun n => h.ns.length * n.args.length := by
  apply List.ext_getElem
  ·simp
  ·intro i h1 h2
   have hi : i < g.ns.length := by simpa using h1
   simp [Graph.deg, Graph.nd_eq hi]
 rw [e2]
 unfold Graph.weight
 generalize g.ns = ns
 induction ns with
 | nil => simp
 | cons n r ih =>
  have : n.args.length ≤ n.weight := by unfold Tre.Node.weight; omega
  simp only [List.map_cons, List.sum_cons, Nat.add_mul]
  have h3 : h.ns.length * n.args.length ≤ n.weight * h.ns.length := by rw [Nat.mul_comm n.weight]; exact Nat.mul_le_mul_left _ this
  omega
theorem len_weight (g : Tre.Graph) : g.ns.length ≤ g.weight := length_le_sum _ (fun n => by unfold Tre.Node.weight; omega) g.ns
end Go.Tre
namespace Go.Tre
theorem sum_mem (f : Nat → Nat) (n : Nat) : ∀ L : List Nat, L.Nodup → (∀ a ∈ L, a < n) → (L.map f).sum = ((List.range n).map fun i => if i ∈ L then f i else 0).sum
 | [], _, _ => by
  have := sum_const (α := Nat) 0 (List.range n)
  simp only [List.map_nil, List.sum_nil, List.not_mem_nil, if_false]
  omega
 | a :: L, hn, hl => by
  have h1 := List.nodup_cons.1 hn
  have ih := sum_mem f n L h1.2 (fun b hb => hl b (by simp [hb]))
  have := sum_upd (fun i => if i ∈ a :: L then f i else 0) (fun i => if i ∈ L then f i else 0) a (List.range n) List.nodup_range (List.mem_range.2 (hl a (by simp))) (fun q hq => by
   have : (q ∈ a :: L) = (q ∈ L) := by simp [hq]
   simp only [this])
  simp only [List.mem_cons, true_or, if_true, if_neg h1.1, Nat.add_zero] at this
  simp only [List.map_cons, List.sum_cons, List.mem_cons]
  omega
theorem sum_le_all (f : Nat → Nat) {n : Nat} {L : List Nat} (hn : L.Nodup) (hl : ∀ a ∈ L, a < n) : (L.map f).sum ≤ ((List.range n).map f).sum := by
 rw [sum_mem f n L hn hl]
 generalize List.range n = R
 induction R with
 | nil => simp
 | cons x R ih =>
  simp only [List.map_cons, List.sum_cons]
  split <;> omega
theorem nodup_len {n : Nat} {L : List Nat} (hn : L.Nodup) (hl : ∀ a ∈ L, a < n) : L.length ≤ n := by
 have h := sum_le_all (fun _ => 1) hn hl
 rw [sum_const, sum_const, List.length_range] at h
 omega
theorem Graph.weight_range (g : Tre.Graph) : g.weight = ((List.range g.ns.length).map fun i => (g.nd i).weight).sum := by
 unfold Graph.weight
 congr 1
 apply List.ext_getElem
 ·simp
 ·intro i h1 h2
  have hi : i < g.ns.length := by simpa using h1
  simp [Graph.nd_eq hi]
theorem trimNode_weight (L : List Nat) (n : Tre.Node) : (trimNode L n).weight = n.weight := by unfold Node.weight trimNode; simp
theorem Graph.trim_weight (g : Tre.Graph) : g.trim.weight ≤ g.weight := by
 have e : g.trim.weight = (g.reachL.map fun i => (g.nd i).weight).sum := by
  unfold Graph.weight Graph.trim
  simp only [List.map_map]
  congr 1
  apply List.map_congr_left
  intro i _
  exact trimNode_weight _ _
 rw [e, g.weight_range]
 exact sum_le_all _ g.reach_nodup g.reach_lt
theorem trim_len (g : Tre.Graph) : g.trim.ns.length = g.reachL.length := by simp [Graph.trim]
theorem reach_len_le (g : Tre.Graph) : g.reachL.length ≤ g.ns.length := nodup_len g.reach_nodup g.reach_lt
theorem trim_nd {g : Tre.Graph} {a : Nat} (ha : a ∈ g.reachL) : g.trim.nd (g.reachL.idxOf a) = trimNode g.reachL (g.nd a) := by
 have hl := List.idxOf_lt_length_of_mem ha
 rw [Graph.nd_eq (by rw [trim_len]; exact hl)]
 simp only [Graph.trim, List.getElem_map, List.getElem_idxOf]
theorem mem_root {g : Tre.Graph} (h : g.checkC = 0) : g.root.toNat ∈ g.reachL := List.mem_of_getElem? (Graph.reach_head h)
theorem idx_root {g : Tre.Graph} (h : g.checkC = 0) : g.reachL.idxOf g.root.toNat = 0 := by
 have h1 := Graph.reach_head h
 have hl := (List.getElem?_eq_some_iff.1 h1).1
 have := idxOf_nodup g.reach_nodup hl
 rw [List.getElem?_eq_getElem hl] at h1
 rwa [Option.some.inj h1] at this
theorem mayB_trim {g : Tre.Graph} {a : Nat} (ha : a ∈ g.reachL) : mayB (trimNode g.reachL (g.nd a)) g.reachL.length = true := by
 have og := Graph.reach_ok ha
 have h := og.may a (g.reach_lt a ha)
 have hk := g.reach_kids ha
 unfold mayB at *
 simp only [Bool.and_eq_true, Bool.not_eq_true', List.any_eq_false] at *
 refine ⟨fun x hx => ?_, ?_⟩
 ·simp only [trimNode, List.mem_map] at hx
  obtain ⟨y, hy, rfl⟩ := hx
  have hm : y.toNat ∈ g.reachL := hk _ (by unfold Graph.kids; exact List.mem_map.2 ⟨y, hy, rfl⟩)
  have := List.idxOf_lt_length_of_mem hm
  unfold outside placeOf
  simp
  omega
 ·have := h.2
  simpa [trimNode] using this
theorem trim_ok {g : Tre.Graph} (h : g.checkC = 0) : g.trim.checkC = 0 := by
 have og := Graph.ok_of h
 have hr := mem_root h
 have hl := List.idxOf_lt_length_of_mem hr
 refine check_mk ?_ (Int.le_refl 0) ?_ (fun n hn => ?_)
 ·rw [trim_len]; have := reach_len_le g; have := og.len; omega
 ·rw [trim_len]; show (0 : Int) < _; omega
 ·rw [trim_len]
  simp only [Graph.trim, List.mem_map] at hn
  obtain ⟨a, ha, rfl⟩ := hn
  exact mayB_trim ha
theorem idxOf_inj {L : List Nat} {a b : Nat} (ha : a ∈ L) (hb : b ∈ L) (h : L.idxOf a = L.idxOf b) : a = b := by
 have h1 := List.getElem_idxOf (List.idxOf_lt_length_of_mem ha)
 have h2 := List.getElem_idxOf (List.idxOf_lt_length_of_mem hb)
 rw [← h1, ← h2]
 congr 1
theorem kid_mem {g : Tre.Graph} {a i : Nat} (ha : a ∈ g.reachL) (hi : i < g.deg a) : g.kid a i ∈ g.reachL := by
 refine g.reach_kids ha _ ?_
 unfold Graph.kids Graph.kid
 unfold Graph.deg at hi
 rw [List.getD_eq_getElem?_getD, List.getElem?_eq_getElem hi]
 exact List.mem_map.2 ⟨_, List.getElem_mem hi, rfl⟩
theorem trim_rp {g : Tre.Graph} (h : g.checkC = 0) {a b : Nat} (r : RP g g.trim a b) : a ∈ g.reachL ∧ b = g.reachL.idxOf a := by
 induction r with
 | root => exact ⟨mem_root h, (idx_root h).symm⟩
 | kid _ h1 h2 ih =>
  obtain ⟨ha, rfl⟩ := ih
  refine ⟨kid_mem ha h1, ?_⟩
  unfold Graph.kid
  unfold Graph.deg at h1
  rw [trim_nd ha]
  simp only [trimNode, List.getD_eq_getElem?_getD, List.getElem?_map, List.getElem?_eq_getElem h1, zqd, Option.getD_some]
  simp [placeOf]
theorem trim_same {g : Tre.Graph} (h : g.checkC = 0) : SameG g g.trim := by
 refine ⟨h, trim_ok h, fun a b r => ?_, fun a b a' b' r r' _ => ?_⟩
 ·obtain ⟨ha, rfl⟩ := trim_rp h r
  rw [trim_nd ha]
  simp [alikeB, trimNode]
 ·obtain ⟨ha, rfl⟩ := trim_rp h r
  obtain ⟨ha', rfl⟩ := trim_rp h r'
  exact ⟨fun e => by rw [e], idxOf_inj ha ha'⟩
end Go.Tre
namespace Go.Tre
structure Ent where
 kind : Nat
 s : List UInt8
 args : List Nat
 labels : List (List UInt8)
 opn : Bool
mutual
def Ty.count : Ty → Nat
 | .mk _ _ args _ _ => 1 + counts args
def counts : List Ty → Nat
 | [] => 0
 | t :: r => t.count + counts r
end
def idxs : List Ty → Nat → List Nat
 | [], _ => []
 | t :: r, b => b :: idxs r (b + t.count)
mutual
def flat : Ty → Nat → List Ent
 | .mk k s args labels o, b => ⟨k, s, idxs args (b + 1), labels, o⟩ :: flats args (b + 1)
def flats : List Ty → Nat → List Ent
 | [], _ => []
 | t :: r, b => flat t b ++ flats r (b + t.count)
end
mutual
theorem flat_len : ∀ (t : Ty) (b : Nat), (flat t b).length = t.count
 | .mk k s args labels o, b => by unfold flat Ty.count; rw [List.length_cons, flats_len args (b + 1)]; omega
theorem flats_len : ∀ (l : List Ty) (b : Nat), (flats l b).length = counts l
 | [], b => by unfold flats counts; rfl
 | t :: r, b => by unfold flats counts; rw [List.length_append, flat_len t b, flats_len r _]
end
theorem idxs_len : ∀ (l : List Ty) (b : Nat), (idxs l b).length = l.length
 | [], _ => rfl
 | t :: r, b => by unfold idxs; simp [idxs_len r]
abbrev Bd := (ByteArray → Option Nat) × Nat
def stepB (e : Ent) (i : Nat) (bd : Bd) : Option Bd := if e.kind = 4 then (if (bd.1 ⟨e.s.toArray⟩).isSome then none else some (upd bd.1 ⟨e.s.toArray⟩ i, bd.2 + 1)) else some bd
def bind1 (T : List Ent) : Nat → Nat → Bd → Option Bd
 | 0, _, _ => none
 | k + 1, i, bd => (T[i]?).bind fun e => (stepB e i bd).bind fun bd => e.args.foldlM (fun bd j => bind1 T k j bd) bd
def follow1 (T : List Ent) (bd : ByteArray → Option Nat) : Nat → Nat → Option Nat
 | 0, _ => none
 | k + 1, i => (T[i]?).bind fun e =>
  if e.kind = 4 then (e.args[0]?).bind (follow1 T bd k)
  else if e.kind = 1 then (match bd ⟨e.s.toArray⟩ with | some b => follow1 T bd k b | none => some i) else some i
structure LSt where
 vars : ByteArray → Option Nat
 made : Nat → Option Nat
 ns : List Tre.Node
def nodeOf (e : Ent) : Tre.Node := if e.kind = 2 then ⟨2, ⟨e.s.toArray⟩, [], [], false⟩ else ⟨3, ByteArray.empty, [], byteStrs e.labels, e.opn⟩
def kidsF (f : Nat → LSt → Option (Nat × LSt)) : List Nat → List Nat → LSt → Option (List Nat × LSt)
 | [], l, st => some (l, st)
 | j :: r, l, st => (f j st).bind fun p => kidsF f r (l ++ [p.1]) p.2
def varNode : Tre.Node := ⟨1, ByteArray.empty, [], [], false⟩
def node1 (T : List Ent) (bd : Bd) : Nat → Nat → LSt → Option (Nat × LSt)
 | 0, _, _ => none
 | k + 1, i, st => (follow1 T bd.1 (2 * bd.2 + 2) i).bind fun x => (T[x]?).bind fun e =>
  if e.kind = 1 then some (match st.vars ⟨e.s.toArray⟩ with | some a => (a, st) | none => (st.ns.length, ⟨upd st.vars ⟨e.s.toArray⟩ st.ns.length, st.made, st.ns ++ [varNode]⟩))
  else match st.made x with
   | some a => some (a, st)
   | none => (kidsF (node1 T bd k) e.args [] ⟨st.vars, upd st.made x st.ns.length, st.ns ++ [nodeOf e]⟩).map fun p =>
    (st.ns.length, ⟨p.2.vars, p.2.made, p.2.ns.set st.ns.length { nodeOf e with args := p.1.map fun a : Nat => (a : Int) }⟩)
def loadT (T : List Ent) (k i : Nat) : Option Tre.Graph :=
 (bind1 T k i (fun _ => none, 0)).bind fun bd =>
  (node1 T bd k i ⟨fun _ => none, fun _ => none, []⟩).map fun p => ⟨p.2.ns, (p.1 : Int)⟩
structure SmallT (T : List Ent) : Prop where
 s : ∀ (i : Nat) (e : Ent), T[i]? = some e → e.s.length ≤ 4194304
 args : ∀ (i : Nat) (e : Ent), T[i]? = some e → e.args.length ≤ 4194304
 labs : ∀ (i : Nat) (e : Ent), T[i]? = some e → e.labels.length ≤ 4194304
end Go.Tre
namespace Go.Tre
section
variable {P : Program} {ops : Array Oper} {Q : Exit → Act → World → Prop} {md : Region.Mode} {S : World → Prop}
end
end Go.Tre
