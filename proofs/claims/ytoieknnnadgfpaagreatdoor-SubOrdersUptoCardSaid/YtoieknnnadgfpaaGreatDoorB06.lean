/- Plain: a graph's free nodes. Nodes that a call makes: a row of them, their rows of arguments and labels. graph.Trim: plain. Plain laws on being the same. Whether two variables are one is told: plain. Layer 13: plain. What is marked, fixed, generic; the fresh copy. Layer 13: the laws, plain. -/
import Derived.Test.YtoieknnnadgfpaaGreatDoorB05
set_option linter.unusedVariables false
namespace Go.Tre
def Graph.freeL (g : Tre.Graph) : List Nat := g.reachL.filter fun i => freeB (g.nd i)
theorem Graph.reach_lt (g : Tre.Graph) : ∀ a ∈ g.reachL, a < g.ns.length := by
 unfold Graph.reachL
 by_cases h : g.checkC = 0
 ·rw [if_pos h]
  have og := Graph.ok_of h
  exact (g.dfs_spec og _ [g.root.toNat] [] (Nat.le_refl _) (by simp) (by simp) (fun a ha => by simp at ha; rw [ha]; exact og.root1) (by simp)).2.1
 ·rw [if_neg h]; simp
theorem Graph.reach_nodup (g : Tre.Graph) : g.reachL.Nodup := by
 unfold Graph.reachL
 by_cases h : g.checkC = 0
 ·rw [if_pos h]
  have og := Graph.ok_of h
  exact (g.dfs_spec og _ [g.root.toNat] [] (Nat.le_refl _) (by simp) (by simp) (fun a ha => by simp at ha; rw [ha]; exact og.root1) (by simp)).1
 ·rw [if_neg h]; simp
theorem Graph.dfs_len {g : Tre.Graph} (og : g.Ok) : ∀ (k : Nat) (s out : List Nat), g.budget out + s.length ≤ k → (∀ a ∈ s, a < g.ns.length) → (g.dfs s out).length ≤ out.length + g.budget out := by
 intro k
 induction k with
 | zero =>
  intro s out hk _
  have : s = [] := List.length_eq_zero_iff.1 (by omega)
  subst this
  rw [g.dfs_nil]; omega
 | succ k ih =>
  intro s out hk hs
  cases s with
  | nil => rw [g.dfs_nil]; omega
  | cons a s =>
   by_cases hm : a ∈ out
   ·rw [Graph.dfs_skip hm]; exact ih s out (by simp at hk; omega) (fun b hb => hs b (by simp [hb]))
   ·have hal := hs a (by simp)
    have hb := Graph.budget_step hal hm
    rw [Graph.dfs_take hm hal]
    have := ih (g.kids a ++ s) (out ++ [a]) (by simp only [List.length_append, List.length_cons, g.kids_len] at hk ⊢; omega) (fun b hb' => by
     rcases List.mem_append.1 hb' with h | h
     ·exact og.kids_lt hal b h
     ·exact hs b (by simp [h]))
    simp only [List.length_append, List.length_singleton] at this
    omega
theorem Graph.reach_len (g : Tre.Graph) : g.reachL.length ≤ g.weight := by
 unfold Graph.reachL
 by_cases h : g.checkC = 0
 ·rw [if_pos h]
  have og := Graph.ok_of h
  have := Graph.dfs_len og _ [g.root.toNat] [] (Nat.le_refl _) (fun a ha => by simp at ha; rw [ha]; exact og.root1)
  have := g.budget_le
  simp at *
  omega
 ·rw [if_neg h]; simp
theorem filter_take {α : Type} (p : α → Bool) (l : List α) (k : Nat) (x : α) (h : l[k]? = some x) : (l.take (k + 1)).filter p = (l.take k).filter p ++ if p x then [x] else [] := by
 rw [List.take_add_one, h, List.filter_append]
 cases hp : p x <;> simp [hp]
end Go.Tre
namespace Go.Tre
open Go.RowKit
structure NodeV where
 n : Tre.Node
 va : Value
 vl : Value
def NodeV.cells (d : NodeV) : List Value := [.int .i64 d.n.kind, .string d.n.name, d.va, d.vl, .bool d.n.isOpen]
end Go.Tre
namespace Go.Proofs.YtoieknnnadgfpaaGreatDoor.gr
open Go.RowKit Go.Shelf Go.Maps Go.Tre lex
def kids (d : NodeV) : List Res := [rowR 3 1 d.va d.n.args.length (d.n.args.map (Value.int .i64)), rowR 9 1 d.vl d.n.labels.length (d.n.labels.map Value.string)]
def nodesR (v : Value) (ds : List NodeV) : Res := rowR 33 5 v ds.length (ds.flatMap NodeV.cells)
def kidsR (ds : List NodeV) : Res := manyR (ds.flatMap kids)
theorem cells_at : ∀ (ds : List NodeV) (k j : Nat) (d : NodeV), ds[k]? = some d → j < 5 → (ds.flatMap NodeV.cells)[k * 5 + j]? = d.cells[j]? := by
 intro ds
 induction ds with
 | nil => intro k j d h; simp at h
 | cons x r ih =>
  intro k j d h hj
  have hl : x.cells.length = 5 := rfl
  rw [List.flatMap_cons]
  cases k with
  | zero =>
   simp at h; subst h
   rw [Nat.zero_mul, Nat.zero_add, List.getElem?_append_left (by rw [hl]; exact hj)]
  | succ k =>
   simp at h
   rw [List.getElem?_append_right (by rw [hl]; omega), hl, show (k + 1) * 5 + j - 5 = k * 5 + j by omega]
   exact ih k j d h hj
theorem kidsR_snoc (ds : List NodeV) (d : NodeV) : kidsR (ds ++ [d]) = manyR (ds.flatMap kids ++ kids d) := by unfold kidsR; rw [List.flatMap_append]; simp
theorem nodesR_snoc (v : Value) (ds : List NodeV) (d : NodeV) : nodesR v (ds ++ [d]) = rowR 33 5 v (ds.length + 1) (ds.flatMap NodeV.cells ++ d.cells) := by unfold nodesR; rw [List.flatMap_append, List.length_append]; simp
theorem row_read {w : World} {e : TypeId} {size n : Nat} {v : Value} {xs : List Value} (h : w.ownsRow 0 e size v n xs) : ∃ a c, v = .slice a n c ∧ n ≤ c ∧ Row w size a n xs := by
 rcases h.2 with ⟨rfl, rfl⟩ | ⟨g, cap, cur, rfl, _, hg, hc, _⟩
 ·refine ⟨_, _, rfl, Nat.le_refl _, h.1, fun j u hu => ?_⟩
  have : xs = [] := List.eq_nil_of_length_eq_zero (by simpa using h.1)
  subst this
  simp at hu
 ·refine ⟨_, _, rfl, hc, h.1, fun j u hu => ⟨g, 0, rfl, ?_⟩⟩
  rw [Nat.zero_add, h.cellAt j (by have := (List.getElem?_eq_some_iff.1 hu).1; rw [← h.1]; exact this), hu]
theorem nodes_read {w : World} {a : Option Addr} {n c : Nat} {ds : List NodeV} (h : (nodesR (.slice a n c) ds).P w) (hk : (kidsR ds).P w) : NodesAt w a (ds.map NodeV.n) := by
 refine ⟨fun k n hn => ?_⟩
 rw [List.getElem?_map] at hn
 obtain ⟨d, hd, rfl⟩ := Option.map_eq_some_iff.1 hn
 have hr : w.ownsRow 0 _ 5 (.slice a _ c) _ _ := h
 obtain ⟨a', c', e, _, hrow⟩ := row_read hr
 cases e
 have hmem := List.mem_of_getElem? hd
 have ha := hk (rowR 3 1 d.va d.n.args.length (d.n.args.map (Value.int .i64))) (List.mem_flatMap.2 ⟨d, hmem, by simp [kids]⟩)
 have hl := hk (rowR 9 1 d.vl d.n.labels.length (d.n.labels.map Value.string)) (List.mem_flatMap.2 ⟨d, hmem, by simp [kids]⟩)
 obtain ⟨aa, ca, ea, la, ra⟩ := row_read ha
 obtain ⟨al, cl, el, ll, rl⟩ := row_read hl
 obtain ⟨b, off, e0, c0⟩ := hrow.at_ (k * 5 + 0) _ ((cells_at ds k 0 d hd (by omega)).trans rfl)
 have rest : ∀ j u, j < 5 → d.cells[j]? = some u → w.cell? ⟨b, off + (k * 5 + j), none⟩ = some u := fun j u hj hu => by
  obtain ⟨b', off', e', c'⟩ := hrow.at_ (k * 5 + j) u ((cells_at ds k j d hd hj).trans hu)
  rw [e0] at e'; cases e'; exact c'
 refine ⟨b, off, e0, aa, ca, al, cl, ?_, ?_, ?_, ?_, ?_, ra, rl, la, ll⟩
 ·have := rest 0 _ (by omega) rfl; rwa [Nat.add_zero] at this
 ·have := rest 1 _ (by omega) rfl; rwa [← Nat.add_assoc] at this
 ·have := rest 2 d.va (by omega) rfl; rw [← Nat.add_assoc, ea] at this; exact this
 ·have := rest 3 d.vl (by omega) rfl; rw [← Nat.add_assoc, el] at this; exact this
 ·have := rest 4 _ (by omega) rfl; rwa [← Nat.add_assoc] at this

theorem cloneInts (a : Option Addr) (cap : Nat) (xs : List Int) (w : World) (hx : IntsAt w a xs) (hl : xs.length ≤ 8388608) :
  Calls Tryz.prog 31 #[.slice a xs.length cap] w fun e w' => ∃ v, e = .returned v ∧ Mem w w' [rowR 3 1 v xs.length (xs.map (Value.int .i64))] := by
 cases a with
 | none =>
  have h0 : xs = [] := by
   cases xs with
   | nil => rfl
   | cons x r => obtain ⟨_, _, e, _⟩ := hx.at_ 0 (.int .i64 x) rfl; cases e
  subst h0
  exact (Tryz.slices_Clone_int_nil _ _ _).mono fun e w' ⟨h1, h2⟩ => ⟨_, h1, by subst h2; exact (Mem.nil w').addNil _ _⟩
 | some ad =>
  by_cases h0 : xs = []
  ·subst h0
   exact (Tryz.slices_Clone_int_zero ad cap w).mono fun e w' ⟨v, h1, h2, _, h4⟩ => ⟨v, h1, Mem.of_own h2 h4⟩
  ·obtain ⟨x, r, rfl⟩ := List.exists_cons_of_ne_nil h0
   obtain ⟨b, off, e, _⟩ := hx.at_ 0 (.int .i64 x) rfl
   cases e
   refine (Tryz.slices_Clone_int b off (x :: r).length cap (x :: r) w (Nat.le_refl _) (by omega) (fun j hj => ?_)).mono fun e w' ⟨v, h1, h2, _, h4⟩ => ⟨v, h1, Mem.of_own (by rw [List.take_of_length_le (Nat.le_refl _)] at h2; exact h2) h4⟩
   obtain ⟨b', off', e', c'⟩ := hx.at_ j (.int .i64 ((x :: r).getD j 0)) (by rw [List.getElem?_map, List.getD_eq_getElem?_getD, List.getElem?_eq_getElem hj]; rfl)
   cases e'; exact c'
theorem cloneStrs (a : Option Addr) (cap : Nat) (xs : List ByteArray) (w : World) (hx : StrsAt w a xs) (hl : xs.length ≤ 8388608) :
  Calls Tryz.prog 29 #[.slice a xs.length cap] w fun e w' => ∃ v, e = .returned v ∧ Mem w w' [rowR 9 1 v xs.length (xs.map Value.string)] := by
 cases a with
 | none =>
  have h0 : xs = [] := by
   cases xs with
   | nil => rfl
   | cons x r => obtain ⟨_, _, e, _⟩ := hx.at_ 0 (.string x) rfl; cases e
  subst h0
  exact (Tryz.slices_Clone_string_nil _ _ _).mono fun e w' ⟨h1, h2⟩ => ⟨_, h1, by subst h2; exact (Mem.nil w').addNil _ _⟩
 | some ad =>
  by_cases h0 : xs = []
  ·subst h0
   exact (Tryz.slices_Clone_string_zero ad cap w).mono fun e w' ⟨v, h1, h2, _, h4⟩ => ⟨v, h1, Mem.of_own h2 h4⟩
  ·obtain ⟨x, r, rfl⟩ := List.exists_cons_of_ne_nil h0
   obtain ⟨b, off, e, _⟩ := hx.at_ 0 (.string x) rfl
   cases e
   refine (Tryz.slices_Clone_string b off (x :: r).length cap (x :: r) w (Nat.le_refl _) (by omega) (fun j hj => ?_)).mono fun e w' ⟨v, h1, h2, _, h4⟩ => ⟨v, h1, Mem.of_own (by rw [List.take_of_length_le (Nat.le_refl _)] at h2; exact h2) h4⟩
   obtain ⟨b', off', e', c'⟩ := hx.at_ j (.string ((x :: r).getD j ByteArray.empty)) (by rw [List.getElem?_map, List.getD_eq_getElem?_getD, List.getElem?_eq_getElem hj]; rfl)
   cases e'; exact c'
end Go.Proofs.YtoieknnnadgfpaaGreatDoor.gr
namespace Go.Tre
def placeOf (L : List Nat) (a : Int) : Int := ((L.idxOf a.toNat : Nat) : Int)
def trimNode (L : List Nat) (n : Tre.Node) : Tre.Node := { n with args := n.args.map (placeOf L) }
def Graph.trim (g : Tre.Graph) : Tre.Graph := ⟨g.reachL.map fun i => trimNode g.reachL (g.nd i), 0⟩
def idxMap (L : List Nat) (k : Nat) : Nat → Option Nat := fun x => if x ∈ L.take k then some (L.idxOf x) else none
theorem idxOf_nodup {L : List Nat} (hn : L.Nodup) {k : Nat} (h : k < L.length) : L.idxOf L[k] = k := by
 have h1 : L.idxOf L[k] < L.length := List.idxOf_lt_length_of_mem (List.getElem_mem h)
 have h2 : L[L.idxOf L[k]] = L[k] := List.getElem_idxOf h1
 exact (List.getElem?_inj h1 hn).1 (by rw [List.getElem?_eq_getElem h1, List.getElem?_eq_getElem h, h2])
theorem idxMap_succ {L : List Nat} (hn : L.Nodup) {k : Nat} (h : k < L.length) : upd (idxMap L k) L[k] k = idxMap L (k + 1) := by
 funext x
 unfold upd idxMap
 have e : L.take (k + 1) = L.take k ++ [L[k]] := by rw [List.take_add_one, List.getElem?_eq_getElem h]; rfl
 rw [e]
 by_cases hx : x = L[k]
 ·subst hx
  rw [if_pos rfl, if_pos (List.mem_append.2 (.inr (List.mem_singleton.2 rfl))), idxOf_nodup hn h]
 ·rw [if_neg hx]
  have : (x ∈ L.take k ++ [L[k]]) = (x ∈ L.take k) := by rw [List.mem_append, List.mem_singleton]; simp only [hx, or_false]
  simp only [this]
theorem idxMap_all (L : List Nat) {x : Nat} (h : x ∈ L) : idxMap L L.length x = some (L.idxOf x) := by
 unfold idxMap; rw [List.take_length, if_pos h]
def half {α : Type} (f : α → α) (l : List α) (j : Nat) : List α := (l.take j).map f ++ l.drop j
theorem half_zero {α : Type} (f : α → α) (l : List α) : half f l 0 = l := by simp [half]
theorem half_all {α : Type} (f : α → α) (l : List α) : half f l l.length = l.map f := by simp [half]
theorem half_at {α : Type} (f : α → α) (l : List α) {j : Nat} (h : j < l.length) : (half f l j)[j]? = some l[j] := by
 unfold half
 rw [List.getElem?_append_right (by rw [List.length_map, List.length_take]; omega), List.length_map, List.length_take, Nat.min_eq_left (by omega), Nat.sub_self, List.getElem?_drop, Nat.add_zero, List.getElem?_eq_getElem h]
theorem half_set {α : Type} (f : α → α) (l : List α) {j : Nat} (h : j < l.length) : (half f l j).set j (f l[j]) = half f l (j + 1) := by
 unfold half
 have e : ((l.take j).map f).length = j := by rw [List.length_map, List.length_take]; omega
 rw [List.set_append_right _ _ (by omega), e, Nat.sub_self, List.drop_eq_getElem_cons h, Tre.qg, List.take_add_one, List.getElem?_eq_getElem h, List.map_append]
 simp
theorem Graph.reach_kids (g : Tre.Graph) {a : Nat} (ha : a ∈ g.reachL) : ∀ b ∈ g.kids a, b ∈ g.reachL := by
 unfold Graph.reachL at ha ⊢
 by_cases h : g.checkC = 0
 ·rw [if_pos h] at ha ⊢
  have og := Graph.ok_of h
  exact (g.dfs_spec og _ [g.root.toNat] [] (Nat.le_refl _) (by simp) (by simp) (fun a ha => by simp at ha; rw [ha]; exact og.root1) (by simp)).2.2.1 a ha
 ·rw [if_neg h] at ha; simp at ha
theorem Graph.reach_ok {g : Tre.Graph} {a : Nat} (ha : a ∈ g.reachL) : g.Ok := by
 unfold Graph.reachL at ha
 by_cases h : g.checkC = 0
 ·exact Graph.ok_of h
 ·rw [if_neg h] at ha; simp at ha
end Go.Tre
namespace Go.Tre
def setMap (L : List Nat) (k : Nat) : Nat → Option Unit := fun x => if x ∈ L.take k then some () else none
theorem alike_refl (x : Tre.Node) : alikeB x x = true := by simp [alikeB]
theorem alike_symm {x y : Tre.Node} (h : alikeB x y = true) : alikeB y x = true := by
 unfold alikeB at *
 simp only [Bool.and_eq_true, decide_eq_true_eq] at *
 obtain ⟨⟨⟨⟨h1, h2⟩, h3⟩, h4⟩, h5⟩ := h
 exact ⟨⟨⟨⟨h1.symm, h2.symm⟩, h3.symm⟩, h4.symm⟩, h5.symm⟩
theorem alike_trans {x y z : Tre.Node} (h : alikeB x y = true) (k : alikeB y z = true) : alikeB x z = true := by
 unfold alikeB at *
 simp only [Bool.and_eq_true, decide_eq_true_eq] at *
 obtain ⟨⟨⟨⟨h1, h2⟩, h3⟩, h4⟩, h5⟩ := h
 obtain ⟨⟨⟨⟨k1, k2⟩, k3⟩, k4⟩, k5⟩ := k
 exact ⟨⟨⟨⟨h1.trans k1, h2.trans k2⟩, h3.trans k3⟩, h4.trans k4⟩, h5.trans k5⟩
theorem RP.symm {g h : Tre.Graph} {a b : Nat} (r : RP g h a b) : RP h g b a := by
 induction r with
 | root => exact .root
 | kid _ h1 h2 ih => exact .kid ih h2 h1
theorem SameG.symm {g h : Tre.Graph} (s : SameG g h) : SameG h g :=
 ⟨s.okh, s.okg, fun a b r => alike_symm (s.alike b a r.symm), fun a b a' b' r r' hf => (s.one b a b' a' r.symm r'.symm (by rw [alike_free (s.alike b a r.symm)]; exact hf)).symm⟩
theorem RP.refl_eq {g : Tre.Graph} {a b : Nat} (r : RP g g a b) : a = b := by
 induction r with
 | root => rfl
 | kid _ _ _ ih => rw [ih]
theorem SameG.refl {g : Tre.Graph} (h : g.checkC = 0) : SameG g g :=
 ⟨h, h, fun a b r => by rw [r.refl_eq]; exact alike_refl _, fun a b a' b' r r' _ => by rw [r.refl_eq, r'.refl_eq]⟩
theorem RP.comp {g h k : Tre.Graph} (s : SameG g h) (_t : SameG h k) {a c : Nat} (r : RP g k a c) : ∃ b, RP g h a b ∧ RP h k b c := by
 induction r with
 | root => exact ⟨_, .root, .root⟩
 | kid _ h1 h2 ih =>
  obtain ⟨b, r1, r2⟩ := ih
  have e1 := alike_deg (s.alike _ _ r1)
  refine ⟨h.kid b _, .kid r1 h1 ?_, .kid r2 ?_ h2⟩ <;> (unfold Graph.deg at *; omega)
theorem SameG.trans {g h k : Tre.Graph} (s : SameG g h) (t : SameG h k) : SameG g k := by
 refine ⟨s.okg, t.okh, fun a c r => ?_, fun a c a' c' r r' hf => ?_⟩
 ·obtain ⟨b, r1, r2⟩ := r.comp s t
  exact alike_trans (s.alike _ _ r1) (t.alike _ _ r2)
 ·obtain ⟨b, r1, r2⟩ := r.comp s t
  obtain ⟨b', r1', r2'⟩ := r'.comp s t
  exact (s.one _ _ _ _ r1 r1' hf).trans (t.one _ _ _ _ r2 r2' (by rw [← alike_free (s.alike _ _ r1)]; exact hf))
end Go.Tre
namespace Go.Tre
def starB : ByteArray := ⟨#[42]⟩
def varN : Tre.Node := ⟨1, ByteArray.empty, [], [], false⟩
def starN (a b : Int) : Tre.Node := ⟨2, starB, [a, b], [], false⟩
def oneG (g : Tre.Graph) : Tre.Graph := ⟨g.ns ++ [varN, starN g.ns.length g.ns.length], g.ns.length + 1⟩
def twoG (g : Tre.Graph) : Tre.Graph := ⟨g.ns ++ [varN, varN, starN g.ns.length (g.ns.length + 1)], g.ns.length + 2⟩
theorem Graph.great_len (g : Tre.Graph) : g.ns.length ≤ g.great := by unfold Graph.great; omega
end Go.Tre
namespace Go.Tre
inductive Rch (g : Tre.Graph) (a : Nat) : Nat → Prop where
 | refl : Rch g a a
 | step {b c : Nat} : Rch g a b → c ∈ g.kids b → Rch g a c
theorem Rch.trans {g : Tre.Graph} {a b c : Nat} (h : Rch g a b) (k : Rch g b c) : Rch g a c := by
 induction k with
 | refl => exact h
 | step _ hc ih => exact ih.step hc
theorem Rch.head {g : Tre.Graph} {a b c : Nat} (h : b ∈ g.kids a) (k : Rch g b c) : Rch g a c := (Rch.refl.step h).trans k
theorem Rch.lt {g : Tre.Graph} (og : g.Ok) {a b : Nat} (h : Rch g a b) (ha : a < g.ns.length) : b < g.ns.length := by
 induction h with
 | refl => exact ha
 | step _ hc ih => exact og.kids_lt ih _ hc
theorem Graph.dfs_within {g : Tre.Graph} (og : g.Ok) (C : Nat → Prop) (hC : ∀ a, C a → ∀ b ∈ g.kids a, C b) : ∀ (k : Nat) (s out : List Nat), g.budget out + s.length ≤ k → (∀ a ∈ s, a < g.ns.length) → (∀ a ∈ s, C a) → (∀ a ∈ out, C a) → ∀ a ∈ g.dfs s out, C a := by
 intro k
 induction k with
 | zero =>
  intro s out hk _ _ h3
  have : s = [] := List.length_eq_zero_iff.1 (by omega)
  subst this
  rw [g.dfs_nil]; exact h3
 | succ k ih =>
  intro s out hk h1 h2 h3
  cases s with
  | nil => rw [g.dfs_nil]; exact h3
  | cons a s =>
   have hal := h1 a (by simp)
   by_cases hm : a ∈ out
   ·rw [Graph.dfs_skip hm]; exact ih s out (by simp at hk; omega) (fun b hb => h1 b (by simp [hb])) (fun b hb => h2 b (by simp [hb])) h3
   ·rw [Graph.dfs_take hm hal]
    have hb := Graph.budget_step hal hm
    refine ih (g.kids a ++ s) (out ++ [a]) (by simp only [List.length_append, List.length_cons, g.kids_len] at hk ⊢; omega) (fun b hb => ?_) (fun b hb => ?_) (fun b hb => ?_)
    ·rcases List.mem_append.1 hb with hb | hb
     ·exact og.kids_lt hal b hb
     ·exact h1 b (by simp [hb])
    ·rcases List.mem_append.1 hb with hb | hb
     ·exact hC a (h2 a (by simp)) b hb
     ·exact h2 b (by simp [hb])
    ·rcases List.mem_append.1 hb with hb | hb
     ·exact h3 b hb
     ·simp at hb; rw [hb]; exact h2 a (by simp)
theorem Graph.mem_dfs {g : Tre.Graph} (og : g.Ok) {l : List Nat} (hl : ∀ a ∈ l, a < g.ns.length) {a : Nat} : a ∈ g.dfs l [] ↔ ∃ m ∈ l, Rch g m a := by
 constructor
 ·intro h
  exact Graph.dfs_within og (fun a => ∃ m ∈ l, Rch g m a) (fun a ⟨m, hm, r⟩ b hb => ⟨m, hm, r.step hb⟩) _ l [] (Nat.le_refl _) hl (fun a ha => ⟨a, ha, .refl⟩) (by simp) a h
 ·rintro ⟨m, hm, r⟩
  obtain ⟨_, _, r3, _, r5⟩ := g.dfs_spec og _ l [] (Nat.le_refl _) (by simp) (by simp) hl (by simp)
  induction r with
  | refl => exact r5 m hm
  | step _ hc ih => exact r3 _ ih _ hc
theorem Graph.mem_reach {g : Tre.Graph} (h : g.checkC = 0) {a : Nat} : a ∈ g.reachL ↔ Rch g g.root.toNat a := by
 have og := Graph.ok_of h
 unfold Graph.reachL
 rw [if_pos h, Graph.mem_dfs og (fun a ha => by simp at ha; rw [ha]; exact og.root1)]
 simp
def Graph.markB (g : Tre.Graph) (l : List Nat) (i : Nat) : Bool := decide (i ∈ g.dfs l [])
def Graph.fixedL (g : Tre.Graph) (mono : List Nat) : List Nat := (List.range g.ns.length).filter fun i => freeB (g.nd i) && g.markB mono i
def Graph.genericL (g : Tre.Graph) (mono : List Nat) : List Nat := (List.range g.ns.length).filter fun i => freeB (g.nd i) && (!g.markB mono i && g.markB [g.root.toNat] i)
def Graph.leadB (g : Tre.Graph) (gen : List Nat) (i : Nat) : Bool := gen.any fun k => decide (k ∈ g.dfs [i] [])
def Graph.copiesL (g : Tre.Graph) (mono : List Nat) : List Nat := g.reachL.filter (g.leadB (g.genericL mono))
def nowF (n : Nat) (C : List Nat) (x : Nat) : Nat := if x ∈ C then n + C.idxOf x else x
def copyN (n : Nat) (C : List Nat) (x : Tre.Node) : Tre.Node := { x with args := x.args.map fun a => ((nowF n C a.toNat : Nat) : Int) }
def Graph.freshG (g : Tre.Graph) (mono : List Nat) : Tre.Graph := ⟨g.ns ++ (g.copiesL mono).map fun i => copyN g.ns.length (g.copiesL mono) (g.nd i), ((nowF g.ns.length (g.copiesL mono) g.root.toNat : Nat) : Int)⟩
section
variable {g : Tre.Graph} {mono : List Nat}
end
end Go.Tre
namespace Go.Tre
section
variable {g : Tre.Graph} {mono : List Nat}
/-! with more monos -/
/-! without monos; with the root -/
theorem free_of_reach (h : g.checkC = 0) {i : Nat} : i ∈ g.freeL ↔ Rch g g.root.toNat i ∧ freeB (g.nd i) = true := by
 unfold Graph.freeL
 rw [List.mem_filter, Graph.mem_reach h]
/-! a type beside its copy -/
def besideG (g f : Tre.Graph) : Tre.Graph := ⟨f.ns ++ [starN g.root f.root], f.ns.length⟩
end
end Go.Tre
