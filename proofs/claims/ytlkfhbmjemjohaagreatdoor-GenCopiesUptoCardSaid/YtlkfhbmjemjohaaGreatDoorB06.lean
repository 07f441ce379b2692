/- Plain: a graph's free nodes. Nodes that a call makes: a row of them, their rows of arguments and labels. graph.Trim: plain. Plain laws on being the same. Whether two variables are one is told: plain. Layer 13: plain. What is marked, fixed, generic; the fresh copy. Layer 13: the laws, plain. Layer 9, plain: how nodes look; classes, refined; what a class that is refined no more tells. How many pairs there are; how long a graph is. What is trimmed is the same type, and trimmed again it is itself: plain. Layers 9, 11, plain: graphs onto graphs; the least graph; a fresh copy's. -/
import Derived.Test.YtlkfhbmjemjohaaGreatDoorB05
import Derived.Lib.ItoaMem
import Derived.Test.YtlkfhbmjemjohaaGreatDoorB03
set_option linter.unusedVariables false
namespace Go.Tre
def Graph.freeL (g : Tre.Graph) : List Nat := g.reachL.filter fun i => freeB (g.nd i)
theorem Graph.reach_lt (g : Tre.Graph) : ∀ a ∈ g.reachL, a < g.ns.length := by
 unfold Graph.reachL
 by_cases h : g.checkC = 0
 ·rw [if_pos h]
  have og := Graph.ok_of h
  exact (g.dfs_spec og _ [g.root.toNat] [] (Nat.le_refl _) (by simp) (by simp) (fun a ha => by simp at ha; rw [ha]; exact og.root1) (by simp)).2.1
 ·rw [if_neg h]; simp
theorem Graph.reach_nodup (g : Tre.Graph) : g.reachL.Nodup := by
 unfold Graph.reachL
 by_cases h : g.checkC = 0
 ·rw [if_pos h]
  have og := Graph.ok_of h
  exact (g.dfs_spec og _ [g.root.toNat] [] (Nat.le_refl _) (by simp) (by simp) (fun a ha => by simp at ha; rw [ha]; exact og.root1) (by simp)).1
 ·rw [if_neg h]; simp
theorem Graph.dfs_len {g : Tre.Graph} (og : g.Ok) : ∀ (k : Nat) (s out : List Nat), g.budget out + s.length ≤ k → (∀ a ∈ s, a < g.ns.length) → (g.dfs s out).length ≤ out.length + g.budget out := by
 intro k
 induction k with
 | zero =>
  intro s out hk _
  have : s = [] := List.length_eq_zero_iff.1 (by omega)
  subst this
  rw [g.dfs_nil]; omega
 | succ k ih =>
  intro s out hk hs
  cases s with
  | nil => rw [g.dfs_nil]; omega
  | cons a s =>
   by_cases hm : a ∈ out
   ·rw [Graph.dfs_skip hm]; exact ih s out (by simp at hk; omega) (fun b hb => hs b (by simp [hb]))
   ·have hal := hs a (by simp)
    have hb := Graph.budget_step hal hm
    rw [Graph.dfs_take hm hal]
    have := ih (g.kids a ++ s) (out ++ [a]) (by simp only [List.length_append, List.length_cons, g.kids_len] at hk ⊢; omega) (fun b hb' => by
     rcases List.mem_append.1 hb' with h | h
     ·exact og.kids_lt hal b h
     ·exact hs b (by simp [h]))
    simp only [List.length_append, List.length_singleton] at this
    omega
theorem Graph.reach_len (g : Tre.Graph) : g.reachL.length ≤ g.weight := by
 unfold Graph.reachL
 by_cases h : g.checkC = 0
 ·rw [if_pos h]
  have og := Graph.ok_of h
  have := Graph.dfs_len og _ [g.root.toNat] [] (Nat.le_refl _) (fun a ha => by simp at ha; rw [ha]; exact og.root1)
  have := g.budget_le
  simp at *
  omega
 ·rw [if_neg h]; simp
end Go.Tre
namespace Go.Tre
open Go.RowKit
structure NodeV where
 n : Tre.Node
 va : Value
 vl : Value
def NodeV.cells (d : NodeV) : List Value := [.int .i64 d.n.kind, .string d.n.name, d.va, d.vl, .bool d.n.isOpen]
end Go.Tre
namespace Go.Proofs.YtlkfhbmjemjohaaGreatDoor.gr
open Go.RowKit Go.Shelf Go.Maps Go.Tre lex
def kids (d : NodeV) : List Res := [rowR 3 1 d.va d.n.args.length (d.n.args.map (Value.int .i64)), rowR 9 1 d.vl d.n.labels.length (d.n.labels.map Value.string)]
def nodesR (v : Value) (ds : List NodeV) : Res := rowR 40 5 v ds.length (ds.flatMap NodeV.cells)
def kidsR (ds : List NodeV) : Res := manyR (ds.flatMap kids)
theorem cells_at : ∀ (ds : List NodeV) (k j : Nat) (d : NodeV), ds[k]? = some d → j < 5 → (ds.flatMap NodeV.cells)[k * 5 + j]? = d.cells[j]? := by
 intro ds
 induction ds with
 | nil => intro k j d h; simp at h
 | cons x r ih =>
  intro k j d h hj
  have hl : x.cells.length = 5 := rfl
  rw [List.flatMap_cons]
  cases k with
  | zero =>
   simp at h; subst h
   rw [Nat.zero_mul, Nat.zero_add, List.getElem?_append_left (by rw [hl]; exact hj)]
  | succ k =>
   simp at h
   rw [List.getElem?_append_right (by rw [hl]; omega), hl, show (k + 1) * 5 + j - 5 = k * 5 + j by omega]
   exact ih k j d h hj
theorem kidsR_snoc (ds : List NodeV) (d : NodeV) : kidsR (ds ++ [d]) = manyR (ds.flatMap kids ++ kids d) := by unfold kidsR; rw [List.flatMap_append]; simp
theorem nodesR_snoc (v : Value) (ds : List NodeV) (d : NodeV) : nodesR v (ds ++ [d]) = rowR 40 5 v (ds.length + 1) (ds.flatMap NodeV.cells ++ d.cells) := by unfold nodesR; rw [List.flatMap_append, List.length_append]; simp
theorem row_read {w : World} {e : TypeId} {size n : Nat} {v : Value} {xs : List Value} (h : w.ownsRow 0 e size v n xs) : ∃ a c, v = .slice a n c ∧ n ≤ c ∧ Row w size a n xs := by
 rcases h.2 with ⟨rfl, rfl⟩ | ⟨g, cap, cur, rfl, _, hg, hc, _⟩
 ·refine ⟨_, _, rfl, Nat.le_refl _, h.1, fun j u hu => ?_⟩
  have : xs = [] := List.eq_nil_of_length_eq_zero (by simpa using h.1)
  subst this
  simp at hu
 ·refine ⟨_, _, rfl, hc, h.1, fun j u hu => ⟨g, 0, rfl, ?_⟩⟩
  rw [Nat.zero_add, h.cellAt j (by have := (List.getElem?_eq_some_iff.1 hu).1; rw [← h.1]; exact this), hu]
theorem nodes_read {w : World} {a : Option Addr} {n c : Nat} {ds : List NodeV} (h : (nodesR (.slice a n c) ds).P w) (hk : (kidsR ds).P w) : NodesAt w a (ds.map NodeV.n) := by
 refine ⟨fun k n hn => ?_⟩
 rw [List.getElem?_map] at hn
 obtain ⟨d, hd, rfl⟩ := Option.map_eq_some_iff.1 hn
 have hr : w.ownsRow 0 _ 5 (.slice a _ c) _ _ := h
 obtain ⟨a', c', e, _, hrow⟩ := row_read hr
 cases e
 have hmem := List.mem_of_getElem? hd
 have ha := hk (rowR 3 1 d.va d.n.args.length (d.n.args.map (Value.int .i64))) (List.mem_flatMap.2 ⟨d, hmem, by simp [kids]⟩)
 have hl := hk (rowR 9 1 d.vl d.n.labels.length (d.n.labels.map Value.string)) (List.mem_flatMap.2 ⟨d, hmem, by simp [kids]⟩)
 obtain ⟨aa, ca, ea, la, ra⟩ := row_read ha
 obtain ⟨al, cl, el, ll, rl⟩ := row_read hl
 obtain ⟨b, off, e0, c0⟩ := hrow.at_ (k * 5 + 0) _ ((cells_at ds k 0 d hd (by omega)).trans rfl)
 have rest : ∀ j u, j < 5 → d.cells[j]? = some u → w.cell? ⟨b, off + (k * 5 + j), none⟩ = some u := fun j u hj hu => by
  obtain ⟨b', off', e', c'⟩ := hrow.at_ (k * 5 + j) u ((cells_at ds k j d hd hj).trans hu)
  rw [e0] at e'; cases e'; exact c'
 refine ⟨b, off, e0, aa, ca, al, cl, ?_, ?_, ?_, ?_, ?_, ra, rl, la, ll⟩
 ·have := rest 0 _ (by omega) rfl; rwa [Nat.add_zero] at this
 ·have := rest 1 _ (by omega) rfl; rwa [← Nat.add_assoc] at this
 ·have := rest 2 d.va (by omega) rfl; rw [← Nat.add_assoc, ea] at this; exact this
 ·have := rest 3 d.vl (by omega) rfl; rw [← Nat.add_assoc, el] at this; exact this
 ·have := rest 4 _ (by omega) rfl; rwa [← Nat.add_assoc] at this

theorem cloneInts (a : Option Addr) (cap : Nat) (xs : List Int) (w : World) (hx : IntsAt w a xs) (hl : xs.length ≤ 8388608) :
  Calls Tryz.prog 21 #[.slice a xs.length cap] w fun e w' => ∃ v, e = .returned v ∧ Mem w w' [rowR 3 1 v xs.length (xs.map (Value.int .i64))] := by
 cases a with
 | none =>
  have h0 : xs = [] := by
   cases xs with
   | nil => rfl
   | cons x r => obtain ⟨_, _, e, _⟩ := hx.at_ 0 (.int .i64 x) rfl; cases e
  subst h0
  exact (Tryz.slices_Clone_int_nil _ _ _).mono fun e w' ⟨h1, h2⟩ => ⟨_, h1, by subst h2; exact (Mem.nil w').addNil _ _⟩
 | some ad =>
  by_cases h0 : xs = []
  ·subst h0
   exact (Tryz.slices_Clone_int_zero ad cap w).mono fun e w' ⟨v, h1, h2, _, h4⟩ => ⟨v, h1, Mem.of_own h2 h4⟩
  ·obtain ⟨x, r, rfl⟩ := List.exists_cons_of_ne_nil h0
   obtain ⟨b, off, e, _⟩ := hx.at_ 0 (.int .i64 x) rfl
   cases e
   refine (Tryz.slices_Clone_int b off (x :: r).length cap (x :: r) w (Nat.le_refl _) (by omega) (fun j hj => ?_)).mono fun e w' ⟨v, h1, h2, _, h4⟩ => ⟨v, h1, Mem.of_own (by rw [List.take_of_length_le (Nat.le_refl _)] at h2; exact h2) h4⟩
   obtain ⟨b', off', e', c'⟩ := hx.at_ j (.int .i64 ((x :: r).getD j 0)) (by rw [List.getElem?_map, List.getD_eq_getElem?_getD, List.getElem?_eq_getElem hj]; rfl)
   cases e'; exact c'
theorem cloneStrs (a : Option Addr) (cap : Nat) (xs : List ByteArray) (w : World) (hx : StrsAt w a xs) (hl : xs.length ≤ 8388608) :
  Calls Tryz.prog 22 #[.slice a xs.length cap] w fun e w' => ∃ v, e = .returned v ∧ Mem w w' [rowR 9 1 v xs.length (xs.map Value.string)] := by
 cases a with
 | none =>
  have h0 : xs = [] := by
   cases xs with
   | nil => rfl
   | cons x r => obtain ⟨_, _, e, _⟩ := hx.at_ 0 (.string x) rfl; cases e
  subst h0
  exact (Tryz.slices_Clone_string_nil _ _ _).mono fun e w' ⟨h1, h2⟩ => ⟨_, h1, by subst h2; exact (Mem.nil w').addNil _ _⟩
 | some ad =>
  by_cases h0 : xs = []
  ·subst h0
   exact (Tryz.slices_Clone_string_zero ad cap w).mono fun e w' ⟨v, h1, h2, _, h4⟩ => ⟨v, h1, Mem.of_own h2 h4⟩
  ·obtain ⟨x, r, rfl⟩ := List.exists_cons_of_ne_nil h0
   obtain ⟨b, off, e, _⟩ := hx.at_ 0 (.string x) rfl
   cases e
   refine (Tryz.slices_Clone_string b off (x :: r).length cap (x :: r) w (Nat.le_refl _) (by omega) (fun j hj => ?_)).mono fun e w' ⟨v, h1, h2, _, h4⟩ => ⟨v, h1, Mem.of_own (by rw [List.take_of_length_le (Nat.le_refl _)] at h2; exact h2) h4⟩
   obtain ⟨b', off', e', c'⟩ := hx.at_ j (.string ((x :: r).getD j ByteArray.empty)) (by rw [List.getElem?_map, List.getD_eq_getElem?_getD, List.getElem?_eq_getElem hj]; rfl)
   cases e'; exact c'
end Go.Proofs.YtlkfhbmjemjohaaGreatDoor.gr
namespace Go.Tre
def placeOf (L : List Nat) (a : Int) : Int := ((L.idxOf a.toNat : Nat) : Int)
def trimNode (L : List Nat) (n : Tre.Node) : Tre.Node := { n with args := n.args.map (placeOf L) }
def Graph.trim (g : Tre.Graph) : Tre.Graph := ⟨g.reachL.map fun i => trimNode g.reachL (g.nd i), 0⟩
def idxMap (L : List Nat) (k : Nat) : Nat → Option Nat := fun x => if x ∈ L.take k then some (L.idxOf x) else none
theorem idxOf_nodup {L : List Nat} (hn : L.Nodup) {k : Nat} (h : k < L.length) : L.idxOf L[k] = k := by
 have h1 : L.idxOf L[k] < L.length := List.idxOf_lt_length_of_mem (List.getElem_mem h)
 have h2 : L[L.idxOf L[k]] = L[k] := List.getElem_idxOf h1
 exact (List.getElem?_inj h1 hn).1 (by rw [List.getElem?_eq_getElem h1, List.getElem?_eq_getElem h, h2])
theorem idxMap_succ {L : List Nat} (hn : L.Nodup) {k : Nat} (h : k < L.length) : upd (idxMap L k) L[k] k = idxMap L (k + 1) := by
 funext x
 unfold upd idxMap
 have e : L.take (k + 1) = L.take k ++ [L[k]] := by rw [List.take_add_one, List.getElem?_eq_getElem h]; rfl
 rw [e]
 by_cases hx : x = L[k]
 ·subst hx
  rw [if_pos rfl, if_pos (List.mem_append.2 (.inr (List.mem_singleton.2 rfl))), idxOf_nodup hn h]
 ·rw [if_neg hx]
  have : (x ∈ L.take k ++ [L[k]]) = (x ∈ L.take k) := by rw [List.mem_append, List.mem_singleton]; simp only [hx, or_false]
  simp only [this]
def half {α : Type} (f : α → α) (l : List α) (j : Nat) : List α := (l.take j).map f ++ l.drop j
theorem Graph.reach_ok {g : Tre.Graph} {a : Nat} (ha : a ∈ g.reachL) : g.Ok := by
 unfold Graph.reachL at ha
 by_cases h : g.checkC = 0
 ·exact Graph.ok_of h
 ·rw [if_neg h] at ha; simp at ha
end Go.Tre
namespace Go.Tre
def setMap (L : List Nat) (k : Nat) : Nat → Option Unit := fun x => if x ∈ L.take k then some () else none
theorem take_snoc_n {α : Type} {L : List α} {k : Nat} (h : k < L.length) : L.take (k + 1) = L.take k ++ [L[k]] := by rw [List.take_add_one, List.getElem?_eq_getElem h]; rfl
theorem alike_refl (x : Tre.Node) : alikeB x x = true := by simp [alikeB]
theorem alike_symm {x y : Tre.Node} (h : alikeB x y = true) : alikeB y x = true := by
 unfold alikeB at *
 simp only [Bool.and_eq_true, decide_eq_true_eq] at *
 obtain ⟨⟨⟨⟨h1, h2⟩, h3⟩, h4⟩, h5⟩ := h
 exact ⟨⟨⟨⟨h1.symm, h2.symm⟩, h3.symm⟩, h4.symm⟩, h5.symm⟩
theorem alike_trans {x y z : Tre.Node} (h : alikeB x y = true) (k : alikeB y z = true) : alikeB x z = true := by
 unfold alikeB at *
 simp only [Bool.and_eq_true, decide_eq_true_eq] at *
 obtain ⟨⟨⟨⟨h1, h2⟩, h3⟩, h4⟩, h5⟩ := h
 obtain ⟨⟨⟨⟨k1, k2⟩, k3⟩, k4⟩, k5⟩ := k
 exact ⟨⟨⟨⟨h1.trans k1, h2.trans k2⟩, h3.trans k3⟩, h4.trans k4⟩, h5.trans k5⟩
theorem RP.symm {g h : Tre.Graph} {a b : Nat} (r : RP g h a b) : RP h g b a := by
 induction r with
 | root => exact .root
 | kid _ h1 h2 ih => exact .kid ih h2 h1
theorem SameG.symm {g h : Tre.Graph} (s : SameG g h) : SameG h g :=
 ⟨s.okh, s.okg, fun a b r => alike_symm (s.alike b a r.symm), fun a b a' b' r r' hf => (s.one b a b' a' r.symm r'.symm (by rw [alike_free (s.alike b a r.symm)]; exact hf)).symm⟩
theorem RP.refl_eq {g : Tre.Graph} {a b : Nat} (r : RP g g a b) : a = b := by
 induction r with
 | root => rfl
 | kid _ _ _ ih => rw [ih]
theorem SameG.refl {g : Tre.Graph} (h : g.checkC = 0) : SameG g g :=
 ⟨h, h, fun a b r => by rw [r.refl_eq]; exact alike_refl _, fun a b a' b' r r' _ => by rw [r.refl_eq, r'.refl_eq]⟩
theorem RP.comp {g h k : Tre.Graph} (s : SameG g h) (_t : SameG h k) {a c : Nat} (r : RP g k a c) : ∃ b, RP g h a b ∧ RP h k b c := by
 induction r with
 | root => exact ⟨_, .root, .root⟩
 | kid _ h1 h2 ih =>
  obtain ⟨b, r1, r2⟩ := ih
  have e1 := alike_deg (s.alike _ _ r1)
  refine ⟨h.kid b _, .kid r1 h1 ?_, .kid r2 ?_ h2⟩ <;> (unfold Graph.deg at *; omega)
theorem SameG.trans {g h k : Tre.Graph} (s : SameG g h) (t : SameG h k) : SameG g k := by
 refine ⟨s.okg, t.okh, fun a c r => ?_, fun a c a' c' r r' hf => ?_⟩
 ·obtain ⟨b, r1, r2⟩ := r.comp s t
  exact alike_trans (s.alike _ _ r1) (t.alike _ _ r2)
 ·obtain ⟨b, r1, r2⟩ := r.comp s t
  obtain ⟨b', r1', r2'⟩ := r'.comp s t
  exact (s.one _ _ _ _ r1 r1' hf).trans (t.one _ _ _ _ r2 r2' (by rw [← alike_free (s.alike _ _ r1)]; exact hf))
end Go.Tre
namespace Go.Tre
def starB : ByteArray := ⟨#[42]⟩
def varN : Tre.Node := ⟨1, ByteArray.empty, [], [], false⟩
def starN (a b : Int) : Tre.Node := ⟨2, starB, [a, b], [], false⟩
theorem outside_mono {a b : Nat} (h : a ≤ b) {x : Int} (hx : outside a x = false) : outside b x = false := by
 unfold outside at *
 simp only [Bool.or_eq_false_iff, decide_eq_false_iff_not] at *
 omega
theorem mayB_mono {a b : Nat} (h : a ≤ b) {n : Tre.Node} (hn : mayB n a = true) : mayB n b = true := by
 unfold mayB at *
 simp only [Bool.and_eq_true, Bool.not_eq_true', List.any_eq_false] at *
 refine ⟨fun x hx => ?_, hn.2⟩
 have := hn.1 x hx
 rw [Bool.not_eq_true] at this ⊢
 exact outside_mono h this
theorem check_mk {g : Tre.Graph} (hl : g.ns.length ≤ 1048576) (h0 : 0 ≤ g.root) (h1 : g.root < g.ns.length) (hm : ∀ n ∈ g.ns, mayB n g.ns.length = true) : g.checkC = 0 := by
 unfold Graph.checkC
 rw [if_neg (by omega), if_neg]
 rintro (h | h | h)
 ·omega
 ·omega
 ·obtain ⟨n, hn, e⟩ := List.any_eq_true.1 h
  rw [hm n hn] at e
  cases e
theorem Graph.Ok.mays {g : Tre.Graph} (og : g.Ok) : ∀ n ∈ g.ns, mayB n g.ns.length = true := by
 intro n hn
 obtain ⟨i, hi, rfl⟩ := List.getElem_of_mem hn
 rw [← Graph.nd_eq hi]; exact og.may i hi
def oneG (g : Tre.Graph) : Tre.Graph := ⟨g.ns ++ [varN, starN g.ns.length g.ns.length], g.ns.length + 1⟩
def twoG (g : Tre.Graph) : Tre.Graph := ⟨g.ns ++ [varN, varN, starN g.ns.length (g.ns.length + 1)], g.ns.length + 2⟩
theorem Graph.great_len (g : Tre.Graph) : g.ns.length ≤ g.great := by unfold Graph.great; omega
end Go.Tre
namespace Go.Tre
inductive Rch (g : Tre.Graph) (a : Nat) : Nat → Prop where
 | refl : Rch g a a
 | step {b c : Nat} : Rch g a b → c ∈ g.kids b → Rch g a c
theorem Rch.trans {g : Tre.Graph} {a b c : Nat} (h : Rch g a b) (k : Rch g b c) : Rch g a c := by
 induction k with
 | refl => exact h
 | step _ hc ih => exact ih.step hc
theorem Rch.head {g : Tre.Graph} {a b c : Nat} (h : b ∈ g.kids a) (k : Rch g b c) : Rch g a c := (Rch.refl.step h).trans k
theorem Rch.lt {g : Tre.Graph} (og : g.Ok) {a b : Nat} (h : Rch g a b) (ha : a < g.ns.length) : b < g.ns.length := by
 induction h with
 | refl => exact ha
 | step _ hc ih => exact og.kids_lt ih _ hc
theorem Graph.dfs_within {g : Tre.Graph} (og : g.Ok) (C : Nat → Prop) (hC : ∀ a, C a → ∀ b ∈ g.kids a, C b) : ∀ (k : Nat) (s out : List Nat), g.budget out + s.length ≤ k → (∀ a ∈ s, a < g.ns.length) → (∀ a ∈ s, C a) → (∀ a ∈ out, C a) → ∀ a ∈ g.dfs s out, C a := by
 intro k
 induction k with
 | zero =>
  intro s out hk _ _ h3
  have : s = [] := List.length_eq_zero_iff.1 (by omega)
  subst this
  rw [g.dfs_nil]; exact h3
 | succ k ih =>
  intro s out hk h1 h2 h3
  cases s with
  | nil => rw [g.dfs_nil]; exact h3
  | cons a s =>
   have hal := h1 a (by simp)
   by_cases hm : a ∈ out
   ·rw [Graph.dfs_skip hm]; exact ih s out (by simp at hk; omega) (fun b hb => h1 b (by simp [hb])) (fun b hb => h2 b (by simp [hb])) h3
   ·rw [Graph.dfs_take hm hal]
    have hb := Graph.budget_step hal hm
    refine ih (g.kids a ++ s) (out ++ [a]) (by simp only [List.length_append, List.length_cons, g.kids_len] at hk ⊢; omega) (fun b hb => ?_) (fun b hb => ?_) (fun b hb => ?_)
    ·rcases List.mem_append.1 hb with hb | hb
     ·exact og.kids_lt hal b hb
     ·exact h1 b (by simp [hb])
    ·rcases List.mem_append.1 hb with hb | hb
     ·exact hC a (h2 a (by simp)) b hb
     ·exact h2 b (by simp [hb])
    ·rcases List.mem_append.1 hb with hb | hb
     ·exact h3 b hb
     ·simp at hb; rw [hb]; exact h2 a (by simp)
theorem Graph.mem_dfs {g : Tre.Graph} (og : g.Ok) {l : List Nat} (hl : ∀ a ∈ l, a < g.ns.length) {a : Nat} : a ∈ g.dfs l [] ↔ ∃ m ∈ l, Rch g m a := by
 constructor
 ·intro h
  exact Graph.dfs_within og (fun a => ∃ m ∈ l, Rch g m a) (fun a ⟨m, hm, r⟩ b hb => ⟨m, hm, r.step hb⟩) _ l [] (Nat.le_refl _) hl (fun a ha => ⟨a, ha, .refl⟩) (by simp) a h
 ·rintro ⟨m, hm, r⟩
  obtain ⟨_, _, r3, _, r5⟩ := g.dfs_spec og _ l [] (Nat.le_refl _) (by simp) (by simp) hl (by simp)
  induction r with
  | refl => exact r5 m hm
  | step _ hc ih => exact r3 _ ih _ hc
theorem Graph.mem_reach {g : Tre.Graph} (h : g.checkC = 0) {a : Nat} : a ∈ g.reachL ↔ Rch g g.root.toNat a := by
 have og := Graph.ok_of h
 unfold Graph.reachL
 rw [if_pos h, Graph.mem_dfs og (fun a ha => by simp at ha; rw [ha]; exact og.root1)]
 simp
def Graph.markB (g : Tre.Graph) (l : List Nat) (i : Nat) : Bool := decide (i ∈ g.dfs l [])
def Graph.fixedL (g : Tre.Graph) (mono : List Nat) : List Nat := (List.range g.ns.length).filter fun i => freeB (g.nd i) && g.markB mono i
def Graph.genericL (g : Tre.Graph) (mono : List Nat) : List Nat := (List.range g.ns.length).filter fun i => freeB (g.nd i) && (!g.markB mono i && g.markB [g.root.toNat] i)
def Graph.leadB (g : Tre.Graph) (gen : List Nat) (i : Nat) : Bool := gen.any fun k => decide (k ∈ g.dfs [i] [])
def Graph.copiesL (g : Tre.Graph) (mono : List Nat) : List Nat := g.reachL.filter (g.leadB (g.genericL mono))
def nowF (n : Nat) (C : List Nat) (x : Nat) : Nat := if x ∈ C then n + C.idxOf x else x
def copyN (n : Nat) (C : List Nat) (x : Tre.Node) : Tre.Node := { x with args := x.args.map fun a => ((nowF n C a.toNat : Nat) : Int) }
def Graph.freshG (g : Tre.Graph) (mono : List Nat) : Tre.Graph := ⟨g.ns ++ (g.copiesL mono).map fun i => copyN g.ns.length (g.copiesL mono) (g.nd i), ((nowF g.ns.length (g.copiesL mono) g.root.toNat : Nat) : Int)⟩
section
variable {g : Tre.Graph} {mono : List Nat}
theorem Graph.markB_iff (og : g.Ok) {l : List Nat} (hl : ∀ a ∈ l, a < g.ns.length) {i : Nat} : g.markB l i = true ↔ ∃ m ∈ l, Rch g m i := by
 unfold Graph.markB; rw [decide_eq_true_eq]; exact Graph.mem_dfs og hl
theorem Graph.mem_generic (og : g.Ok) (hl : ∀ a ∈ mono, a < g.ns.length) {i : Nat} : i ∈ g.genericL mono ↔ freeB (g.nd i) = true ∧ (¬ ∃ m ∈ mono, Rch g m i) ∧ Rch g g.root.toNat i := by
 unfold Graph.genericL
 have h1 := Graph.markB_iff og hl (i := i)
 have h2 := Graph.markB_iff og (l := [g.root.toNat]) (fun a ha => by simp at ha; rw [ha]; exact og.root1) (i := i)
 rw [List.mem_filter, List.mem_range, Bool.and_eq_true, Bool.and_eq_true, Bool.not_eq_true', ← Bool.not_eq_true, h1, h2]
 simp only [List.mem_singleton, exists_eq_left]
 exact ⟨fun h => h.2, fun h => ⟨h.2.2.lt og og.root1, h⟩⟩
theorem Graph.leadB_iff (og : g.Ok) {gen : List Nat} {i : Nat} (hi : i < g.ns.length) : g.leadB gen i = true ↔ ∃ k ∈ gen, Rch g i k := by
 unfold Graph.leadB
 rw [List.any_eq_true]
 constructor
 ·rintro ⟨k, hk, h⟩
  rw [decide_eq_true_eq, Graph.mem_dfs og (fun a ha => by simp at ha; rw [ha]; exact hi)] at h
  obtain ⟨m, hm, r⟩ := h
  simp at hm; subst hm
  exact ⟨k, hk, r⟩
 ·rintro ⟨k, hk, r⟩
  refine ⟨k, hk, ?_⟩
  rw [decide_eq_true_eq, Graph.mem_dfs og (fun a ha => by simp at ha; rw [ha]; exact hi)]
  exact ⟨i, by simp, r⟩
theorem Graph.mem_copies (h : g.checkC = 0) (hl : ∀ a ∈ mono, a < g.ns.length) {i : Nat} : i ∈ g.copiesL mono ↔ Rch g g.root.toNat i ∧ ∃ k, Rch g i k ∧ freeB (g.nd k) = true ∧ ¬ ∃ m ∈ mono, Rch g m k := by
 have og := Graph.ok_of h
 unfold Graph.copiesL
 rw [List.mem_filter, Graph.mem_reach h]
 constructor
 ·rintro ⟨h1, h2⟩
  rw [Graph.leadB_iff og (h1.lt og og.root1)] at h2
  obtain ⟨k, hk, r⟩ := h2
  have h3 := (Graph.mem_generic og hl).1 hk
  exact ⟨h1, k, r, h3.1, h3.2.1⟩
 ·rintro ⟨h1, k, r, h3, h4⟩
  refine ⟨h1, ?_⟩
  rw [Graph.leadB_iff og (h1.lt og og.root1)]
  exact ⟨k, (Graph.mem_generic og hl).2 ⟨h3, h4, h1.trans r⟩, r⟩
theorem Graph.copies_nodup : (g.copiesL mono).Nodup := List.Nodup.sublist (List.filter_sublist) g.reach_nodup
theorem Graph.copies_lt {i : Nat} (h : i ∈ g.copiesL mono) : i < g.ns.length := g.reach_lt i (List.mem_filter.1 h).1
theorem nowF_lt {n m : Nat} {C : List Nat} {x : Nat} (hx : x < n) (hm : n + C.length ≤ m) : nowF n C x < m := by
 unfold nowF
 split
 ·rename_i h
  have := List.idxOf_lt_length_of_mem h
  omega
 ·omega
theorem nowF_inj {n : Nat} {C : List Nat} {x y : Nat} (hx : x < n) (hy : y < n) (h : nowF n C x = nowF n C y) : x = y := by
 unfold nowF at h
 by_cases h1 : x ∈ C
 ·by_cases h2 : y ∈ C
  ·rw [if_pos h1, if_pos h2] at h
   have e : C.idxOf x = C.idxOf y := by omega
   have h3 := List.getElem_idxOf (List.idxOf_lt_length_of_mem h1)
   have h4 := List.getElem_idxOf (List.idxOf_lt_length_of_mem h2)
   rw [← h3, ← h4]
   simp only [e]
  ·rw [if_pos h1, if_neg h2] at h; omega
 ·by_cases h2 : y ∈ C
  ·rw [if_neg h1, if_pos h2] at h; omega
  ·rw [if_neg h1, if_neg h2] at h; exact h
theorem Graph.fresh_len : (g.freshG mono).ns.length = g.ns.length + (g.copiesL mono).length := by simp [Graph.freshG]
theorem Graph.fresh_old {i : Nat} (hi : i < g.ns.length) : (g.freshG mono).nd i = g.nd i := by
 rw [Graph.nd_eq (by rw [Graph.fresh_len]; omega), Graph.nd_eq hi]
 exact List.getElem_append_left hi
theorem Graph.fresh_new {i : Nat} (hi : i ∈ g.copiesL mono) : (g.freshG mono).nd (nowF g.ns.length (g.copiesL mono) i) = copyN g.ns.length (g.copiesL mono) (g.nd i) := by
 have hk := List.idxOf_lt_length_of_mem hi
 have e : nowF g.ns.length (g.copiesL mono) i = g.ns.length + (g.copiesL mono).idxOf i := by unfold nowF; rw [if_pos hi]
 rw [e, Graph.nd_eq (by rw [Graph.fresh_len]; omega)]
 unfold Graph.freshG
 simp only
 rw [List.getElem_append_right (by omega)]
 simp only [List.getElem_map, Nat.add_sub_cancel_left]
 rw [List.getElem_idxOf hk]
theorem Graph.now_nd (og : g.Ok) (h : g.checkC = 0) (hl : ∀ a ∈ mono, a < g.ns.length) {x : Nat} (hx : Rch g g.root.toNat x) :
  (g.freshG mono).nd (nowF g.ns.length (g.copiesL mono) x) = copyN g.ns.length (g.copiesL mono) (g.nd x) := by
 by_cases hc : x ∈ g.copiesL mono
 ·exact Graph.fresh_new hc
 ·have hxl := hx.lt og og.root1
  have e : nowF g.ns.length (g.copiesL mono) x = x := by unfold nowF; rw [if_neg hc]
  rw [e, Graph.fresh_old hxl]
  have ea : (g.nd x).args = (g.nd x).args.map fun a => ((nowF g.ns.length (g.copiesL mono) a.toNat : Nat) : Int) := by
   rw [og.kids_eq hxl, List.map_map]
   refine List.map_congr_left (fun y hy => ?_)
   have hyn : y ∉ g.copiesL mono := fun hy' => hc (by
    rw [Graph.mem_copies h hl] at hy' ⊢
    obtain ⟨_, k, r, r2⟩ := hy'
    exact ⟨hx, k, r.head hy, r2⟩)
   simp only [Function.comp, Int.toNat_natCast]
   unfold nowF
   rw [if_neg hyn]
  unfold copyN
  rw [← ea]
theorem copyN_kids (n : Nat) (C : List Nat) (x : Tre.Node) : (copyN n C x).args.map Int.toNat = (x.args.map Int.toNat).map (nowF n C) := by
 unfold copyN
 rw [List.map_map, List.map_map]
 rfl
theorem Graph.now_kids (og : g.Ok) (h : g.checkC = 0) (hl : ∀ a ∈ mono, a < g.ns.length) {x : Nat} (hx : Rch g g.root.toNat x) :
  (g.freshG mono).kids (nowF g.ns.length (g.copiesL mono) x) = (g.kids x).map (nowF g.ns.length (g.copiesL mono)) := by
 unfold Graph.kids
 rw [Graph.now_nd og h hl hx, copyN_kids]
theorem Graph.old_kids {i : Nat} (hi : i < g.ns.length) : (g.freshG mono).kids i = g.kids i := by unfold Graph.kids; rw [Graph.fresh_old hi]
theorem Graph.fresh_check (h : g.checkC = 0) (hs : g.ns.length + (g.copiesL mono).length ≤ 1048576) : (g.freshG mono).checkC = 0 := by
 have og := Graph.ok_of h
 refine check_mk (by rw [Graph.fresh_len]; exact hs) (by show (0 : Int) ≤ ((_ : Nat) : Int); omega) (by rw [Graph.fresh_len]; show ((_ : Nat) : Int) < _; have := nowF_lt (C := g.copiesL mono) og.root1 (Nat.le_refl _); omega) (fun n hn => ?_)
 rw [Graph.fresh_len]
 unfold Graph.freshG at hn
 rcases List.mem_append.1 hn with hn | hn
 ·exact mayB_mono (by omega) (og.mays n hn)
 ·obtain ⟨i, hi, rfl⟩ := List.mem_map.1 hn
  have hil := Graph.copies_lt hi
  have hm := og.may i hil
  unfold mayB at hm ⊢
  have e : (copyN g.ns.length (g.copiesL mono) (g.nd i)).args.length = (g.nd i).args.length := by simp [copyN]
  rw [show (copyN g.ns.length (g.copiesL mono) (g.nd i)).kind = (g.nd i).kind from rfl, show (copyN g.ns.length (g.copiesL mono) (g.nd i)).name = (g.nd i).name from rfl, show (copyN g.ns.length (g.copiesL mono) (g.nd i)).labels = (g.nd i).labels from rfl, show (copyN g.ns.length (g.copiesL mono) (g.nd i)).isOpen = (g.nd i).isOpen from rfl, e]
  rw [Bool.and_eq_true] at hm ⊢
  refine ⟨?_, hm.2⟩
  cases hy : (copyN g.ns.length (g.copiesL mono) (g.nd i)).args.any (outside (g.ns.length + (g.copiesL mono).length))
  ·rfl
  ·obtain ⟨z, hz, hzz⟩ := List.any_eq_true.1 hy
   have hz' : z ∈ (g.nd i).args.map fun a => ((nowF g.ns.length (g.copiesL mono) a.toNat : Nat) : Int) := hz
   rw [og.kids_eq hil, List.map_map] at hz'
   obtain ⟨y, hy', rfl⟩ := List.mem_map.1 hz'
   have hyl := og.kids_lt hil y hy'
   have := nowF_lt (C := g.copiesL mono) hyl (Nat.le_refl _)
   unfold outside at hzz
   simp only [Function.comp, Int.toNat_natCast, Bool.or_eq_true, decide_eq_true_eq] at hzz
   omega
theorem Graph.fresh_root : (g.freshG mono).root.toNat = nowF g.ns.length (g.copiesL mono) g.root.toNat := by show ((_ : Nat) : Int).toNat = _; simp
end
end Go.Tre
namespace Go.Tre
section
variable {g : Tre.Graph} {mono : List Nat}
/-! with more monos -/
/-! without monos; with the root -/
/-! a type beside its copy -/
def besideG (g f : Tre.Graph) : Tre.Graph := ⟨f.ns ++ [starN g.root f.root], f.ns.length⟩
end
end Go.Tre
namespace Go.Tre
open Go.Lib (decDigits itoa)

/-! numerals -/
def digit (c : UInt8) : Prop := 48 ≤ c.toNat ∧ c.toNat ≤ 57
def valD (l : List UInt8) : Nat := l.foldl (fun a c => 10 * a + (c.toNat - 48)) 0
/-! two texts that are the same have the same beginnings, up to a byte that ends them -/
def begins (p : UInt8 → Prop) (l : List UInt8) : Prop := ∀ c, l.head? = some c → p c
/-! how nodes look -/
def freeC (n : Tre.Node) : Bool := decide (n.kind = 1) || n.isOpen
def lookL (n : Tre.Node) (cl : Nat → Nat) : List UInt8 :=
 itoa n.kind ++ n.name.data.toList ++ (n.labels.map fun l => l.data.toList).flatMap (fun l => 32 :: l) ++ (n.args.map fun a => decDigits (cl a.toNat)).flatMap (fun l => 44 :: l)
def Graph.keyL (g : Tre.Graph) (cl : Nat → Nat) (i : Nat) : List UInt8 :=
 decDigits (cl i) ++ 58 :: ((if freeC (g.nd i) then 35 :: decDigits i else []) ++ lookL (g.nd i) cl)

structure Words (n : Tre.Node) : Prop where
 kind : n.kind = 1 ∨ n.kind = 2 ∨ n.kind = 3
 name : ∀ c ∈ n.name.data.toList, c ≠ 32 ∧ c ≠ 44
 labels : ∀ l ∈ n.labels, ∀ c ∈ l.data.toList, c ≠ 32 ∧ c ≠ 44
 free : freeC n = true → n.name.data.toList = []
 openOf : freeC n = freeB n
def endB (c : UInt8) : Prop := c = 32 ∨ c = 44
def tailL (n : Tre.Node) (cl : Nat → Nat) : List UInt8 := (n.labels.map fun l => l.data.toList).flatMap (fun l => 32 :: l) ++ (n.args.map fun a => decDigits (cl a.toNat)).flatMap (fun l => 44 :: l)
/-! classes, refined -/
def Graph.refineC (g : Tre.Graph) (cl : Nat → Nat) (i : Nat) : Nat := ((List.range i).map (g.keyL cl)).idxOf (g.keyL cl i)
section
variable {g : Tre.Graph} {cl : Nat → Nat} {i j : Nat}
end
def Graph.refineL (g : Tre.Graph) (L : List Nat) : List Nat := (List.range g.ns.length).map (g.refineC fun a => L.getD a 0)
def Graph.iterL (g : Tre.Graph) : Nat → List Nat
 | 0 => List.replicate g.ns.length 0
 | k + 1 => g.refineL (g.iterL k)
def Graph.classesL (g : Tre.Graph) : List Nat := g.iterL (g.ns.length * g.ns.length)
section
variable {g : Tre.Graph}
def Graph.cls (g : Tre.Graph) (a : Nat) : Nat := g.classesL.getD a 0
end
end Go.Tre
namespace Go.Tre
theorem sum_const {α : Type} (c : Nat) : ∀ L : List α, (L.map fun _ => c).sum = L.length * c
 | [] => by simp
 | _ :: r => by simp only [List.map_cons, List.sum_cons, List.length_cons, sum_const c r, Nat.add_mul]; omega
theorem left_le (g h : Tre.Graph) : left g h (fun _ => none) ≤ g.weight * h.ns.length := by
 have e : ∀ L : List Nat, (∀ a ∈ L, a < g.ns.length) → ((L.flatMap fun a => (List.range h.ns.length).map fun b => (a, b)).map (wgt g (fun _ => none))).sum = (L.map fun a => h.ns.length * g.deg a).sum := by
  intro L
  induction L with
  | nil => intro _; rfl
  | cons a r ih =>
   intro hl
   rw [List.flatMap_cons, List.map_append, List.sum_append, ih (fun a h => hl a (by simp [h]))]
   simp only [wgt, List.map_map, Function.comp_def, if_true, List.map_cons, List.sum_cons, sum_const, List.length_range]
 unfold left univ
 rw [e _ (fun a h => by simpa using h)]
 have e2 : ((List.range g.ns.length).map fun a => h.ns.length * g.deg a) = g.ns.map fun n => h.ns.length * n.args.length := by
  apply List.ext_getElem
  ·simp
  ·intro i h1 h2
   have hi : i < g.ns.length := by simpa using h1
   simp [Graph.deg, Graph.nd_eq hi]
 rw [e2]
 unfold Graph.weight
 generalize g.ns = ns
 induction ns with
 | nil => simp
 | cons n r ih =>
  have : n.args.length ≤ n.weight := by unfold Tre.Node.weight; omega
  simp only [List.map_cons, List.sum_cons, Nat.add_mul]
  have h3 : h.ns.length * n.args.length ≤ n.weight * h.ns.length := by rw [Nat.mul_comm n.weight]; exact Nat.mul_le_mul_left _ this
  omega
theorem len_weight (g : Tre.Graph) : g.ns.length ≤ g.weight := length_le_sum _ (fun n => by unfold Tre.Node.weight; omega) g.ns
end Go.Tre
namespace Go.Tre
theorem sum_mem (f : Nat → Nat) (n : Nat) : ∀ L : List Nat, L.Nodup → (∀ a ∈ L, a < n) → (L.map f).sum = ((List.range n).map fun i => if i ∈ L then f i else 0).sum
 | [], _, _ => by
  have := sum_const (α := Nat) 0 (List.range n)
  simp only [List.map_nil, List.sum_nil, List.not_mem_nil, if_false]
  omega
 | a :: L, hn, hl => by
  have h1 := List.nodup_cons.1 hn
  have ih := sum_mem f n L h1.2 (fun b hb => hl b (by simp [hb]))
  have := sum_upd (fun i => if i ∈ a :: L then f i else 0) (fun i => if i ∈ L then f i else 0) a (List.range n) List.nodup_range (List.mem_range.2 (hl a (by simp))) (fun q hq => by
   have : (q ∈ a :: L) = (q ∈ L) := by simp [hq]
   simp only [this])
  simp only [List.mem_cons, true_or, if_true, if_neg h1.1, Nat.add_zero] at this
  simp only [List.map_cons, List.sum_cons, List.mem_cons]
  omega
theorem sum_le_all (f : Nat → Nat) {n : Nat} {L : List Nat} (hn : L.Nodup) (hl : ∀ a ∈ L, a < n) : (L.map f).sum ≤ ((List.range n).map f).sum := by
 rw [sum_mem f n L hn hl]
 generalize List.range n = R
 induction R with
 | nil => simp
 | cons x R ih =>
  simp only [List.map_cons, List.sum_cons]
  split <;> omega
theorem nodup_len {n : Nat} {L : List Nat} (hn : L.Nodup) (hl : ∀ a ∈ L, a < n) : L.length ≤ n := by
 have h := sum_le_all (fun _ => 1) hn hl
 rw [sum_const, sum_const, List.length_range] at h
 omega
theorem Graph.weight_range (g : Tre.Graph) : g.weight = ((List.range g.ns.length).map fun i => (g.nd i).weight).sum := by
 unfold Graph.weight
 congr 1
 apply List.ext_getElem
 ·simp
 ·intro i h1 h2
  have hi : i < g.ns.length := by simpa using h1
  simp [Graph.nd_eq hi]
end Go.Tre
namespace Go.Tre

structure Hom (g h : Tre.Graph) (r : Nat → Nat) : Prop where
 root : r g.root.toNat = h.root.toNat
 kind : ∀ a, Rch g g.root.toNat a → (h.nd (r a)).kind = (g.nd a).kind
 name : ∀ a, Rch g g.root.toNat a → (h.nd (r a)).name = (g.nd a).name
 labels : ∀ a, Rch g g.root.toNat a → (h.nd (r a)).labels = (g.nd a).labels
 open_ : ∀ a, Rch g g.root.toNat a → (h.nd (r a)).isOpen = (g.nd a).isOpen
 kids : ∀ a, Rch g g.root.toNat a → h.kids (r a) = (g.kids a).map r
section
variable {g h k : Tre.Graph} {r s : Nat → Nat}
theorem Hom.reach (m : Hom g h r) {a : Nat} (ha : Rch g g.root.toNat a) : Rch h h.root.toNat (r a) := by
 induction ha with
 | refl => rw [m.root]; exact .refl
 | @step b c hb hc ih => exact ih.step (by rw [m.kids _ hb]; exact List.mem_map.2 ⟨_, hc, rfl⟩)
theorem Hom.comp (m : Hom g h r) (n : Hom h k s) : Hom g k (s ∘ r) := by
 refine ⟨?_, fun a ha => ?_, fun a ha => ?_, fun a ha => ?_, fun a ha => ?_, fun a ha => ?_⟩
 ·show s (r _) = _; rw [m.root, n.root]
 ·exact (n.kind _ (m.reach ha)).trans (m.kind _ ha)
 ·exact (n.name _ (m.reach ha)).trans (m.name _ ha)
 ·exact (n.labels _ (m.reach ha)).trans (m.labels _ ha)
 ·exact (n.open_ _ (m.reach ha)).trans (m.open_ _ ha)
 ·show k.kids (s (r a)) = _
  rw [n.kids _ (m.reach ha), m.kids _ ha, List.map_map]
theorem Hom.args (m : Hom g h r) {a : Nat} (ha : Rch g g.root.toNat a) : (h.nd (r a)).args.length = (g.nd a).args.length := by
 have := congrArg List.length (m.kids a ha)
 rw [List.length_map, h.kids_len, g.kids_len] at this
 exact this
theorem kid_kids (g : Tre.Graph) (a i : Nat) : g.kid a i = (g.kids a).getD i 0 := by
 unfold Graph.kid Graph.kids; rw [List.getD_eq_getElem?_getD, List.getD_eq_getElem?_getD, List.getElem?_map]
 cases (g.nd a).args[i]? <;> rfl
theorem kid_of {l : List Nat} {i : Nat} (hi : i < l.length) (f : Nat → Nat) : (l.map f).getD i 0 = f (l.getD i 0) := by
 rw [List.getD_eq_getElem?_getD, List.getD_eq_getElem?_getD, List.getElem?_map, List.getElem?_eq_getElem hi]; rfl
theorem Hom.kid (m : Hom g h r) {a i : Nat} (ha : Rch g g.root.toNat a) (hi : i < g.deg a) : h.kid (r a) i = r (g.kid a i) := by
 rw [kid_kids, kid_kids, m.kids _ ha, kid_of (by rw [g.kids_len]; exact hi)]
theorem Rch.kid {a i : Nat} (ha : Rch g g.root.toNat a) (hi : i < g.deg a) : Rch g g.root.toNat (g.kid a i) := by
 rw [kid_kids]
 have hi' : i < (g.kids a).length := by rw [g.kids_len]; exact hi
 rw [List.getD_eq_getElem?_getD, List.getElem?_eq_getElem hi']
 exact ha.step (List.getElem_mem hi')
theorem Hom.rp (m : Hom g h r) {a b : Nat} (p : RP g h a b) : Rch g g.root.toNat a ∧ b = r a := by
 induction p with
 | root => exact ⟨.refl, m.root.symm⟩
 | kid _ h1 h2 ih =>
  obtain ⟨ha, rfl⟩ := ih
  exact ⟨ha.kid h1, m.kid ha h1⟩
theorem Hom.alike (m : Hom g h r) {a : Nat} (ha : Rch g g.root.toNat a) : alikeB (g.nd a) (h.nd (r a)) = true := by
 unfold alikeB
 rw [m.kind a ha, m.name a ha, m.labels a ha, m.open_ a ha, m.args ha]
 simp
theorem Hom.same (m : Hom g h r) (c0 : g.checkC = 0) (c1 : h.checkC = 0) (inj : ∀ a b, Rch g g.root.toNat a → Rch g g.root.toNat b → freeB (g.nd a) = true → r a = r b → a = b) : SameG g h := by
 refine ⟨c0, c1, fun a b p => ?_, fun a b a' b' p p' hf => ?_⟩
 ·obtain ⟨ha, rfl⟩ := m.rp p
  exact m.alike ha
 ·obtain ⟨ha, rfl⟩ := m.rp p
  obtain ⟨ha', rfl⟩ := m.rp p'
  exact ⟨fun e => by rw [e], fun e => inj _ _ ha ha' hf e⟩
end

/-! a fresh copy -/
section
variable {g : Tre.Graph} {mono : List Nat}
theorem fresh_hom (h : g.checkC = 0) (hl : ∀ a ∈ mono, a < g.ns.length) : Hom g (g.freshG mono) (nowF g.ns.length (g.copiesL mono)) := by
 have og := Graph.ok_of h
 refine ⟨Graph.fresh_root.symm, fun a ha => ?_, fun a ha => ?_, fun a ha => ?_, fun a ha => ?_, fun a ha => Graph.now_kids og h hl ha⟩
 all_goals rw [Graph.now_nd og h hl ha]; rfl
theorem fresh_same_mono (h : g.checkC = 0) (hl : ∀ a ∈ mono, a < g.ns.length) (hs : g.ns.length + (g.copiesL mono).length ≤ 1048576) : SameG (g.freshG mono) g := by
 have og := Graph.ok_of h
 exact ((fresh_hom h hl).same h (Graph.fresh_check h hs) (fun a b ha hb _ e => nowF_inj (ha.lt og og.root1) (hb.lt og og.root1) e)).symm
end

/-! the least graph -/
def clsNode (cl : Nat → Nat) (n : Tre.Node) : Tre.Node := { n with args := n.args.map fun a => ((cl a.toNat : Nat) : Int) }
def Graph.quotG (g : Tre.Graph) : Tre.Graph := ⟨g.ns.map (clsNode g.cls), ((g.cls g.root.toNat : Nat) : Int)⟩
def Graph.leastG (g : Tre.Graph) : Tre.Graph := g.quotG.trim
section
variable {g : Tre.Graph}
theorem cls_kids (cl : Nat → Nat) (n : Tre.Node) : (clsNode cl n).args.map Int.toNat = n.args.map (fun a => cl a.toNat) := by
 simp [clsNode, List.map_map, Function.comp_def]
end
end Go.Tre
