/- Layers 9, 11, plain: graphs onto graphs; the least graph; a fresh copy's. Layer 9, plain: the same types have the same least graph; how many nodes it has. -/
import Derived.Test.YtaleodkbghogfaaGreatDoorB18
import Derived.Test.YtaleodkbghogfaaGreatDoorB07
set_option linter.unusedVariables false
namespace Go.Tre

structure Hom (g h : Tre.Graph) (r : Nat → Nat) : Prop where
 root : r g.root.toNat = h.root.toNat
 kind : ∀ a, Rch g g.root.toNat a → (h.nd (r a)).kind = (g.nd a).kind
 name : ∀ a, Rch g g.root.toNat a → (h.nd (r a)).name = (g.nd a).name
 labels : ∀ a, Rch g g.root.toNat a → (h.nd (r a)).labels = (g.nd a).labels
 open_ : ∀ a, Rch g g.root.toNat a → (h.nd (r a)).isOpen = (g.nd a).isOpen
 kids : ∀ a, Rch g g.root.toNat a → h.kids (r a) = (g.kids a).map r
section
variable {g h k : Tre.Graph} {r s : Nat → Nat}
theorem Hom.reach (m : Hom g h r) {a : Nat} (ha : Rch g g.root.toNat a) : Rch h h.root.toNat (r a) := by
 induction ha with
 | refl => rw [m.root]; exact .refl
 | @step b c hb hc ih => exact ih.step (by rw [m.kids _ hb]; exact List.mem_map.2 ⟨_, hc, rfl⟩)
theorem Hom.comp (m : Hom g h r) (n : Hom h k s) : Hom g k (s ∘ r) := by
 refine ⟨?_, fun a ha => ?_, fun a ha => ?_, fun a ha => ?_, fun a ha => ?_, fun a ha => ?_⟩
 ·show s (r _) = _; rw [m.root, n.root]
 ·exact (n.kind _ (m.reach ha)).trans (m.kind _ ha)
 ·exact (n.name _ (m.reach ha)).trans (m.name _ ha)
 ·exact (n.labels _ (m.reach ha)).trans (m.labels _ ha)
 ·exact (n.open_ _ (m.reach ha)).trans (m.open_ _ ha)
 ·show k.kids (s (r a)) = _
  rw [n.kids _ (m.reach ha), m.kids _ ha, List.map_map]
theorem Hom.args (m : Hom g h r) {a : Nat} (ha : Rch g g.root.toNat a) : (h.nd (r a)).args.length = (g.nd a).args.length := by
 have := congrArg List.length (m.kids a ha)
 rw [List.length_map, h.kids_len, g.kids_len] at this
 exact this
theorem kid_kids (g : Tre.Graph) (a i : Nat) : g.kid a i = (g.kids a).getD i 0 := by
 unfold Graph.kid Graph.kids; rw [List.getD_eq_getElem?_getD, List.getD_eq_getElem?_getD, List.getElem?_map]
 cases (g.nd a).args[i]? <;> rfl
theorem kid_of {l : List Nat} {i : Nat} (hi : i < l.length) (f : Nat → Nat) : (l.map f).getD i 0 = f (l.getD i 0) := by
 rw [List.getD_eq_getElem?_getD, List.getD_eq_getElem?_getD, List.getElem?_map, List.getElem?_eq_getElem hi]; rfl
theorem Hom.kid (m : Hom g h r) {a i : Nat} (ha : Rch g g.root.toNat a) (hi : i < g.deg a) : h.kid (r a) i = r (g.kid a i) := by
 rw [kid_kids, kid_kids, m.kids _ ha, kid_of (by rw [g.kids_len]; exact hi)]
theorem Rch.kid {a i : Nat} (ha : Rch g g.root.toNat a) (hi : i < g.deg a) : Rch g g.root.toNat (g.kid a i) := by
 rw [kid_kids]
 have hi' : i < (g.kids a).length := by rw [g.kids_len]; exact hi
 rw [List.getD_eq_getElem?_getD, List.getElem?_eq_getElem hi']
 exact ha.step (List.getElem_mem hi')
theorem Hom.rp (m : Hom g h r) {a b : Nat} (p : RP g h a b) : Rch g g.root.toNat a ∧ b = r a := by
 induction p with
 | root => exact ⟨.refl, m.root.symm⟩
 | kid _ h1 h2 ih =>
  obtain ⟨ha, rfl⟩ := ih
  exact ⟨ha.kid h1, m.kid ha h1⟩
theorem Hom.alike (m : Hom g h r) {a : Nat} (ha : Rch g g.root.toNat a) : alikeB (g.nd a) (h.nd (r a)) = true := by
 unfold alikeB
 rw [m.kind a ha, m.name a ha, m.labels a ha, m.open_ a ha, m.args ha]
 simp
theorem Hom.same (m : Hom g h r) (c0 : g.checkC = 0) (c1 : h.checkC = 0) (inj : ∀ a b, Rch g g.root.toNat a → Rch g g.root.toNat b → freeB (g.nd a) = true → r a = r b → a = b) : SameG g h := by
 refine ⟨c0, c1, fun a b p => ?_, fun a b a' b' p p' hf => ?_⟩
 ·obtain ⟨ha, rfl⟩ := m.rp p
  exact m.alike ha
 ·obtain ⟨ha, rfl⟩ := m.rp p
  obtain ⟨ha', rfl⟩ := m.rp p'
  exact ⟨fun e => by rw [e], fun e => inj _ _ ha ha' hf e⟩
end

/-! a fresh copy -/
section
variable {g : Tre.Graph} {mono : List Nat}
theorem fresh_hom (h : g.checkC = 0) (hl : ∀ a ∈ mono, a < g.ns.length) : Hom g (g.freshG mono) (nowF g.ns.length (g.copiesL mono)) := by
 have og := Graph.ok_of h
 refine ⟨Graph.fresh_root.symm, fun a ha => ?_, fun a ha => ?_, fun a ha => ?_, fun a ha => ?_, fun a ha => Graph.now_kids og h hl ha⟩
 all_goals rw [Graph.now_nd og h hl ha]; rfl
theorem fresh_same_mono (h : g.checkC = 0) (hl : ∀ a ∈ mono, a < g.ns.length) (hs : g.ns.length + (g.copiesL mono).length ≤ 1048576) : SameG (g.freshG mono) g := by
 have og := Graph.ok_of h
 exact ((fresh_hom h hl).same h (Graph.fresh_check h hs) (fun a b ha hb _ e => nowF_inj (ha.lt og og.root1) (hb.lt og og.root1) e)).symm
theorem fresh_old_free (h : g.checkC = 0) (hl : ∀ a ∈ mono, a < g.ns.length) (hs : g.ns.length + (g.copiesL mono).length ≤ 1048576) {i : Nat} (hi : i ∈ (g.freshG mono).freeL) (hn : i < g.ns.length) : i ∈ g.fixedL mono ∧ i ∉ g.genericL mono := by
 have og := Graph.ok_of h
 rw [free_of_reach (Graph.fresh_check h hs), Graph.fresh_reach h hl] at hi
 obtain ⟨⟨x, hx, rfl⟩, hf⟩ := hi
 rw [Graph.now_nd og h hl hx, freeB_copy] at hf
 by_cases hc : x ∈ g.copiesL mono
 ·unfold nowF at hn; rw [if_pos hc] at hn; omega
 ·have e : nowF g.ns.length (g.copiesL mono) x = x := by unfold nowF; rw [if_neg hc]
  rw [e]
  have hm : ∃ m ∈ mono, Rch g m x := Classical.byContradiction fun e => hc ((Graph.mem_copies h hl).2 ⟨hx, x, .refl, hf, e⟩)
  exact ⟨(Graph.mem_fixed og hl).2 ⟨hx.lt og og.root1, hf, hm⟩, fun e => ((Graph.mem_generic og hl).1 e).2.1 hm⟩
theorem free_sorted (h : g.checkC = 0) (hl : ∀ a ∈ mono, a < g.ns.length) {i : Nat} (hi : i ∈ g.freeL) : i ∈ g.fixedL mono ∨ i ∈ g.genericL mono := by
 have og := Graph.ok_of h
 rw [free_of_reach h] at hi
 by_cases hm : ∃ m ∈ mono, Rch g m i
 ·exact .inl ((Graph.mem_fixed og hl).2 ⟨hi.1.lt og og.root1, hi.2, hm⟩)
 ·exact .inr ((Graph.mem_generic og hl).2 ⟨hi.2, hm, hi.1⟩)
theorem sorted_apart (og : g.Ok) (hl : ∀ a ∈ mono, a < g.ns.length) {i : Nat} (h1 : i ∈ g.fixedL mono) : i ∉ g.genericL mono :=
 fun h2 => ((Graph.mem_generic og hl).1 h2).2.1 ((Graph.mem_fixed og hl).1 h1).2.2
end

/-! the least graph -/
def clsNode (cl : Nat → Nat) (n : Tre.Node) : Tre.Node := { n with args := n.args.map fun a => ((cl a.toNat : Nat) : Int) }
def Graph.quotG (g : Tre.Graph) : Tre.Graph := ⟨g.ns.map (clsNode g.cls), ((g.cls g.root.toNat : Nat) : Int)⟩
def Graph.leastG (g : Tre.Graph) : Tre.Graph := g.quotG.trim
section
variable {g : Tre.Graph}
theorem quot_len : g.quotG.ns.length = g.ns.length := by simp [Graph.quotG]
theorem quot_nd {a : Nat} (ha : a < g.ns.length) : g.quotG.nd a = clsNode g.cls (g.nd a) := by
 rw [Graph.nd_eq (by rw [quot_len]; exact ha), Graph.nd_eq ha]
 simp [Graph.quotG]
theorem cls_kids (cl : Nat → Nat) (n : Tre.Node) : (clsNode cl n).args.map Int.toNat = n.args.map (fun a => cl a.toNat) := by
 simp [clsNode, List.map_map, Function.comp_def]
theorem cls_lt (_og : g.Ok) {a : Nat} (ha : a < g.ns.length) : g.cls a < g.ns.length := by have := cls_le ha; omega
theorem mayB_cls (og : g.Ok) {a : Nat} (ha : a < g.ns.length) : mayB (clsNode g.cls (g.nd a)) g.ns.length = true := by
 have h := og.may a ha
 have hk := og.kids_lt ha
 unfold mayB at *
 simp only [Bool.and_eq_true, Bool.not_eq_true', List.any_eq_false] at *
 refine ⟨fun x hx => ?_, ?_⟩
 ·simp only [clsNode, List.mem_map] at hx
  obtain ⟨y, hy, rfl⟩ := hx
  have hm : y.toNat < g.ns.length := hk _ (by unfold Graph.kids; exact List.mem_map.2 ⟨y, hy, rfl⟩)
  have := cls_lt og hm
  unfold outside
  simp
  omega
 ·have := h.2
  simpa [clsNode] using this
theorem quot_ok (h : g.checkC = 0) : g.quotG.checkC = 0 := by
 have og := Graph.ok_of h
 have hr := cls_lt og og.root1
 refine check_mk ?_ (Int.natCast_nonneg _) ?_ (fun n hn => ?_)
 ·rw [quot_len]; have := og.len; omega
 ·rw [quot_len]; show ((g.cls g.root.toNat : Nat) : Int) < _; omega
 ·rw [quot_len]
  simp only [Graph.quotG, List.mem_map] at hn
  obtain ⟨m, hm, rfl⟩ := hn
  obtain ⟨i, hi, rfl⟩ := List.getElem_of_mem hm
  rw [← Graph.nd_eq hi]
  exact mayB_cls og hi
theorem cls_look (og : g.Ok) {a : Nat} (ha : a < g.ns.length) : (g.nd (g.cls a)).kind = (g.nd a).kind ∧ (g.nd (g.cls a)).name = (g.nd a).name ∧ (g.nd (g.cls a)).labels = (g.nd a).labels ∧ (g.nd (g.cls a)).isOpen = (g.nd a).isOpen ∧
  (g.nd (g.cls a)).args.map (fun b => g.cls b.toNat) = (g.nd a).args.map (fun b => g.cls b.toNat) := by
 rcases (key_inj og (cls_lt og ha) ha (cls_key ha)).2 with e | ⟨f1, f2, h1, h2, h3, h4⟩
 ·rw [e]; exact ⟨rfl, rfl, rfl, rfl, rfl⟩
 ·refine ⟨h1, h2, h3, ?_, h4⟩
  unfold freeC at f1 f2
  rw [Bool.or_eq_false_iff] at f1 f2
  rw [f1.2, f2.2]
theorem quot_hom (h : g.checkC = 0) : Hom g g.quotG g.cls := by
 have og := Graph.ok_of h
 have lt : ∀ a, Rch g g.root.toNat a → a < g.ns.length := fun a ha => ha.lt og og.root1
 refine ⟨by show _ = ((_ : Nat) : Int).toNat; simp, fun a ha => ?_, fun a ha => ?_, fun a ha => ?_, fun a ha => ?_, fun a ha => ?_⟩
 all_goals
  have hl := lt a ha
  have L := cls_look og hl
 ·rw [quot_nd (cls_lt og hl)]; exact L.1
 ·rw [quot_nd (cls_lt og hl)]; exact L.2.1
 ·rw [quot_nd (cls_lt og hl)]; exact L.2.2.1
 ·rw [quot_nd (cls_lt og hl)]; exact L.2.2.2.1
 ·unfold Graph.kids
  rw [quot_nd (cls_lt og hl), cls_kids, L.2.2.2.2, List.map_map]
  rfl
theorem trim_hom (h : g.checkC = 0) : Hom g g.trim (fun a => g.reachL.idxOf a) := by
 have mem : ∀ a, Rch g g.root.toNat a → a ∈ g.reachL := fun a ha => (Graph.mem_reach h).2 ha
 refine ⟨idx_root h, fun a ha => ?_, fun a ha => ?_, fun a ha => ?_, fun a ha => ?_, fun a ha => trim_kids (mem a ha)⟩
 all_goals rw [trim_nd (mem a ha)]; rfl
theorem least_ok (h : g.checkC = 0) : g.leastG.checkC = 0 := trim_ok (quot_ok h)
theorem least_hom (h : g.checkC = 0) : Hom g g.leastG (fun a => g.quotG.reachL.idxOf (g.cls a)) := (quot_hom h).comp (trim_hom (quot_ok h))
theorem least_same (h : g.checkC = 0) : SameG g g.leastG := by
 have og := Graph.ok_of h
 have lt : ∀ a, Rch g g.root.toNat a → a < g.ns.length := fun a ha => ha.lt og og.root1
 refine (least_hom h).same h (least_ok h) (fun a b ha hb hf e => ?_)
 have e' : g.cls a = g.cls b := idxOf_inj ((Graph.mem_reach (quot_ok h)).2 ((quot_hom h).reach ha)) ((Graph.mem_reach (quot_ok h)).2 ((quot_hom h).reach hb)) e
 have := (key_inj og (lt a ha) (lt b hb) ((cls_iff (lt a ha) (lt b hb)).1 e')).2
 rcases this with e | ⟨f1, _⟩
 ·exact e
 ·rw [(words_of (og.may a (lt a ha))).openOf] at f1; rw [f1] at hf; cases hf
end
end Go.Tre
namespace Go.Tre
open Go.Lib (decDigits itoa)
inductive All2 (S : Nat → Nat → Prop) : List Nat → List Nat → Prop where
 | nil : All2 S [] []
 | cons {a b : Nat} {s t : List Nat} : S a b → All2 S s t → All2 S (a :: s) (b :: t)
section
variable {S : Nat → Nat → Prop}
theorem All2.append {s t s' t' : List Nat} (h : All2 S s t) (k : All2 S s' t') : All2 S (s ++ s') (t ++ t') := by
 induction h with
 | nil => exact k
 | cons e _ ih => exact .cons e ih
theorem All2.mem {s t : List Nat} (h : All2 S s t) (hl : ∀ a b b', S a b → S a b' → b = b') {a b : Nat} (e : S a b) (ha : a ∈ s) : b ∈ t := by
 induction h with
 | nil => cases ha
 | @cons a' b' s t e' _ ih =>
  rcases List.mem_cons.1 ha with rfl | ha
  ·rw [hl _ _ _ e e']; exact List.mem_cons_self ..
  ·exact List.mem_cons_of_mem _ (ih ha)
theorem All2.swap {s t : List Nat} (h : All2 S s t) : All2 (fun b a => S a b) t s := by
 induction h with
 | nil => exact .nil
 | cons e _ ih => exact .cons e ih
theorem All2.idx {s t : List Nat} (h : All2 S s t) (hl : ∀ a b b', S a b → S a b' → b = b') (hr : ∀ a a' b, S a b → S a' b → a = a') {a b : Nat} (e : S a b) : s.idxOf a = t.idxOf b := by
 induction h with
 | nil => rfl
 | @cons a' b' s t e' _ ih =>
  rw [List.idxOf_cons, List.idxOf_cons]
  by_cases h1 : a' = a
  ·subst h1
   have h2 := hl _ _ _ e e'
   subst h2
   simp
  ·have h2 : b' ≠ b := fun h2 => by subst h2; exact h1 (hr _ _ _ e' e)
   have e1 : (a' == a) = false := by simpa using h1
   have e2 : (b' == b) = false := by simpa using h2
   rw [e1, e2, ih]
theorem All2.maps {α : Type} {s t : List Nat} (h : All2 S s t) {f f' : Nat → α} (hf : ∀ a b, a ∈ s → S a b → f a = f' b) : s.map f = t.map f' := by
 induction h with
 | nil => rfl
 | cons e _ ih => rw [List.map_cons, List.map_cons, hf _ _ (List.mem_cons_self ..) e, ih (fun a b ha hb => hf a b (List.mem_cons_of_mem _ ha) hb)]
theorem all2_of {s t : List Nat} (hl : s.length = t.length) (h : ∀ i, i < s.length → S (s.getD i 0) (t.getD i 0)) : All2 S s t := by
 induction s generalizing t with
 | nil =>
  cases t with
  | nil => exact .nil
  | cons => cases hl
 | cons a s ih =>
  cases t with
  | nil => cases hl
  | cons b t =>
   refine .cons (h 0 (by simp)) (ih (by simpa using hl) (fun i hi => ?_))
   have := h (i + 1) (by simpa using hi)
   simpa using this
theorem All2.at_ {s t : List Nat} (h : All2 S s t) : s.length = t.length ∧ ∀ i, i < s.length → S (s.getD i 0) (t.getD i 0) := by
 induction h with
 | nil => exact ⟨rfl, fun i hi => by cases hi⟩
 | cons e _ ih =>
  refine ⟨by simp [ih.1], fun i hi => ?_⟩
  cases i with
  | zero => simpa using e
  | succ i => simpa using ih.2 i (by simpa using hi)
end
structure Iso (g h : Tre.Graph) (S : Nat → Nat → Prop) : Prop where
 root : S g.root.toNat h.root.toNat
 lt : ∀ a b, S a b → a < g.ns.length ∧ b < h.ns.length
 kind : ∀ a b, S a b → (g.nd a).kind = (h.nd b).kind
 name : ∀ a b, S a b → (g.nd a).name = (h.nd b).name
 labels : ∀ a b, S a b → (g.nd a).labels = (h.nd b).labels
 open_ : ∀ a b, S a b → (g.nd a).isOpen = (h.nd b).isOpen
 kids : ∀ a b, S a b → All2 S (g.kids a) (h.kids b)
 left : ∀ a b b', S a b → S a b' → b = b'
 right : ∀ a a' b, S a b → S a' b → a = a'
section
variable {g h : Tre.Graph} {S : Nat → Nat → Prop}
theorem Iso.dfs (i : Iso g h S) : ∀ (k : Nat) (s out s' out' : List Nat), g.budget out + s.length ≤ k → All2 S s s' → All2 S out out' → All2 S (g.dfs s out) (h.dfs s' out') := by
 intro k
 induction k with
 | zero =>
  intro s out s' out' hk hs ho
  have : s = [] := List.length_eq_zero_iff.1 (by omega)
  subst this
  cases hs
  rw [Graph.dfs_nil, Graph.dfs_nil]; exact ho
 | succ k ih =>
  intro s out s' out' hk hs ho
  cases hs with
  | nil => rw [Graph.dfs_nil, Graph.dfs_nil]; exact ho
  | @cons a b s t e hs =>
   by_cases hm : a ∈ out
   ·rw [Graph.dfs_skip hm, Graph.dfs_skip (ho.mem i.left e hm)]
    exact ih _ _ _ _ (by simp at hk; omega) hs ho
   ·have hm' : b ∉ out' := fun hb => hm (ho.swap.mem (fun b a a' h1 h2 => i.right _ _ _ h1 h2) e hb)
    have hl := i.lt a b e
    have hb := Graph.budget_step hl.1 hm
    rw [Graph.dfs_take hm hl.1, Graph.dfs_take hm' hl.2]
    exact ih _ _ _ _ (by simp only [List.length_append, List.length_cons, g.kids_len] at hk ⊢; omega) ((i.kids a b e).append hs) (ho.append (.cons e .nil))
theorem Iso.reach (i : Iso g h S) (c0 : g.checkC = 0) (c1 : h.checkC = 0) : All2 S g.reachL h.reachL := by
 unfold Graph.reachL
 rw [if_pos c0, if_pos c1]
 exact i.dfs _ _ _ _ _ (Nat.le_refl _) (.cons i.root .nil) .nil
theorem Iso.trim (i : Iso g h S) (c0 : g.checkC = 0) (c1 : h.checkC = 0) : g.trim = h.trim := by
 have hr := i.reach c0 c1
 show (⟨g.reachL.map _, 0⟩ : Tre.Graph) = ⟨h.reachL.map _, 0⟩
 rw [hr.maps (f := fun i => trimNode g.reachL (g.nd i)) (f' := fun i => trimNode h.reachL (h.nd i)) (fun a b ha e => ?_)]
 have h1 := i.kind a b e
 have h2 := i.name a b e
 have h3 := i.labels a b e
 have h4 := i.open_ a b e
 have h5 : (g.nd a).args.map (placeOf g.reachL) = (h.nd b).args.map (placeOf h.reachL) := by
  have := (i.kids a b e).maps (f := fun x => ((g.reachL.idxOf x : Nat) : Int)) (f' := fun x => ((h.reachL.idxOf x : Nat) : Int)) (fun x y _ exy => by rw [hr.idx i.left i.right exy])
  unfold Graph.kids at this
  rw [List.map_map, List.map_map] at this
  exact this
 show trimNode g.reachL (g.nd a) = trimNode h.reachL (h.nd b)
 unfold trimNode
 rw [h5]
 cases hx : g.nd a
 cases hy : h.nd b
 rw [hx, hy] at h1 h2 h3 h4
 simp only at h1 h2 h3 h4
 subst h1 h2 h3 h4
 rfl
end
structure Bis (g h : Tre.Graph) (R : Nat → Nat → Prop) : Prop where
 lt : ∀ a b, R a b → a < g.ns.length ∧ b < h.ns.length
 alike : ∀ a b, R a b → alikeB (g.nd a) (h.nd b) = true
 kids : ∀ a b, R a b → All2 R (g.kids a) (h.kids b)
 one : ∀ a b a' b', R a b → R a' b' → freeB (g.nd a) = true → (a = a' ↔ b = b')
section
variable {g h : Tre.Graph} {R : Nat → Nat → Prop}
theorem alike_parts {x y : Tre.Node} (h : alikeB x y = true) : x.kind = y.kind ∧ x.name = y.name ∧ x.labels = y.labels ∧ x.isOpen = y.isOpen := by
 unfold alikeB at h
 simp only [Bool.and_eq_true, decide_eq_true_eq] at h
 exact ⟨h.1.1.1.1, h.1.1.1.2, h.2, h.1.1.2⟩
theorem Bis.swap (i : Bis g h R) : Bis h g (fun b a => R a b) := by
 refine ⟨fun a b e => (i.lt b a e).symm, fun a b e => alike_symm (i.alike b a e), fun a b e => (i.kids b a e).swap, fun a b a' b' e e' hf => ?_⟩
 rw [← alike_free (i.alike b a e)] at hf
 exact (i.one _ _ _ _ e e' hf).symm
theorem key_mk {cl : Nat → Nat} {i j : Nat} (h1 : cl i = cl j) (h2 : i = j ∨ (freeC (g.nd i) = false ∧ freeC (g.nd j) = false ∧ (g.nd i).kind = (g.nd j).kind ∧ (g.nd i).name = (g.nd j).name ∧ (g.nd i).labels = (g.nd j).labels ∧ (g.nd i).args.map (fun a => cl a.toNat) = (g.nd j).args.map (fun a => cl a.toNat))) :
  g.keyL cl i = g.keyL cl j := by
 rcases h2 with rfl | ⟨f1, f2, e1, e2, e3, e4⟩
 ·rfl
 ·unfold Graph.keyL lookL
  have e5 : (g.nd i).args.map (fun a => decDigits (cl a.toNat)) = (g.nd j).args.map (fun a => decDigits (cl a.toNat)) := by
   have := congrArg (List.map decDigits) e4
   rw [List.map_map, List.map_map] at this
   exact this
  rw [f1, f2, e1, e2, e3, e5, h1]
  rfl
theorem kids_cl (g : Tre.Graph) (cl : Nat → Nat) (a : Nat) : (g.kids a).map cl = (g.nd a).args.map (fun a => cl a.toNat) := by
 unfold Graph.kids; rw [List.map_map]; rfl
theorem All2.map_eq {s t s' t' : List Nat} {cl cl' : Nat → Nat} (hc : ∀ a b a' b', R a b → R a' b' → cl a = cl a' → cl' b = cl' b') (h : All2 R s t) (h' : All2 R s' t') (e : s.map cl = s'.map cl) : t.map cl' = t'.map cl' := by
 induction h generalizing s' t' with
 | nil =>
  cases h' with
  | nil => rfl
  | cons => cases e
 | cons r _ ih =>
  cases h' with
  | nil => cases e
  | cons r' h' =>
   rw [List.map_cons, List.map_cons, List.cons.injEq] at e
   rw [List.map_cons, List.map_cons, hc _ _ _ _ r r' e.1, ih h' e.2]
theorem Bis.step (i : Bis g h R) (og : g.Ok) (oh : h.Ok) {cl cl' : Nat → Nat} (hc : ∀ a b a' b', R a b → R a' b' → cl a = cl a' → cl' b = cl' b') {a b a' b' : Nat} (r : R a b) (r' : R a' b') (e : g.keyL cl a = g.keyL cl a') : h.keyL cl' b = h.keyL cl' b' := by
 have l := i.lt a b r
 have l' := i.lt a' b' r'
 obtain ⟨e1, e2⟩ := key_inj og l.1 l'.1 e
 have p := alike_parts (i.alike a b r)
 have p' := alike_parts (i.alike a' b' r')
 have fr : freeC (h.nd b) = freeC (g.nd a) := by
  rw [(words_of (og.may a l.1)).openOf, (words_of (oh.may b l.2)).openOf, alike_free (i.alike a b r)]
 have fr' : freeC (h.nd b') = freeC (g.nd a') := by
  rw [(words_of (og.may a' l'.1)).openOf, (words_of (oh.may b' l'.2)).openOf, alike_free (i.alike a' b' r')]
 have key : ∀ _ : freeC (g.nd a) = false ∧ freeC (g.nd a') = false ∧ (g.nd a).kind = (g.nd a').kind ∧ (g.nd a).name = (g.nd a').name ∧ (g.nd a).labels = (g.nd a').labels ∧ (g.nd a).args.map (fun x => cl x.toNat) = (g.nd a').args.map (fun x => cl x.toNat), h.keyL cl' b = h.keyL cl' b' := by
  rintro ⟨f1, f2, k1, k2, k3, k4⟩
  refine key_mk (hc _ _ _ _ r r' e1) (.inr ⟨by rw [fr, f1], by rw [fr', f2], by rw [← p.1, k1, p'.1], by rw [← p.2.1, k2, p'.2.1], by rw [← p.2.2.1, k3, p'.2.2.1], ?_⟩)
  rw [← kids_cl, ← kids_cl] at k4 ⊢
  exact All2.map_eq hc (i.kids a b r) (i.kids a' b' r') k4
 rcases e2 with rfl | e2
 ·cases hf : freeC (g.nd a) with
  | true =>
   have : b = b' := (i.one _ _ _ _ r r' (by rw [← (words_of (og.may a l.1)).openOf, hf])).1 rfl
   rw [this]
  | false => exact key ⟨hf, hf, rfl, rfl, rfl, rfl⟩
 ·exact key e2
theorem Bis.iter (i : Bis g h R) (og : g.Ok) (oh : h.Ok) (m : Nat) : ∀ a b a' b', R a b → R a' b' → ((g.iterL m).getD a 0 = (g.iterL m).getD a' 0 ↔ (h.iterL m).getD b 0 = (h.iterL m).getD b' 0) := by
 induction m with
 | zero =>
  intro a b a' b' r r'
  have l := i.lt a b r
  have l' := i.lt a' b' r'
  show (List.replicate _ 0).getD a 0 = (List.replicate _ 0).getD a' 0 ↔ (List.replicate _ 0).getD b 0 = (List.replicate _ 0).getD b' 0
  simp [List.getD_eq_getElem?_getD, l.1, l.2, l'.1, l'.2]
 | succ m ih =>
  intro a b a' b' r r'
  have l := i.lt a b r
  have l' := i.lt a' b' r'
  show (g.refineL _).getD a 0 = (g.refineL _).getD a' 0 ↔ (h.refineL _).getD b 0 = (h.refineL _).getD b' 0
  rw [refineL_at _ l.1, refineL_at _ l'.1, refineL_at _ l.2, refineL_at _ l'.2, refine_iff, refine_iff]
  exact ⟨i.step og oh (fun a b a' b' r r' e => (ih a b a' b' r r').1 e) r r', i.swap.step oh og (fun b a b' a' r r' e => (ih a b a' b' r r').2 e) r r'⟩
theorem iter_all (g : Tre.Graph) (m : Nat) : g.iterL (g.ns.length * g.ns.length + m) = g.classesL := iter_stop (g := g) (k := g.ns.length * g.ns.length) classes_stable m
theorem Bis.cls (i : Bis g h R) (og : g.Ok) (oh : h.Ok) {a b a' b' : Nat} (r : R a b) (r' : R a' b') : g.cls a = g.cls a' ↔ h.cls b = h.cls b' := by
 have := i.iter og oh (g.ns.length * g.ns.length + h.ns.length * h.ns.length) a b a' b' r r'
 rw [iter_all, Nat.add_comm, iter_all] at this
 exact this
theorem quot_kids (og : g.Ok) {a : Nat} (ha : a < g.ns.length) : g.quotG.kids (g.cls a) = (g.kids a).map g.cls := by
 unfold Graph.kids
 rw [quot_nd (cls_lt og ha), cls_kids, (cls_look og ha).2.2.2.2, List.map_map]
 rfl
theorem quot_look (og : g.Ok) {a : Nat} (ha : a < g.ns.length) : (g.quotG.nd (g.cls a)).kind = (g.nd a).kind ∧ (g.quotG.nd (g.cls a)).name = (g.nd a).name ∧ (g.quotG.nd (g.cls a)).labels = (g.nd a).labels ∧ (g.quotG.nd (g.cls a)).isOpen = (g.nd a).isOpen := by
 rw [quot_nd (cls_lt og ha)]
 have L := cls_look og ha
 exact ⟨L.1, L.2.1, L.2.2.1, L.2.2.2.1⟩
theorem All2.mapBoth {s t : List Nat} {f f' : Nat → Nat} (h : All2 R s t) : All2 (fun c d => ∃ a b, R a b ∧ c = f a ∧ d = f' b) (s.map f) (t.map f') := by
 induction h with
 | nil => exact .nil
 | cons e _ ih => exact .cons ⟨_, _, e, rfl, rfl⟩ ih
theorem Bis.iso (i : Bis g h R) (c0 : g.checkC = 0) (c1 : h.checkC = 0) (hr : R g.root.toNat h.root.toNat) : Iso g.quotG h.quotG (fun c d => ∃ a b, R a b ∧ c = g.cls a ∧ d = h.cls b) := by
 have og := Graph.ok_of c0
 have oh := Graph.ok_of c1
 refine ⟨⟨_, _, hr, ?_, ?_⟩, ?_, ?_, ?_, ?_, ?_, ?_, ?_, ?_⟩
 ·show ((g.cls g.root.toNat : Nat) : Int).toNat = _; simp
 ·show ((h.cls h.root.toNat : Nat) : Int).toNat = _; simp
 ·rintro _ _ ⟨a, b, r, rfl, rfl⟩
  have l := i.lt a b r
  rw [quot_len, quot_len]
  exact ⟨cls_lt og l.1, cls_lt oh l.2⟩
 ·rintro _ _ ⟨a, b, r, rfl, rfl⟩
  have l := i.lt a b r
  rw [(quot_look og l.1).1, (quot_look oh l.2).1, (alike_parts (i.alike a b r)).1]
 ·rintro _ _ ⟨a, b, r, rfl, rfl⟩
  have l := i.lt a b r
  rw [(quot_look og l.1).2.1, (quot_look oh l.2).2.1, (alike_parts (i.alike a b r)).2.1]
 ·rintro _ _ ⟨a, b, r, rfl, rfl⟩
  have l := i.lt a b r
  rw [(quot_look og l.1).2.2.1, (quot_look oh l.2).2.2.1, (alike_parts (i.alike a b r)).2.2.1]
 ·rintro _ _ ⟨a, b, r, rfl, rfl⟩
  have l := i.lt a b r
  rw [(quot_look og l.1).2.2.2, (quot_look oh l.2).2.2.2, (alike_parts (i.alike a b r)).2.2.2]
 ·rintro _ _ ⟨a, b, r, rfl, rfl⟩
  have l := i.lt a b r
  rw [quot_kids og l.1, quot_kids oh l.2]
  exact (i.kids a b r).mapBoth
 ·rintro _ _ _ ⟨a, b, r, rfl, rfl⟩ ⟨a', b', r', e, rfl⟩
  exact (i.cls og oh r r').1 e
 ·rintro _ _ _ ⟨a, b, r, rfl, rfl⟩ ⟨a', b', r', rfl, e⟩
  exact (i.cls og oh r r').2 e
theorem SameG.bis (s : SameG g h) : Bis g h (RP g h) := by
 have og := Graph.ok_of s.okg
 have oh := Graph.ok_of s.okh
 refine ⟨fun a b r => r.lt og oh, s.alike, fun a b r => ?_, s.one⟩
 have hd := alike_deg (s.alike a b r)
 refine all2_of (by rw [g.kids_len, h.kids_len]; exact hd) (fun i hi => ?_)
 rw [← kid_kids, ← kid_kids]
 rw [g.kids_len] at hi
 exact r.kid hi (by unfold Graph.deg at hi ⊢; rw [← hd]; exact hi)
theorem same_least (s : SameG g h) : g.leastG = h.leastG := (s.bis.iso s.okg s.okh .root).trim (quot_ok s.okg) (quot_ok s.okh)
theorem least_iff (c0 : g.checkC = 0) (c1 : h.checkC = 0) : SameG g h ↔ g.leastG = h.leastG :=
 ⟨same_least, fun e => (least_same c0).trans (by rw [e]; exact (least_same c1).symm)⟩
theorem least_least (c0 : g.checkC = 0) : g.leastG.leastG = g.leastG := (same_least (least_same c0)).symm

/-! how many -/
theorem cls_cls (og : g.Ok) {a : Nat} (ha : a < g.ns.length) : g.cls (g.cls a) = g.cls a := (cls_iff (cls_lt og ha) ha).2 (cls_key ha)
theorem mem_quot (c0 : g.checkC = 0) {c : Nat} : c ∈ g.quotG.reachL ↔ ∃ a, Rch g g.root.toNat a ∧ g.cls a = c := by
 have og := Graph.ok_of c0
 rw [Graph.mem_reach (quot_ok c0)]
 constructor
 ·intro hc
  induction hc with
  | refl => exact ⟨_, .refl, by show _ = ((_ : Nat) : Int).toNat; simp⟩
  | step _ hc ih =>
   obtain ⟨a, ha, rfl⟩ := ih
   rw [quot_kids og (ha.lt og og.root1)] at hc
   obtain ⟨b, hb, rfl⟩ := List.mem_map.1 hc
   exact ⟨b, ha.step hb, rfl⟩
 ·rintro ⟨a, ha, rfl⟩
  exact (quot_hom c0).reach ha
theorem least_len (g : Tre.Graph) : g.leastG.ns.length = g.quotG.reachL.length := trim_len _
theorem least_le (c0 : g.checkC = 0) : g.leastG.ns.length ≤ g.reachL.length := by
 rw [least_len, show g.reachL.length = (g.reachL.map g.cls).length from (List.length_map ..).symm]
 refine List.Nodup.length_le_of_subset (Graph.reach_nodup _) (fun c hc => ?_)
 obtain ⟨a, ha, rfl⟩ := (mem_quot c0).1 hc
 exact List.mem_map.2 ⟨a, (Graph.mem_reach c0).2 ha, rfl⟩
theorem cls_own (c0 : g.checkC = 0) (e : g.leastG = g) {a : Nat} (ha : a < g.ns.length) : g.cls a = a := by
 have og := Graph.ok_of c0
 have h1 := least_len g
 rw [e] at h1
 have h2 : g.quotG.reachL.length ≤ ((List.range g.ns.length).filter fun x => decide (g.cls x = x)).length := by
  refine List.Nodup.length_le_of_subset (Graph.reach_nodup _) (fun c hc => ?_)
  obtain ⟨b, hb, rfl⟩ := (mem_quot c0).1 hc
  have hl := hb.lt og og.root1
  exact List.mem_filter.2 ⟨List.mem_range.2 (cls_lt og hl), by rw [decide_eq_true_iff]; exact cls_cls og hl⟩
 have h3 : ((List.range g.ns.length).filter fun x => decide (g.cls x = x)).length = (List.range g.ns.length).length := by
  have := List.length_filter_le (fun x => decide (g.cls x = x)) (List.range g.ns.length)
  rw [List.length_range] at this ⊢
  omega
 have h4 := List.length_filter_eq_length_iff.1 h3 a (List.mem_range.2 ha)
 exact of_decide_eq_true h4
theorem ext_bis (og : g.Ok) (he : ∀ a, a < g.ns.length → h.nd a = g.nd a) (hl : g.ns.length ≤ h.ns.length) : Bis g h (fun a b => a = b ∧ a < g.ns.length) := by
 refine ⟨?_, ?_, ?_, ?_⟩
 ·rintro a _ ⟨rfl, ha⟩; exact ⟨ha, by omega⟩
 ·rintro a _ ⟨rfl, ha⟩; rw [he a ha]; exact alike_refl _
 ·rintro a _ ⟨rfl, ha⟩
  have ek : h.kids a = g.kids a := by unfold Graph.kids; rw [he a ha]
  rw [ek]
  refine all2_of rfl (fun i hi => ⟨rfl, og.kids_lt ha _ ?_⟩)
  rw [List.getD_eq_getElem?_getD, List.getElem?_eq_getElem hi]
  exact List.getElem_mem hi
 ·rintro a _ a' _ ⟨rfl, _⟩ ⟨rfl, _⟩ _; exact Iff.rfl
theorem ext_reach (og : g.Ok) (he : ∀ a, a < g.ns.length → h.nd a = g.nd a) {a : Nat} (ha : Rch g g.root.toNat a) : Rch h g.root.toNat a := by
 induction ha with
 | refl => exact .refl
 | @step b c hb hc ih => exact ih.step (by unfold Graph.kids; rw [he b (hb.lt og og.root1)]; exact hc)
theorem ext_len (c0 : g.checkC = 0) (c1 : h.checkC = 0) (he : ∀ a, a < g.ns.length → h.nd a = g.nd a) (hl : g.ns.length ≤ h.ns.length) (hr : Rch h h.root.toNat g.root.toNat) (E : List Nat) (hE : ∀ a, Rch h h.root.toNat a → a ∈ E ∨ Rch g g.root.toNat a) :
  g.leastG.ns.length ≤ h.leastG.ns.length ∧ h.leastG.ns.length ≤ g.leastG.ns.length + E.length := by
 have og := Graph.ok_of c0
 have oh := Graph.ok_of c1
 have B := ext_bis og he hl
 have hF : ∀ a, a < g.ns.length → h.cls (g.cls a) = h.cls a := fun a ha => (B.cls og oh ⟨rfl, cls_lt og ha⟩ ⟨rfl, ha⟩).1 (cls_cls og ha)
 rw [least_len, least_len]
 constructor
 ·rw [show g.quotG.reachL.length = (g.quotG.reachL.map h.cls).length from (List.length_map ..).symm]
  refine List.Nodup.length_le_of_subset ?_ (fun c hc => ?_)
  ·rw [List.Nodup, List.pairwise_map]
   refine List.Pairwise.imp_of_mem ?_ (Graph.reach_nodup g.quotG)
   intro c d hc hd hne e
   obtain ⟨a, ha, rfl⟩ := (mem_quot c0).1 hc
   obtain ⟨b, hb, rfl⟩ := (mem_quot c0).1 hd
   have la := ha.lt og og.root1
   have lb := hb.lt og og.root1
   rw [hF a la, hF b lb] at e
   exact hne ((B.cls og oh ⟨rfl, la⟩ ⟨rfl, lb⟩).2 e)
  ·obtain ⟨c', hc', rfl⟩ := List.mem_map.1 hc
   obtain ⟨a, ha, rfl⟩ := (mem_quot c0).1 hc'
   exact (mem_quot c1).2 ⟨a, hr.trans (ext_reach og he ha), (hF a (ha.lt og og.root1)).symm⟩
 ·have : g.quotG.reachL.length + E.length = (g.quotG.reachL.map h.cls ++ E.map h.cls).length := by simp
  rw [this]
  refine List.Nodup.length_le_of_subset (Graph.reach_nodup _) (fun c hc => ?_)
  obtain ⟨a, ha, rfl⟩ := (mem_quot c1).1 hc
  rcases hE a ha with h1 | h1
  ·exact List.mem_append.2 (.inr (List.mem_map.2 ⟨a, h1, rfl⟩))
  ·exact List.mem_append.2 (.inl (List.mem_map.2 ⟨g.cls a, (mem_quot c0).2 ⟨a, h1, rfl⟩, hF a (h1.lt og og.root1)⟩))
end
end Go.Tre
