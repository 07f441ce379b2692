/- What a call holds in memory: resources, each of its own blocks, no two of them with a block in common. Types in the memory: a value of five cells, its parts and labels in blocks of a set O; parts apart from each other. Steps through a drawn region, by hand: the slot that an operation writes is typed. -/
import Derived.Test.YtbafalfmgibnfaaGreatDoorB00
import Derived.WalkSmall
import Derived.RangeFuncBox
import Derived.RangeFuncOwn
import Derived.Deep.RegionHeld3
set_option linter.unusedVariables false
namespace Go.Tre
open Go.RowKit Go.Maps

structure Res where
 own : Nat → Prop
 P : World → Prop
 stable : ∀ w w' : World, P w → (∀ b, own b → w'.heap[b]? = w.heap[b]?) → P w'
 has : ∀ w : World, P w → ∀ b, own b → b < w.heap.size

structure Mem (w0 w : World) (rs : List Res) : Prop where
 below : Below w0.heap.size w0 w
 all : ∀ r ∈ rs, r.P w ∧ ∀ b, r.own b → w0.heap.size ≤ b
 sep : rs.Pairwise fun r s => ∀ b, r.own b → ¬ s.own b

section
variable {w0 w w' : World} {rs : List Res} {r r' : Res}

theorem Mem.size (h : Mem w0 w rs) : w0.heap.size ≤ w.heap.size := h.below.size
theorem Mem.nil (w : World) : Mem w w [] := ⟨Below.refl _ _, by simp, by simp⟩
theorem Mem.of_below (h : Below w0.heap.size w0 w) : Mem w0 w [] := ⟨h, by simp, by simp⟩
theorem Mem.perm {ss : List Res} (h : Mem w0 w rs) (p : rs.Perm ss) : Mem w0 w ss :=
 ⟨h.below, fun r hr => h.all r (p.mem_iff.2 hr), (p.pairwise_iff (fun hxy b hb hx => hxy b hx hb)).1 h.sep⟩
theorem Mem.drop1 (h : Mem w0 w (r :: rs)) : Mem w0 w rs := ⟨h.below, fun s hs => h.all s (by simp [hs]), (List.pairwise_cons.1 h.sep).2⟩
theorem Mem.none_ (h : Mem w0 w rs) : Mem w0 w [] := ⟨h.below, by simp, by simp⟩
theorem Mem.sub {ss : List Res} (h : Mem w0 w rs) (s : ss.Sublist rs) : Mem w0 w ss := ⟨h.below, fun r hr => h.all r (s.subset hr), h.sep.sublist s⟩

theorem Mem.at_ (h : Mem w0 w rs) (i : Nat) (hi : rs[i]? = some r) : r.P w := (h.all r (List.mem_of_getElem? hi)).1
theorem Mem.lo (h : Mem w0 w rs) (i : Nat) (hi : rs[i]? = some r) : ∀ b, r.own b → w0.heap.size ≤ b := (h.all r (List.mem_of_getElem? hi)).2

theorem Mem.keep (h : Mem w0 w rs) (hg : w.grownBy w' none) : Mem w0 w' rs :=
 ⟨h.below.grown hg h.below.size (fun k e => by cases e), fun r hr => ⟨r.stable _ _ (h.all r hr).1 (fun b hb => hg.block b (r.has _ (h.all r hr).1 b hb) (by simp)), (h.all r hr).2⟩, h.sep⟩
theorem Mem.alloc (h : Mem w0 w rs) (o : Obj) : Mem w0 (w.alloc o) rs := h.keep (World.grownBy_alloc w o none)
theorem Mem.drew (h : Mem w0 w rs) : Mem w0 w.drew rs := h.keep ⟨rfl, rfl, rfl, Nat.le_refl _, fun _ _ _ => rfl⟩
theorem grown_below {w w' : World} (h : Below w.heap.size w w') : w.grownBy w' none := ⟨h.os, h.tape, h.output, h.size, fun k hk _ => h.block k hk⟩
theorem Mem.quiet (h : Mem w0 w rs) (k : Below w.heap.size w w') : Mem w0 w' rs := h.keep (grown_below k)
theorem Mem.call {ss : List Res} (h : Mem w0 w rs) (k : Mem w w' ss) : Mem w0 w' (ss ++ rs) := by
 have h' := h.quiet k.below
 refine ⟨h'.below, fun r hr => ?_, List.pairwise_append.2 ⟨k.sep, h.sep, fun a ha b hb c hc hcb => ?_⟩⟩
 ·rcases List.mem_append.1 hr with hr | hr
  ·exact ⟨(k.all r hr).1, fun b hb => Nat.le_trans h.size ((k.all r hr).2 b hb)⟩
  ·exact h'.all r hr
 ·have h1 := (k.all a ha).2 c hc
  have h2 := b.has _ (h.all b hb).1 c hcb
  omega
theorem Mem.add (h : Mem w0 w rs) (hg : w.grownBy w' none) (r : Res) (hP : r.P w') (hb : ∀ b, r.own b → w.heap.size ≤ b) : Mem w0 w' (r :: rs) := by
 have h' := h.keep hg
 refine ⟨h'.below, fun s hs => ?_, List.pairwise_cons.2 ⟨fun s hs b hb' hs' => ?_, h.sep⟩⟩
 ·rcases List.mem_cons.1 hs with rfl | hs
  ·exact ⟨hP, fun b hb' => Nat.le_trans h.size (hb b hb')⟩
  ·exact h'.all s hs
 ·have h1 := hb b hb'
  have h2 := s.has _ (h.all s hs).1 b hs'
  omega
theorem Mem.hd (h : Mem w0 w (r :: rs)) : r.P w := (h.all r (by simp)).1
theorem Mem.upd (h : Mem w0 w (r :: rs)) (hs : w.heap.size ≤ w'.heap.size) (ho : w'.os = w.os ∧ w'.tape = w.tape ∧ w'.output = w.output) (hg : ∀ k, k < w.heap.size → ¬ r.own k → w'.heap[k]? = w.heap[k]?) (r' : Res) (hP : r'.P w') (hb : ∀ b, r'.own b → r.own b ∨ w.heap.size ≤ b) : Mem w0 w' (r' :: rs) := by
 have hr := h.all r (by simp)
 have hsep := List.pairwise_cons.1 h.sep
 have hall : ∀ s ∈ rs, s.P w ∧ ∀ b, s.own b → w0.heap.size ≤ b := fun s hs => h.all s (by simp [hs])
 refine ⟨h.below.trans ⟨ho.1, ho.2.1, ho.2.2, hs, fun k hk => hg k (Nat.lt_of_lt_of_le hk h.size) (fun e => by have := hr.2 k e; omega)⟩, fun s hs => ?_, List.pairwise_cons.2 ⟨fun s hs b hb' hs' => ?_, hsep.2⟩⟩
 ·rcases List.mem_cons.1 hs with rfl | hs
  ·refine ⟨hP, fun b hb' => ?_⟩
   rcases hb b hb' with e | e
   ·exact hr.2 b e
   ·exact Nat.le_trans h.size e
  ·exact ⟨s.stable _ _ (hall s hs).1 (fun b hb' => hg b (s.has _ (hall s hs).1 b hb') (fun e => hsep.1 s hs b e hb')), (hall s hs).2⟩
 ·rcases hb b hb' with e | e
  ·exact hsep.1 s hs b e hs'
  ·have := s.has _ (hall s hs).1 b hs'
   omega

theorem perm_set (i : Nat) : ∀ {rs : List Res} {r : Res}, rs[i]? = some r → ∀ r' : Res, ∃ l : List Res, rs.Perm (r :: l) ∧ (r' :: l).Perm (rs.set i r') := by
 induction i with
 | zero =>
  intro rs r hi r'
  cases rs with
  | nil => cases hi
  | cons a l => simp at hi; subst hi; exact ⟨l, List.Perm.refl _, List.Perm.refl _⟩
 | succ i ih =>
  intro rs r hi r'
  cases rs with
  | nil => cases hi
  | cons a l =>
   simp at hi
   obtain ⟨l', h1, h2⟩ := ih hi r'
   exact ⟨a :: l', (List.Perm.cons a h1).trans (List.Perm.swap r a l'), (List.Perm.swap a r' l').trans (List.Perm.cons a h2)⟩
theorem Mem.set (h : Mem w0 w rs) (i : Nat) (hi : rs[i]? = some r) (hs : w.heap.size ≤ w'.heap.size) (ho : w'.os = w.os ∧ w'.tape = w.tape ∧ w'.output = w.output) (hg : ∀ k, k < w.heap.size → ¬ r.own k → w'.heap[k]? = w.heap[k]?) (r' : Res) (hP : r'.P w')
  (hb : ∀ b, r'.own b → r.own b ∨ w.heap.size ≤ b) : Mem w0 w' (rs.set i r') := by
 obtain ⟨l, h1, h2⟩ := perm_set i hi r'
 exact ((h.perm h1).upd hs ho hg r' hP hb).perm h2
theorem Mem.set_row {row : Option Nat} (h : Mem w0 w rs) (i : Nat) (hi : rs[i]? = some r) (hg : w.grownBy w' row) (hr : ∀ k, row = some k → r.own k) (r' : Res) (hP : r'.P w') (hb : ∀ b, r'.own b → r.own b ∨ w.heap.size ≤ b) : Mem w0 w' (rs.set i r') :=
 h.set i hi hg.size ⟨hg.os, hg.tape, hg.output⟩ (fun k hk hn => hg.block k hk (fun e => hn (hr k e.symm))) r' hP hb

/-! the resources -/
def rowR (e : TypeId) (size : Nat) (v : Value) (n : Nat) (xs : List Value) : Res where
 own b := v.ownBlock = some b
 P w := w.ownsRow 0 e size v n xs
 stable w w' h hs := by
  refine ⟨h.1, ?_⟩
  rcases h.2 with hn | ⟨g, cap, cur, rfl, hb, hgg, rest⟩
  ·exact .inl hn
  ·exact .inr ⟨g, cap, cur, rfl, hb, (hs g rfl).trans hgg, rest⟩
 has w h b hb := (h.lt b hb).2
def cellsR (b : Nat) (t : TypeId) (cs : Array Value) : Res where
 own b' := b' = b
 P w := w.heap[b]? = some (.cells cs t (0, 0))
 stable w w' h hs := (hs b rfl).trans h
 has w h b' hb := by subst hb; exact (Array.getElem?_eq_some_iff.1 h).1
abbrev boxR (b : Nat) (t : TypeId) (v : Value) : Res := cellsR b t #[v]
def mapR {α β : Type} (P : Program) (k : TypeId) (ek : α → Value) (ev : β → Value) (b n : Nat) (m : α → Option β) : Res where
 own b' := b' = b
 P w := MapIs P k ek ev w b n m
 stable w w' h hs := h.block (hs b rfl)
 has w h b' hb := by subst hb; exact h.lt
def Res.join (r s : Res) : Res where
 own b := r.own b ∨ s.own b
 P w := r.P w ∧ s.P w
 stable _ _ h hs := ⟨r.stable _ _ h.1 (fun b hb => hs b (.inl hb)), s.stable _ _ h.2 (fun b hb => hs b (.inr hb))⟩
 has w h b hb := hb.elim (r.has w h.1 b) (s.has w h.2 b)
def emptyR : Res where
 own _ := False
 P _ := True
 stable _ _ _ _ := trivial
 has _ _ _ h := h.elim
theorem Mem.join (h : Mem w0 w (r :: r' :: rs)) : Mem w0 w (r.join r' :: rs) := by
 have h1 := List.pairwise_cons.1 h.sep
 have h2 := List.pairwise_cons.1 h1.2
 refine ⟨h.below, fun s hs => ?_, List.pairwise_cons.2 ⟨fun s hs b hb hs' => ?_, h2.2⟩⟩
 ·rcases List.mem_cons.1 hs with rfl | hs
  ·have a := h.all r (by simp)
   have c := h.all r' (by simp)
   exact ⟨⟨a.1, c.1⟩, fun b hb => hb.elim (a.2 b) (c.2 b)⟩
  ·exact h.all s (by simp [hs])
 ·rcases hb with hb | hb
  ·exact h1.1 s (by simp [hs]) b hb hs'
  ·exact h2.1 s hs b hb hs'
theorem Mem.as_ (h : Mem w0 w rs) (i : Nat) (hi : rs[i]? = some r) (r' : Res) (hP : r.P w → r'.P w) (hb : ∀ b, r'.own b → r.own b) : Mem w0 w (rs.set i r') :=
 h.set i hi (Nat.le_refl _) ⟨rfl, rfl, rfl⟩ (fun _ _ _ => rfl) r' (hP (h.at_ i hi)) (fun b hb' => .inl (hb b hb'))

def manyR (l : List Res) : Res where
 own b := ∃ r ∈ l, r.own b
 P w := ∀ r ∈ l, r.P w
 stable w w' h hs := fun r hr => r.stable _ _ (h r hr) (fun b hb => hs b ⟨r, hr, hb⟩)
 has w h b hb := by obtain ⟨r, hr, hb⟩ := hb; exact r.has w (h r hr) b hb
theorem Mem.into {l : List Res} (h : Mem w0 w (r :: manyR l :: rs)) : Mem w0 w (manyR (l ++ [r]) :: rs) := by
 have hj := h.join
 have hr := hj.all _ (List.mem_cons_self ..)
 exact hj.as_ 0 rfl (manyR (l ++ [r])) (fun hp s hs => by
  rcases List.mem_append.1 hs with hs | hs
  ·exact hp.2 s hs
  ·simp at hs; subst hs; exact hp.1) (fun b hb => by
  obtain ⟨s, hs, hb⟩ := hb
  rcases List.mem_append.1 hs with hs | hs
  ·exact .inr ⟨s, hs, hb⟩
  ·simp at hs; subst hs; exact .inl hb)
theorem perm_front : ∀ (i : Nat) {l : List Res} {r : Res}, l[i]? = some r → l.Perm (r :: l.eraseIdx i)
 | 0, [], _, h => by cases h
 | 0, a :: l, r, h => by simp at h; subst h; exact List.Perm.refl _
 | i + 1, [], _, h => by cases h
 | i + 1, a :: l, r, h => by
  simp at h
  exact (List.Perm.cons a (perm_front i h)).trans (List.Perm.swap r a _)
theorem Mem.front (h : Mem w0 w rs) (i : Nat) (hi : rs[i]? = some r) : Mem w0 w (r :: rs.eraseIdx i) :=
 h.perm (perm_front i hi)
theorem Mem.del (h : Mem w0 w rs) (i : Nat) : Mem w0 w (rs.eraseIdx i) := h.sub (List.eraseIdx_sublist ..)
/-! steps -/
theorem Mem.allocR (h : Mem w0 w rs) (cs : Array Value) (t : TypeId) : Mem w0 (w.alloc (.cells cs t)) (cellsR w.heap.size t cs :: rs) :=
 h.add (World.grownBy_alloc w _ none) (cellsR w.heap.size t cs) (heap_alloc_new w _) (fun _ hb => Nat.le_of_eq hb.symm)
theorem Mem.allocRow (h : Mem w0 w rs) (cs : Array Value) (e : TypeId) (size n : Nat) (hm : n ≤ maxLen) (hs : cs.size = n * size) : Mem w0 (w.alloc (.cells cs e)) (rowR e size (.slice (some ⟨w.heap.size, 0, none⟩) n n) n cs.toList :: rs) :=
 h.add (World.grownBy_alloc w _ none) (rowR e size _ n cs.toList) (World.ownsRow_lit w cs n (Nat.zero_le _) hm hs) (fun b hb => by have : some w.heap.size = some b := hb; cases this; exact Nat.le_refl _)
theorem Mem.allocMap {α β : Type} (h : Mem w0 w rs) (P : Program) (k : TypeId) (ek : α → Value) (ev : β → Value) : Mem w0 (w.alloc (.map #[] 0)) (mapR P k ek ev w.heap.size 0 (fun _ => none) :: rs) :=
 h.add (World.grownBy_alloc w _ none) (mapR P k ek ev _ _ _) (MapIs.made w P k ek ev) (fun _ hb => Nat.le_of_eq hb.symm)
theorem Mem.addNil (h : Mem w0 w rs) (e : TypeId) (size : Nat) : Mem w0 w (rowR e size (.slice none 0 0) 0 [] :: rs) :=
 h.add ⟨rfl, rfl, rfl, Nat.le_refl _, fun _ _ _ => rfl⟩ (rowR e size _ _ _) (World.ownsRow_nil w _ e size) (fun b hb => by cases hb)
theorem heap_set_at (w : World) (b i : Nat) (t : TypeId) (cs : Array Value) (u : Value) (h : w.heap[b]? = some (.cells cs t (0, 0))) : (w.setCell ⟨b, i, none⟩ u).heap[b]? = some (.cells (cs.setIfInBounds i u) t (0, 0)) := by
 simp [World.setCell, Array.getElem?_modify, h]
theorem grown_set (w : World) (b i : Nat) (u : Value) : w.grownBy (w.setCell ⟨b, i, none⟩ u) (some b) :=
 ⟨rfl, rfl, rfl, by simp [World.setCell], fun k _ hk => Below.heap_setCell w ⟨b, i, none⟩ u k (fun e => hk (by rw [e]))⟩
theorem Mem.setCell {b : Nat} {t : TypeId} {cs : Array Value} (h : Mem w0 w rs) (i : Nat) (hi : rs[i]? = some (cellsR b t cs)) (j : Nat) (u : Value) : Mem w0 (w.setCell ⟨b, j, none⟩ u) (rs.set i (cellsR b t (cs.setIfInBounds j u))) :=
 h.set_row i hi (grown_set w b j u) (fun k e => by cases e; rfl) _ (heap_set_at w b j t cs u (h.at_ i hi)) (fun b' hb => .inl hb)
theorem Mem.setRow {e : TypeId} {size n g cap : Nat} {xs : List Value} (h : Mem w0 w rs) (i : Nat) (hi : rs[i]? = some (rowR e size (.slice (some ⟨g, 0, none⟩) n cap) n xs)) (j : Nat) (u : Value) : Mem w0 (w.setCell ⟨g, j, none⟩ u) (rs.set i (rowR e size (.slice (some ⟨g, 0, none⟩) n cap) n (xs.set j u))) :=
 h.set_row i hi (grown_set w g j u) (fun k e => by cases e; rfl) _ ((h.at_ i hi : World.ownsRow _ _ _ _ _ _ _).stored j u).1 (fun b' hb => .inl hb)
theorem Mem.grow {e : TypeId} {size n n' : Nat} {v v' : Value} {xs xs' : List Value} (h : Mem w0 w rs) (i : Nat) (hi : rs[i]? = some (rowR e size v n xs)) (hg : w.grownBy w' v.ownBlock) (hown : w'.ownsRow 0 e size v' n' xs') (hat : v'.ownBlock = v.ownBlock ∨ v'.ownBlock = some w.heap.size) :
  Mem w0 w' (rs.set i (rowR e size v' n' xs')) :=
 h.set_row i hi hg (fun k e => e) _ hown (fun b hb => by
  have hb' : v'.ownBlock = some b := hb
  rcases hat with e | e
  ·exact .inl (e.symm.trans hb')
  ·rw [e] at hb'; cases hb'; exact .inr (Nat.le_refl _))
theorem Mem.put {α β : Type} {P : Program} {k : TypeId} {ek : α → Value} {ev : β → Value} {b n n' : Nat} {m m' : α → Option β} (h : Mem w0 w rs) (i : Nat) (hi : rs[i]? = some (mapR P k ek ev b n m)) (hg : w.grownBy w' (some b)) (hm : MapIs P k ek ev w' b n' m') : Mem w0 w' (rs.set i (mapR P k ek ev b n' m')) :=
 h.set_row i hi hg (fun k e => by cases e; rfl) _ hm (fun b' hb => .inl hb)
/-! reading -/
theorem Mem.row {e : TypeId} {size n : Nat} {v : Value} {xs : List Value} (h : Mem w0 w rs) (i : Nat) (hi : rs[i]? = some (rowR e size v n xs)) : w.ownsRow 0 e size v n xs := h.at_ i hi
theorem Mem.heap {b : Nat} {t : TypeId} {cs : Array Value} (h : Mem w0 w rs) (i : Nat) (hi : rs[i]? = some (cellsR b t cs)) : w.heap[b]? = some (.cells cs t (0, 0)) := h.at_ i hi
theorem Mem.map {α β : Type} {P : Program} {k : TypeId} {ek : α → Value} {ev : β → Value} {b n : Nat} {m : α → Option β} (h : Mem w0 w rs) (i : Nat) (hi : rs[i]? = some (mapR P k ek ev b n m)) : MapIs P k ek ev w b n m := h.at_ i hi
theorem Mem.cell {b : Nat} {t : TypeId} {cs : Array Value} (h : Mem w0 w rs) (i : Nat) (hi : rs[i]? = some (cellsR b t cs)) (j : Nat) {u : Value} (hj : cs[j]? = some u) : w.cell? ⟨b, j, none⟩ = some u := by
 simp [World.cell?, h.heap i hi, hj]
theorem Mem.two {b : Nat} {t : TypeId} {x y : Value} (h : Mem w0 w rs) (i : Nat) (hi : rs[i]? = some (cellsR b t #[x, y])) : w.cell? ⟨b, 0, none⟩ = some x ∧ w.cell? ⟨b, 1, none⟩ = some y := by
 have := h.at_ i hi
 exact ⟨by simp [World.cell?, show w.heap[b]? = _ from this], by simp [World.cell?, show w.heap[b]? = _ from this]⟩
theorem Mem.free {b : Nat} {t : TypeId} {cs : Array Value} (h : Mem w0 w rs) (i : Nat) (hi : rs[i]? = some (cellsR b t cs)) (j : Nat) : w.frozen? ⟨b, j, none⟩ = false := by
 simp [World.frozen?, h.heap i hi]
theorem Mem.cellAt {e : TypeId} {size n g cap : Nat} {xs : List Value} (h : Mem w0 w rs) (i : Nat) (hi : rs[i]? = some (rowR e size (.slice (some ⟨g, 0, none⟩) n cap) n xs)) (j : Nat) {u : Value} (hj : xs[j]? = some u) : w.cell? ⟨g, j, none⟩ = some u := by
 have hr := h.row i hi
 have hl := (List.getElem?_eq_some_iff.1 hj).1
 rw [hr.cellAt j (by rw [← hr.1]; exact hl), hj]
theorem Mem.pos {e : TypeId} {size n : Nat} {v : Value} {xs : List Value} (h : Mem w0 w rs) (i : Nat) (hi : rs[i]? = some (rowR e size v (n + 1) xs)) : ∃ g cap, v = .slice (some ⟨g, 0, none⟩) (n + 1) cap ∧ w0.heap.size ≤ g ∧ g < w.heap.size := by
 obtain ⟨g, cap, rfl⟩ := ownsRow_succ (h.row i hi)
 exact ⟨g, cap, rfl, h.lo i hi g rfl, ((h.row i hi).lt g rfl).2⟩
theorem Mem.getRow {e : TypeId} {size n cap : Nat} {a : Option Addr} {xs : List Value} (h : Mem w0 w rs) (i : Nat) (hi : rs[i]? = some (rowR e size (.slice a n cap) n xs)) (j : Nat) {u : Value} (hj : xs[j]? = some u) :
  ∃ g, a = some ⟨g, 0, none⟩ ∧ w0.heap.size ≤ g ∧ g < w.heap.size ∧ w.cell? ⟨g, j, none⟩ = some u := by
 have hr := h.row i hi
 rcases hr.2 with ⟨e1, e2⟩ | ⟨g, cap', cur, e1, _, hg, _⟩
 ·have := hr.1
  rw [e2] at this
  have : xs = [] := List.eq_nil_of_length_eq_zero (by simpa using this)
  subst this
  simp at hj
 ·cases e1
  exact ⟨g, rfl, h.lo i hi g rfl, (Array.getElem?_eq_some_iff.1 hg).1, h.cellAt i hi j hj⟩
theorem Mem.val {e : TypeId} {size n : Nat} {v : Value} {xs : List Value} (h : Mem w0 w rs) (i : Nat) (hi : rs[i]? = some (rowR e size v n xs)) : ∃ a cap, v = .slice a n cap ∧ n ≤ cap := by
 rcases (h.row i hi).2 with ⟨rfl, rfl⟩ | ⟨g, cap, cur, rfl, _, _, hn, _⟩
 ·exact ⟨_, _, rfl, Nat.le_refl _⟩
 ·exact ⟨_, _, rfl, hn⟩
end
end Go.Tre
namespace Go.Tre
open Go.RowKit
inductive TyIn (w : World) : (Nat → Prop) → Ty → Value → Prop
 | mk {O : Nat → Prop} {k : Nat} {s : List UInt8} {args : List Ty} {labels : List (List UInt8)} {o : Bool} {aa : Option Addr} {ca : Nat} {al : Option Addr} {cl : Nat} (V : Nat → Array Value) (OO : Nat → Nat → Prop)
   (hc : args.length ≤ ca) (hl : labels.length ≤ cl)
   (hlab : ∀ (i : Nat) (x : List UInt8), labels[i]? = some x → ∃ b off, al = some ⟨b, off, none⟩ ∧ O b ∧ w.cell? ⟨b, off + i, none⟩ = some (.string ⟨x.toArray⟩))
   (hcell : ∀ i : Nat, i < args.length → ∃ b off, aa = some ⟨b, off, none⟩ ∧ O b ∧ (∃ cs T, w.heap[b]? = some (.cells cs T (0, 0))) ∧ (∀ j, ¬ OO j b) ∧ (V i).size = 5 ∧ ∀ (j : Nat) (u : Value), (V i)[j]? = some u → w.cell? ⟨b, off + i * 5 + j, none⟩ = some u)
   (hsub : ∀ i b, OO i b → O b) (hdis : ∀ i j b, OO i b → OO j b → i = j)
   (hargs : ∀ (i : Nat) (t : Ty), args[i]? = some t → TyIn w (OO i) t (.agg (V i))) :
   TyIn w O (.mk k s args labels o) (.agg #[.int .i64 k, .string ⟨s.toArray⟩, .slice aa args.length ca, .slice al labels.length cl, .bool o])
theorem cell_heap {w w' : World} {b j : Nat} {u : Value} (h : w'.heap[b]? = w.heap[b]?) (hc : w.cell? ⟨b, j, none⟩ = some u) : w'.cell? ⟨b, j, none⟩ = some u := by
 rw [World.cell?_of_block (a := ⟨b, j, none⟩) h]; exact hc
theorem TyIn.keep {O : Nat → Prop} {w w' : World} {t : Ty} {v : Value} (h : TyIn w O t v) (hw : ∀ b, O b → w'.heap[b]? = w.heap[b]?) : TyIn w' O t v := by
 induction h with
 | mk V OO hc hl hlab hcell hsub hdis hargs ih =>
  refine .mk V OO hc hl (fun i x hx => ?_) (fun i hi => ?_) hsub hdis (fun i t ht => ih i t ht (fun b hb => hw b (hsub i b hb)))
  ·obtain ⟨b, off, e, ho, hcc⟩ := hlab i x hx
   exact ⟨b, off, e, ho, cell_heap (hw b ho) hcc⟩
  ·obtain ⟨b, off, e, ho, ⟨cs, T, hp⟩, hn, hs, hcc⟩ := hcell i hi
   exact ⟨b, off, e, ho, ⟨cs, T, (hw b ho).trans hp⟩, hn, hs, fun j u hu => cell_heap (hw b ho) (hcc j u hu)⟩
theorem TyIn.wide {O O' : Nat → Prop} {w : World} {t : Ty} {v : Value} (h : TyIn w O t v) (hO : ∀ b, O b → O' b) : TyIn w O' t v := by
 cases h with
 | mk V OO hc hl hlab hcell hsub hdis hargs =>
  refine .mk V OO hc hl (fun i x hx => ?_) (fun i hi => ?_) (fun i b hb => hO b (hsub i b hb)) hdis hargs
  ·obtain ⟨b, off, e, ho, hcc⟩ := hlab i x hx
   exact ⟨b, off, e, hO b ho, hcc⟩
  ·obtain ⟨b, off, e, ho, hr⟩ := hcell i hi
   exact ⟨b, off, e, hO b ho, hr⟩
theorem TyIn.agg {w : World} {O : Nat → Prop} {t : Ty} {v : Value} (h : TyIn w O t v) : ∃ aa ca al cl, v = .agg #[.int .i64 t.kind, .string ⟨t.s.toArray⟩, .slice aa t.args.length ca, .slice al t.labels.length cl, .bool t.opn] ∧ t.args.length ≤ ca ∧ t.labels.length ≤ cl := by
 cases h with
 | mk V OO hc hl => exact ⟨_, _, _, _, rfl, hc, hl⟩
def tyR (O : Nat → Prop) (t : Ty) (v : Value) : Res where
 own b := O b
 P w := TyIn w O t v ∧ ∀ b, O b → b < w.heap.size
 stable w w' h hs := ⟨h.1.keep hs, fun b hb => by
  have h1 := h.2 b hb
  have h2 := hs b hb
  rw [Array.getElem?_eq_getElem h1] at h2
  exact (Array.getElem?_eq_some_iff.1 h2).1⟩
 has w h b hb := h.2 b hb
theorem Mem.fold {w0 w : World} {ls rs : List Res} {r : Res} (h : Mem w0 w (ls ++ rs)) (hP : r.P w) (hb : ∀ b, r.own b → ∃ a ∈ ls, a.own b) : Mem w0 w (r :: rs) := by
 have hp := List.pairwise_append.1 h.sep
 refine ⟨h.below, fun x hx => ?_, List.pairwise_cons.2 ⟨fun s hs b hr hsb => ?_, hp.2.1⟩⟩
 ·rcases List.mem_cons.1 hx with rfl | hx
  ·refine ⟨hP, fun b hr => ?_⟩
   obtain ⟨a, ha, hab⟩ := hb b hr
   exact (h.all a (List.mem_append.2 (.inl ha))).2 b hab
  ·exact h.all x (List.mem_append.2 (.inr hx))
 ·obtain ⟨a, ha, hab⟩ := hb b hr
  exact hp.2.2 a ha s hs b hab hsb
structure Kid where
 t : Ty
 V : Array Value
 O : Nat → Prop
abbrev kidR (k : Kid) : Res := tyR k.O k.t (.agg k.V)
def kidCells (l : List Kid) : List Value := l.flatMap fun k => k.V.toList
theorem five_len {l : List Kid} (h : ∀ k ∈ l, k.V.size = 5) : (kidCells l).length = l.length * 5 := by
 unfold kidCells
 induction l with
 | nil => rfl
 | cons k l ih =>
  have h0 := h k (by simp)
  rw [List.flatMap_cons, List.length_append, ih (fun x hx => h x (by simp [hx])), List.length_cons, Array.length_toList, h0]; omega
theorem five_at : ∀ {l : List Kid} (i j : Nat) (k : Kid) (u : Value), (∀ k ∈ l, k.V.size = 5) → l[i]? = some k → k.V[j]? = some u → (kidCells l)[i * 5 + j]? = some u := by
 intro l
 induction l with
 | nil => intro i j k u _ h; simp at h
 | cons x r ih =>
  intro i j k u h5 h hu
  have h0 := h5 x (by simp)
  unfold kidCells
  rw [List.flatMap_cons]
  cases i with
  | zero =>
   simp at h
   subst h
   have hj := (Array.getElem?_eq_some_iff.1 hu).1
   rw [Nat.zero_mul, Nat.zero_add, List.getElem?_append_left (by rw [Array.length_toList]; exact hj), Array.getElem?_toList, hu]
  | succ i =>
   simp at h
   rw [List.getElem?_append_right (by rw [Array.length_toList]; omega), Array.length_toList, h0, show (i + 1) * 5 + j - 5 = i * 5 + j by omega]
   exact ih i j k u (fun y hy => h5 y (by simp [hy])) h hu
theorem TyIn.five {w : World} {O : Nat → Prop} {t : Ty} {V : Array Value} (h : TyIn w O t (.agg V)) : V.size = 5 := by
 obtain ⟨aa, ca, al, cl, e, _⟩ := h.agg
 cases e; rfl
def mkO (va vl : Value) (l : List Kid) (b : Nat) : Prop := va.ownBlock = some b ∨ vl.ownBlock = some b ∨ ∃ k ∈ l, k.O b
theorem Mem.tyMake {w0 w : World} {rs : List Res} {T S : TypeId} {aa al : Option Addr} {ca cl n m : Nat} {kids : List Kid} {cs : List Value} {labels : List (List UInt8)} (k : Nat) (s : List UInt8) (o : Bool)
  (h : Mem w0 w (rowR T 5 (.slice aa n ca) n cs :: rowR S 1 (.slice al m cl) m (labels.map fun x => .string ⟨x.toArray⟩) :: (kids.map kidR ++ rs))) (hn : n = kids.length) (hm : m = labels.length) (hcs : cs = kidCells kids) :
  Mem w0 w (tyR (mkO (.slice aa n ca) (.slice al m cl) kids) (.mk k s (kids.map Kid.t) labels o) (.agg #[.int .i64 k, .string ⟨s.toArray⟩, .slice aa n ca, .slice al m cl, .bool o]) :: rs) := by
 subst hn hm hcs
 have h' : Mem w0 w ((rowR T 5 (.slice aa kids.length ca) kids.length (kidCells kids) :: rowR S 1 (.slice al labels.length cl) labels.length (labels.map fun x => .string ⟨x.toArray⟩) :: kids.map kidR) ++ rs) := h
 have hk : ∀ x ∈ kids, (kidR x).P w := fun x hx => (h'.all _ (by simp; exact .inr (.inr (.inl ⟨x, hx, rfl⟩)))).1
 have h5 : ∀ x ∈ kids, x.V.size = 5 := fun x hx => (hk x hx).1.five
 have hra := h'.at_ 0 rfl
 have hrl := h'.at_ 1 rfl
 have hsep := (List.pairwise_append.1 h'.sep).1
 have hsep1 := List.pairwise_cons.1 hsep
 have hsep2 := List.pairwise_cons.1 hsep1.2
 obtain ⟨ra, rca, ea, hca⟩ := h'.val 0 rfl
 cases ea
 obtain ⟨rl, rcl, el, hcl⟩ := h'.val 1 rfl
 cases el
 have hpw : ∀ (i j : Nat) (x y : Kid), kids[i]? = some x → kids[j]? = some y → i ≠ j → ∀ b, x.O b → ¬ y.O b := by
  intro i j x y hx hy hne b hb hb'
  have hp := List.pairwise_map.1 hsep2.2
  rw [List.pairwise_iff_getElem] at hp
  obtain ⟨hi, rfl⟩ := List.getElem?_eq_some_iff.1 hx
  obtain ⟨hj, rfl⟩ := List.getElem?_eq_some_iff.1 hy
  rcases Nat.lt_or_gt_of_ne hne with h1 | h1
  ·exact hp i j hi hj h1 b hb hb'
  ·exact hp j i hj hi h1 b hb' hb
 refine h'.fold (r := tyR _ _ _) ⟨?_, ?_⟩ ?_
 ·have key : TyIn w (mkO (.slice aa kids.length ca) (.slice al labels.length cl) kids) (.mk k s (kids.map Kid.t) labels o) (.agg #[.int .i64 k, .string ⟨s.toArray⟩, .slice aa (kids.map Kid.t).length ca, .slice al labels.length cl, .bool o]) := by
   refine .mk (fun i => (kids[i]?.map Kid.V).getD #[]) (fun i b => ∃ x, kids[i]? = some x ∧ x.O b) (by simpa using hca) hcl (fun i x hx => ?_) (fun i hi => ?_) (fun i b hb => ?_) (fun i j b hb hb' => ?_) (fun i t ht => ?_)
   ·have hx' : (labels.map fun x => Value.string ⟨x.toArray⟩)[i]? = some (.string ⟨x.toArray⟩) := by rw [List.getElem?_map, hx]; rfl
    obtain ⟨g, rfl, _, _, hc⟩ := h'.getRow 1 rfl i hx'
    exact ⟨g, 0, rfl, .inr (.inl rfl), by rw [Nat.zero_add]; exact hc⟩
   ·have hi' : i < kids.length := by simpa using hi
    have hki : kids[i]? = some kids[i] := List.getElem?_eq_getElem hi'
    have h5i := h5 _ (List.getElem_mem hi')
    have hfirst : (kidCells kids)[i * 5 + 0]? = some (kids[i].V[0]'(by omega)) := five_at i 0 kids[i] _ h5 hki (Array.getElem?_eq_getElem (by omega))
    obtain ⟨g, rfl, _, _, _⟩ := h'.getRow 0 rfl _ hfirst
    have hpl : ∃ cs T, w.heap[g]? = some (.cells cs T (0, 0)) := by
     rcases (h'.row 0 rfl).2 with ⟨e1, _⟩ | ⟨g', cap, cur, e1, _, hg, _⟩
     ·cases e1
     ·cases e1; exact ⟨_, _, hg⟩
    refine ⟨g, 0, rfl, .inl rfl, hpl, fun j ⟨x, hx, hxo⟩ => ?_, by rw [hki]; exact h5i, fun j u hu => ?_⟩
    ·exact hsep1.1 (kidR x) (by simp; exact .inr ⟨x, List.mem_of_getElem? hx, rfl⟩) g rfl hxo
    ·rw [hki] at hu
     rw [Nat.zero_add]
     exact h'.cellAt 0 rfl _ (five_at i j kids[i] u h5 hki hu)
   ·obtain ⟨x, hx, hxo⟩ := hb
    exact .inr (.inr ⟨x, List.mem_of_getElem? hx, hxo⟩)
   ·obtain ⟨x, hx, hxo⟩ := hb
    obtain ⟨y, hy, hyo⟩ := hb'
    refine Classical.byContradiction fun hne => ?_
    exact hpw i j x y hx hy hne b hxo hyo
   ·rw [List.getElem?_map] at ht
    obtain ⟨x, hx, rfl⟩ := Option.map_eq_some_iff.1 ht
    simp only [hx, zqd, Option.getD_some]
    refine (hk x (List.mem_of_getElem? hx)).1.wide (fun b hb => ⟨x, rfl, hb⟩)
  rw [List.length_map] at key
  exact key
 ·rintro b (hb | hb | ⟨x, hx, hb⟩)
  ·exact (rowR T 5 (.slice aa kids.length ca) kids.length (kidCells kids)).has w hra b hb
  ·exact (rowR S 1 (.slice al labels.length cl) labels.length _).has w hrl b hb
  ·exact (kidR x).has w (hk x hx) b hb
 ·rintro b (hb | hb | ⟨x, hx, hb⟩)
  ·exact ⟨_, List.mem_cons_self .., hb⟩
  ·exact ⟨_, List.mem_cons_of_mem _ (List.mem_cons_self ..), hb⟩
  ·exact ⟨kidR x, by simp; exact .inr (.inr ⟨x, hx, rfl⟩), hb⟩
end Go.Tre
namespace Go.Tre
section
variable {P : Program} {ops : Array Oper} {Q : Exit → Act → World → Prop} {md : Region.Mode} {S : World → Prop}
end
end Go.Tre
