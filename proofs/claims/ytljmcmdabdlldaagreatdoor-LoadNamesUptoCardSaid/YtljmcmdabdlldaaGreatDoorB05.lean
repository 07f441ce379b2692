/- What a call holds in memory: resources, each of its own blocks, no two of them with a block in common. graph.Reach at whatever graph. Plain: a graph's free nodes. Nodes that a call makes: a row of them, their rows of arguments and labels. graph.Trim: plain. Plain laws on being the same. Whether two variables are one is told: plain. How many pairs there are; how long a graph is. What is trimmed is the same type, and trimmed again it is itself: plain. -/
import Derived.Test.YtljmcmdabdlldaaGreatDoorB01
import Derived.Test.YtljmcmdabdlldaaGreatDoorB00
import Derived.WalkSmall
import Derived.RangeFuncBox
import Derived.RangeFuncOwn
import Derived.Test.YtljmcmdabdlldaaGreatDoorB04
import Derived.Test.YtljmcmdabdlldaaGreatDoorB03
set_option linter.unusedVariables false
namespace Go.Tre
open Go.RowKit Go.Maps

structure Res where
 own : Nat → Prop
 P : World → Prop
 stable : ∀ w w' : World, P w → (∀ b, own b → w'.heap[b]? = w.heap[b]?) → P w'
 has : ∀ w : World, P w → ∀ b, own b → b < w.heap.size

structure Mem (w0 w : World) (rs : List Res) : Prop where
 below : Below w0.heap.size w0 w
 all : ∀ r ∈ rs, r.P w ∧ ∀ b, r.own b → w0.heap.size ≤ b
 sep : rs.Pairwise fun r s => ∀ b, r.own b → ¬ s.own b

section
variable {w0 w w' : World} {rs : List Res} {r r' : Res}

theorem Mem.size (h : Mem w0 w rs) : w0.heap.size ≤ w.heap.size := h.below.size
theorem Mem.nil (w : World) : Mem w w [] := ⟨Below.refl _ _, by simp, by simp⟩
theorem Mem.of_below (h : Below w0.heap.size w0 w) : Mem w0 w [] := ⟨h, by simp, by simp⟩
theorem Mem.perm {ss : List Res} (h : Mem w0 w rs) (p : rs.Perm ss) : Mem w0 w ss :=
 ⟨h.below, fun r hr => h.all r (p.mem_iff.2 hr), (p.pairwise_iff (fun hxy b hb hx => hxy b hx hb)).1 h.sep⟩
theorem Mem.drop1 (h : Mem w0 w (r :: rs)) : Mem w0 w rs := ⟨h.below, fun s hs => h.all s (by simp [hs]), (List.pairwise_cons.1 h.sep).2⟩
theorem Mem.none_ (h : Mem w0 w rs) : Mem w0 w [] := ⟨h.below, by simp, by simp⟩
theorem Mem.sub {ss : List Res} (h : Mem w0 w rs) (s : ss.Sublist rs) : Mem w0 w ss := ⟨h.below, fun r hr => h.all r (s.subset hr), h.sep.sublist s⟩

theorem Mem.at_ (h : Mem w0 w rs) (i : Nat) (hi : rs[i]? = some r) : r.P w := (h.all r (List.mem_of_getElem? hi)).1
theorem Mem.lo (h : Mem w0 w rs) (i : Nat) (hi : rs[i]? = some r) : ∀ b, r.own b → w0.heap.size ≤ b := (h.all r (List.mem_of_getElem? hi)).2

theorem Mem.keep (h : Mem w0 w rs) (hg : w.grownBy w' none) : Mem w0 w' rs :=
 ⟨h.below.grown hg h.below.size (fun k e => by cases e), fun r hr => ⟨r.stable _ _ (h.all r hr).1 (fun b hb => hg.block b (r.has _ (h.all r hr).1 b hb) (by simp)), (h.all r hr).2⟩, h.sep⟩
theorem Mem.alloc (h : Mem w0 w rs) (o : Obj) : Mem w0 (w.alloc o) rs := h.keep (World.grownBy_alloc w o none)
theorem Mem.drew (h : Mem w0 w rs) : Mem w0 w.drew rs := h.keep ⟨rfl, rfl, rfl, Nat.le_refl _, fun _ _ _ => rfl⟩
theorem grown_below {w w' : World} (h : Below w.heap.size w w') : w.grownBy w' none := ⟨h.os, h.tape, h.output, h.size, fun k hk _ => h.block k hk⟩
theorem Mem.quiet (h : Mem w0 w rs) (k : Below w.heap.size w w') : Mem w0 w' rs := h.keep (grown_below k)
theorem Mem.call {ss : List Res} (h : Mem w0 w rs) (k : Mem w w' ss) : Mem w0 w' (ss ++ rs) := by
 have h' := h.quiet k.below
 refine ⟨h'.below, fun r hr => ?_, List.pairwise_append.2 ⟨k.sep, h.sep, fun a ha b hb c hc hcb => ?_⟩⟩
 ·rcases List.mem_append.1 hr with hr | hr
  ·exact ⟨(k.all r hr).1, fun b hb => Nat.le_trans h.size ((k.all r hr).2 b hb)⟩
  ·exact h'.all r hr
 ·have h1 := (k.all a ha).2 c hc
  have h2 := b.has _ (h.all b hb).1 c hcb
  omega
theorem Mem.add (h : Mem w0 w rs) (hg : w.grownBy w' none) (r : Res) (hP : r.P w') (hb : ∀ b, r.own b → w.heap.size ≤ b) : Mem w0 w' (r :: rs) := by
 have h' := h.keep hg
 refine ⟨h'.below, fun s hs => ?_, List.pairwise_cons.2 ⟨fun s hs b hb' hs' => ?_, h.sep⟩⟩
 ·rcases List.mem_cons.1 hs with rfl | hs
  ·exact ⟨hP, fun b hb' => Nat.le_trans h.size (hb b hb')⟩
  ·exact h'.all s hs
 ·have h1 := hb b hb'
  have h2 := s.has _ (h.all s hs).1 b hs'
  omega
theorem Mem.hd (h : Mem w0 w (r :: rs)) : r.P w := (h.all r (by simp)).1
theorem Mem.upd (h : Mem w0 w (r :: rs)) (hs : w.heap.size ≤ w'.heap.size) (ho : w'.os = w.os ∧ w'.tape = w.tape ∧ w'.output = w.output) (hg : ∀ k, k < w.heap.size → ¬ r.own k → w'.heap[k]? = w.heap[k]?) (r' : Res) (hP : r'.P w') (hb : ∀ b, r'.own b → r.own b ∨ w.heap.size ≤ b) : Mem w0 w' (r' :: rs) := by
 have hr := h.all r (by simp)
 have hsep := List.pairwise_cons.1 h.sep
 have hall : ∀ s ∈ rs, s.P w ∧ ∀ b, s.own b → w0.heap.size ≤ b := fun s hs => h.all s (by simp [hs])
 refine ⟨h.below.trans ⟨ho.1, ho.2.1, ho.2.2, hs, fun k hk => hg k (Nat.lt_of_lt_of_le hk h.size) (fun e => by have := hr.2 k e; omega)⟩, fun s hs => ?_, List.pairwise_cons.2 ⟨fun s hs b hb' hs' => ?_, hsep.2⟩⟩
 ·rcases List.mem_cons.1 hs with rfl | hs
  ·refine ⟨hP, fun b hb' => ?_⟩
   rcases hb b hb' with e | e
   ·exact hr.2 b e
   ·exact Nat.le_trans h.size e
  ·exact ⟨s.stable _ _ (hall s hs).1 (fun b hb' => hg b (s.has _ (hall s hs).1 b hb') (fun e => hsep.1 s hs b e hb')), (hall s hs).2⟩
 ·rcases hb b hb' with e | e
  ·exact hsep.1 s hs b e hs'
  ·have := s.has _ (hall s hs).1 b hs'
   omega

theorem perm_set (i : Nat) : ∀ {rs : List Res} {r : Res}, rs[i]? = some r → ∀ r' : Res, ∃ l : List Res, rs.Perm (r :: l) ∧ (r' :: l).Perm (rs.set i r') := by
 induction i with
 | zero =>
  intro rs r hi r'
  cases rs with
  | nil => cases hi
  | cons a l => simp at hi; subst hi; exact ⟨l, List.Perm.refl _, List.Perm.refl _⟩
 | succ i ih =>
  intro rs r hi r'
  cases rs with
  | nil => cases hi
  | cons a l =>
   simp at hi
   obtain ⟨l', h1, h2⟩ := ih hi r'
   exact ⟨a :: l', (List.Perm.cons a h1).trans (List.Perm.swap r a l'), (List.Perm.swap a r' l').trans (List.Perm.cons a h2)⟩
theorem Mem.set (h : Mem w0 w rs) (i : Nat) (hi : rs[i]? = some r) (hs : w.heap.size ≤ w'.heap.size) (ho : w'.os = w.os ∧ w'.tape = w.tape ∧ w'.output = w.output) (hg : ∀ k, k < w.heap.size → ¬ r.own k → w'.heap[k]? = w.heap[k]?) (r' : Res) (hP : r'.P w')
  (hb : ∀ b, r'.own b → r.own b ∨ w.heap.size ≤ b) : Mem w0 w' (rs.set i r') := by
 obtain ⟨l, h1, h2⟩ := perm_set i hi r'
 exact ((h.perm h1).upd hs ho hg r' hP hb).perm h2
theorem Mem.set_row {row : Option Nat} (h : Mem w0 w rs) (i : Nat) (hi : rs[i]? = some r) (hg : w.grownBy w' row) (hr : ∀ k, row = some k → r.own k) (r' : Res) (hP : r'.P w') (hb : ∀ b, r'.own b → r.own b ∨ w.heap.size ≤ b) : Mem w0 w' (rs.set i r') :=
 h.set i hi hg.size ⟨hg.os, hg.tape, hg.output⟩ (fun k hk hn => hg.block k hk (fun e => hn (hr k e.symm))) r' hP hb

/-! the resources -/
def rowR (e : TypeId) (size : Nat) (v : Value) (n : Nat) (xs : List Value) : Res where
 own b := v.ownBlock = some b
 P w := w.ownsRow 0 e size v n xs
 stable w w' h hs := by
  refine ⟨h.1, ?_⟩
  rcases h.2 with hn | ⟨g, cap, cur, rfl, hb, hgg, rest⟩
  ·exact .inl hn
  ·exact .inr ⟨g, cap, cur, rfl, hb, (hs g rfl).trans hgg, rest⟩
 has w h b hb := (h.lt b hb).2
def cellsR (b : Nat) (t : TypeId) (cs : Array Value) : Res where
 own b' := b' = b
 P w := w.heap[b]? = some (.cells cs t (0, 0))
 stable w w' h hs := (hs b rfl).trans h
 has w h b' hb := by subst hb; exact (Array.getElem?_eq_some_iff.1 h).1
abbrev boxR (b : Nat) (t : TypeId) (v : Value) : Res := cellsR b t #[v]
def mapR {α β : Type} (P : Program) (k : TypeId) (ek : α → Value) (ev : β → Value) (b n : Nat) (m : α → Option β) : Res where
 own b' := b' = b
 P w := MapIs P k ek ev w b n m
 stable w w' h hs := h.block (hs b rfl)
 has w h b' hb := by subst hb; exact h.lt
def Res.join (r s : Res) : Res where
 own b := r.own b ∨ s.own b
 P w := r.P w ∧ s.P w
 stable _ _ h hs := ⟨r.stable _ _ h.1 (fun b hb => hs b (.inl hb)), s.stable _ _ h.2 (fun b hb => hs b (.inr hb))⟩
 has w h b hb := hb.elim (r.has w h.1 b) (s.has w h.2 b)
def emptyR : Res where
 own _ := False
 P _ := True
 stable _ _ _ _ := trivial
 has _ _ _ h := h.elim
theorem Mem.join (h : Mem w0 w (r :: r' :: rs)) : Mem w0 w (r.join r' :: rs) := by
 have h1 := List.pairwise_cons.1 h.sep
 have h2 := List.pairwise_cons.1 h1.2
 refine ⟨h.below, fun s hs => ?_, List.pairwise_cons.2 ⟨fun s hs b hb hs' => ?_, h2.2⟩⟩
 ·rcases List.mem_cons.1 hs with rfl | hs
  ·have a := h.all r (by simp)
   have c := h.all r' (by simp)
   exact ⟨⟨a.1, c.1⟩, fun b hb => hb.elim (a.2 b) (c.2 b)⟩
  ·exact h.all s (by simp [hs])
 ·rcases hb with hb | hb
  ·exact h1.1 s (by simp [hs]) b hb hs'
  ·exact h2.1 s hs b hb hs'
theorem Mem.as_ (h : Mem w0 w rs) (i : Nat) (hi : rs[i]? = some r) (r' : Res) (hP : r.P w → r'.P w) (hb : ∀ b, r'.own b → r.own b) : Mem w0 w (rs.set i r') :=
 h.set i hi (Nat.le_refl _) ⟨rfl, rfl, rfl⟩ (fun _ _ _ => rfl) r' (hP (h.at_ i hi)) (fun b hb' => .inl (hb b hb'))

def manyR (l : List Res) : Res where
 own b := ∃ r ∈ l, r.own b
 P w := ∀ r ∈ l, r.P w
 stable w w' h hs := fun r hr => r.stable _ _ (h r hr) (fun b hb => hs b ⟨r, hr, hb⟩)
 has w h b hb := by obtain ⟨r, hr, hb⟩ := hb; exact r.has w (h r hr) b hb
theorem Mem.into {l : List Res} (h : Mem w0 w (r :: manyR l :: rs)) : Mem w0 w (manyR (l ++ [r]) :: rs) := by
 have hj := h.join
 have hr := hj.all _ (List.mem_cons_self ..)
 exact hj.as_ 0 rfl (manyR (l ++ [r])) (fun hp s hs => by
  rcases List.mem_append.1 hs with hs | hs
  ·exact hp.2 s hs
  ·simp at hs; subst hs; exact hp.1) (fun b hb => by
  obtain ⟨s, hs, hb⟩ := hb
  rcases List.mem_append.1 hs with hs | hs
  ·exact .inr ⟨s, hs, hb⟩
  ·simp at hs; subst hs; exact .inl hb)
theorem Mem.addMany (h : Mem w0 w rs) : Mem w0 w (manyR [] :: rs) :=
 ⟨h.below, fun s hs => by
  rcases List.mem_cons.1 hs with rfl | hs
  ·exact ⟨fun r hr => by simp at hr, fun b hb => by obtain ⟨r, hr, _⟩ := hb; simp at hr⟩
  ·exact h.all s hs, List.pairwise_cons.2 ⟨fun _ _ _ hb _ => by obtain ⟨r, hr, _⟩ := hb; simp at hr, h.sep⟩⟩

theorem perm_front : ∀ (i : Nat) {l : List Res} {r : Res}, l[i]? = some r → l.Perm (r :: l.eraseIdx i)
 | 0, [], _, h => by cases h
 | 0, a :: l, r, h => by simp at h; subst h; exact List.Perm.refl _
 | i + 1, [], _, h => by cases h
 | i + 1, a :: l, r, h => by
  simp at h
  exact (List.Perm.cons a (perm_front i h)).trans (List.Perm.swap r a _)
theorem Mem.front (h : Mem w0 w rs) (i : Nat) (hi : rs[i]? = some r) : Mem w0 w (r :: rs.eraseIdx i) :=
 h.perm (perm_front i hi)
theorem Mem.del (h : Mem w0 w rs) (i : Nat) : Mem w0 w (rs.eraseIdx i) := h.sub (List.eraseIdx_sublist ..)
theorem Mem.push2 {a b c n : Res} {l : List Res} (h : Mem w0 w (a :: b :: c :: n :: manyR l :: rs)) : Mem w0 w (n :: manyR (l ++ [a, b]) :: rs) := by
 have h1 : Mem w0 w (a :: b :: n :: manyR l :: rs) := h.del 2
 have h2 : Mem w0 w (manyR l :: a :: b :: n :: rs) := h1.front 3 rfl
 have h3 : Mem w0 w (a :: manyR l :: b :: n :: rs) := h2.front 1 rfl
 have h4 : Mem w0 w (b :: manyR (l ++ [a]) :: n :: rs) := h3.into.front 1 rfl
 have h5 : Mem w0 w (n :: manyR ((l ++ [a]) ++ [b]) :: rs) := h4.into.front 1 rfl
 rw [List.append_assoc] at h5
 exact h5

/-! steps -/
theorem Mem.allocR (h : Mem w0 w rs) (cs : Array Value) (t : TypeId) : Mem w0 (w.alloc (.cells cs t)) (cellsR w.heap.size t cs :: rs) :=
 h.add (World.grownBy_alloc w _ none) (cellsR w.heap.size t cs) (heap_alloc_new w _) (fun _ hb => Nat.le_of_eq hb.symm)
theorem Mem.allocRow (h : Mem w0 w rs) (cs : Array Value) (e : TypeId) (size n : Nat) (hm : n ≤ maxLen) (hs : cs.size = n * size) : Mem w0 (w.alloc (.cells cs e)) (rowR e size (.slice (some ⟨w.heap.size, 0, none⟩) n n) n cs.toList :: rs) :=
 h.add (World.grownBy_alloc w _ none) (rowR e size _ n cs.toList) (World.ownsRow_lit w cs n (Nat.zero_le _) hm hs) (fun b hb => by have : some w.heap.size = some b := hb; cases this; exact Nat.le_refl _)
theorem Mem.allocMap {α β : Type} (h : Mem w0 w rs) (P : Program) (k : TypeId) (ek : α → Value) (ev : β → Value) : Mem w0 (w.alloc (.map #[] 0)) (mapR P k ek ev w.heap.size 0 (fun _ => none) :: rs) :=
 h.add (World.grownBy_alloc w _ none) (mapR P k ek ev _ _ _) (MapIs.made w P k ek ev) (fun _ hb => Nat.le_of_eq hb.symm)
theorem Mem.addNil (h : Mem w0 w rs) (e : TypeId) (size : Nat) : Mem w0 w (rowR e size (.slice none 0 0) 0 [] :: rs) :=
 h.add ⟨rfl, rfl, rfl, Nat.le_refl _, fun _ _ _ => rfl⟩ (rowR e size _ _ _) (World.ownsRow_nil w _ e size) (fun b hb => by cases hb)
theorem heap_set_at (w : World) (b i : Nat) (t : TypeId) (cs : Array Value) (u : Value) (h : w.heap[b]? = some (.cells cs t (0, 0))) : (w.setCell ⟨b, i, none⟩ u).heap[b]? = some (.cells (cs.setIfInBounds i u) t (0, 0)) := by
 simp [World.setCell, Array.getElem?_modify, h]
theorem grown_set (w : World) (b i : Nat) (u : Value) : w.grownBy (w.setCell ⟨b, i, none⟩ u) (some b) :=
 ⟨rfl, rfl, rfl, by simp [World.setCell], fun k _ hk => Below.heap_setCell w ⟨b, i, none⟩ u k (fun e => hk (by rw [e]))⟩
theorem Mem.setCell {b : Nat} {t : TypeId} {cs : Array Value} (h : Mem w0 w rs) (i : Nat) (hi : rs[i]? = some (cellsR b t cs)) (j : Nat) (u : Value) : Mem w0 (w.setCell ⟨b, j, none⟩ u) (rs.set i (cellsR b t (cs.setIfInBounds j u))) :=
 h.set_row i hi (grown_set w b j u) (fun k e => by cases e; rfl) _ (heap_set_at w b j t cs u (h.at_ i hi)) (fun b' hb => .inl hb)
theorem Mem.setRow {e : TypeId} {size n g cap : Nat} {xs : List Value} (h : Mem w0 w rs) (i : Nat) (hi : rs[i]? = some (rowR e size (.slice (some ⟨g, 0, none⟩) n cap) n xs)) (j : Nat) (u : Value) : Mem w0 (w.setCell ⟨g, j, none⟩ u) (rs.set i (rowR e size (.slice (some ⟨g, 0, none⟩) n cap) n (xs.set j u))) :=
 h.set_row i hi (grown_set w g j u) (fun k e => by cases e; rfl) _ ((h.at_ i hi : World.ownsRow _ _ _ _ _ _ _).stored j u).1 (fun b' hb => .inl hb)
theorem Mem.grow {e : TypeId} {size n n' : Nat} {v v' : Value} {xs xs' : List Value} (h : Mem w0 w rs) (i : Nat) (hi : rs[i]? = some (rowR e size v n xs)) (hg : w.grownBy w' v.ownBlock) (hown : w'.ownsRow 0 e size v' n' xs') (hat : v'.ownBlock = v.ownBlock ∨ v'.ownBlock = some w.heap.size) :
  Mem w0 w' (rs.set i (rowR e size v' n' xs')) :=
 h.set_row i hi hg (fun k e => e) _ hown (fun b hb => by
  have hb' : v'.ownBlock = some b := hb
  rcases hat with e | e
  ·exact .inl (e.symm.trans hb')
  ·rw [e] at hb'; cases hb'; exact .inr (Nat.le_refl _))
theorem Mem.put {α β : Type} {P : Program} {k : TypeId} {ek : α → Value} {ev : β → Value} {b n n' : Nat} {m m' : α → Option β} (h : Mem w0 w rs) (i : Nat) (hi : rs[i]? = some (mapR P k ek ev b n m)) (hg : w.grownBy w' (some b)) (hm : MapIs P k ek ev w' b n' m') : Mem w0 w' (rs.set i (mapR P k ek ev b n' m')) :=
 h.set_row i hi hg (fun k e => by cases e; rfl) _ hm (fun b' hb => .inl hb)
/-! reading -/
theorem Mem.row {e : TypeId} {size n : Nat} {v : Value} {xs : List Value} (h : Mem w0 w rs) (i : Nat) (hi : rs[i]? = some (rowR e size v n xs)) : w.ownsRow 0 e size v n xs := h.at_ i hi
theorem Mem.heap {b : Nat} {t : TypeId} {cs : Array Value} (h : Mem w0 w rs) (i : Nat) (hi : rs[i]? = some (cellsR b t cs)) : w.heap[b]? = some (.cells cs t (0, 0)) := h.at_ i hi
theorem Mem.map {α β : Type} {P : Program} {k : TypeId} {ek : α → Value} {ev : β → Value} {b n : Nat} {m : α → Option β} (h : Mem w0 w rs) (i : Nat) (hi : rs[i]? = some (mapR P k ek ev b n m)) : MapIs P k ek ev w b n m := h.at_ i hi
theorem Mem.cell {b : Nat} {t : TypeId} {cs : Array Value} (h : Mem w0 w rs) (i : Nat) (hi : rs[i]? = some (cellsR b t cs)) (j : Nat) {u : Value} (hj : cs[j]? = some u) : w.cell? ⟨b, j, none⟩ = some u := by
 simp [World.cell?, h.heap i hi, hj]
theorem Mem.two {b : Nat} {t : TypeId} {x y : Value} (h : Mem w0 w rs) (i : Nat) (hi : rs[i]? = some (cellsR b t #[x, y])) : w.cell? ⟨b, 0, none⟩ = some x ∧ w.cell? ⟨b, 1, none⟩ = some y := by
 have := h.at_ i hi
 exact ⟨by simp [World.cell?, show w.heap[b]? = _ from this], by simp [World.cell?, show w.heap[b]? = _ from this]⟩
theorem Mem.free {b : Nat} {t : TypeId} {cs : Array Value} (h : Mem w0 w rs) (i : Nat) (hi : rs[i]? = some (cellsR b t cs)) (j : Nat) : w.frozen? ⟨b, j, none⟩ = false := by
 simp [World.frozen?, h.heap i hi]
theorem Mem.cellAt {e : TypeId} {size n g cap : Nat} {xs : List Value} (h : Mem w0 w rs) (i : Nat) (hi : rs[i]? = some (rowR e size (.slice (some ⟨g, 0, none⟩) n cap) n xs)) (j : Nat) {u : Value} (hj : xs[j]? = some u) : w.cell? ⟨g, j, none⟩ = some u := by
 have hr := h.row i hi
 have hl := (List.getElem?_eq_some_iff.1 hj).1
 rw [hr.cellAt j (by rw [← hr.1]; exact hl), hj]
theorem Mem.freeAt {e : TypeId} {size n g cap : Nat} {xs : List Value} (h : Mem w0 w rs) (i : Nat) (hi : rs[i]? = some (rowR e size (.slice (some ⟨g, 0, none⟩) n cap) n xs)) (j : Nat) : w.frozen? ⟨g, j, none⟩ = false := (h.row i hi).frozenAt j
theorem Mem.pos {e : TypeId} {size n : Nat} {v : Value} {xs : List Value} (h : Mem w0 w rs) (i : Nat) (hi : rs[i]? = some (rowR e size v (n + 1) xs)) : ∃ g cap, v = .slice (some ⟨g, 0, none⟩) (n + 1) cap ∧ w0.heap.size ≤ g ∧ g < w.heap.size := by
 obtain ⟨g, cap, rfl⟩ := ownsRow_succ (h.row i hi)
 exact ⟨g, cap, rfl, h.lo i hi g rfl, ((h.row i hi).lt g rfl).2⟩
theorem Mem.getRow {e : TypeId} {size n cap : Nat} {a : Option Addr} {xs : List Value} (h : Mem w0 w rs) (i : Nat) (hi : rs[i]? = some (rowR e size (.slice a n cap) n xs)) (j : Nat) {u : Value} (hj : xs[j]? = some u) :
  ∃ g, a = some ⟨g, 0, none⟩ ∧ w0.heap.size ≤ g ∧ g < w.heap.size ∧ w.cell? ⟨g, j, none⟩ = some u := by
 have hr := h.row i hi
 rcases hr.2 with ⟨e1, e2⟩ | ⟨g, cap', cur, e1, _, hg, _⟩
 ·have := hr.1
  rw [e2] at this
  have : xs = [] := List.eq_nil_of_length_eq_zero (by simpa using this)
  subst this
  simp at hj
 ·cases e1
  exact ⟨g, rfl, h.lo i hi g rfl, (Array.getElem?_eq_some_iff.1 hg).1, h.cellAt i hi j hj⟩
theorem Mem.val {e : TypeId} {size n : Nat} {v : Value} {xs : List Value} (h : Mem w0 w rs) (i : Nat) (hi : rs[i]? = some (rowR e size v n xs)) : ∃ a cap, v = .slice a n cap ∧ n ≤ cap := by
 rcases (h.row i hi).2 with ⟨rfl, rfl⟩ | ⟨g, cap, cur, rfl, _, _, hn, _⟩
 ·exact ⟨_, _, rfl, Nat.le_refl _⟩
 ·exact ⟨_, _, rfl, hn⟩
end
end Go.Tre
namespace Go.Proofs.YtljmcmdabdlldaaGreatDoor.gr
open Go.RowKit Go.Shelf Go.Maps Go.Tre lex

theorem own_zero {w : World} {base : Nat} {e : TypeId} {size n : Nat} {v : Value} {xs : List Value} (h : w.ownsRow base e size v n xs) : w.ownsRow 0 e size v n xs := own_base h (Nat.zero_le _)
theorem Mem.of_own {w0 w : World} {e : TypeId} {size n : Nat} {v : Value} {xs : List Value} (h : w.ownsRow w0.heap.size e size v n xs) (b : Below w0.heap.size w0 w) : Mem w0 w [rowR e size v n xs] :=
 ⟨b, fun r hr => by simp at hr; subst hr; exact ⟨own_zero h, fun k hk => (h.lt k hk).1⟩, by simp⟩
set_option maxHeartbeats 1000000 in
theorem reach_any (a : Option Addr) (ca : Nat) (g : Tre.Graph) (w : World) (hg : NodesAt w a g.ns) (wg : g.weight ≤ 2097152) (hm : MaxAt w) :
  Calls Tryz.prog 30 #[.agg #[.slice a g.ns.length ca, .int .i64 g.root]] w fun e w' =>
   ∃ v, e = .returned v ∧ Mem w w' [rowR 3 1 v g.reachL.length (g.reachL.map rk)] := by
 by_cases c0 : g.checkC = 0
 ·exact (callsIn_wide.1 (reach_ok a ca g w hg wg hm c0)).mono fun e w' ⟨v, h1, h2, h3⟩ => ⟨v, h1, Mem.of_own h2 h3⟩
 ·have b2 : Below w.heap.size w (w.alloc (.cells #[.slice a g.ns.length ca, .int .i64 g.root] 33)) := (Below.refl _ _).alloc (Nat.le_refl _) _
  have HM := Tre.hid hm
  have HG := Tre.hid hg
  have t1 := not_ok c0
  have HN : Hid (g.reachL = []) := by show _ = _; unfold Graph.reachL; rw [if_neg c0]
  clear hg hm c0
  go_enter Tryz.func30, Tryz.ntmps30
  go_wp2_with fail
  refine (check_any a ca g _ (HG.out.below b2) (by omega) (HM.out.below b2)).mono ?_
  rintro e w1 ⟨rfl, d1⟩
  have B1 := after1 d1
  clear d1
  go_wp2_with fail
  go_ret
  refine ⟨_, rfl, ?_⟩
  rw [HN.out]
  exact (Mem.of_below B1).addNil _ _
end Go.Proofs.YtljmcmdabdlldaaGreatDoor.gr
namespace Go.Tre
def Graph.freeL (g : Tre.Graph) : List Nat := g.reachL.filter fun i => freeB (g.nd i)
theorem Graph.reach_lt (g : Tre.Graph) : ∀ a ∈ g.reachL, a < g.ns.length := by
 unfold Graph.reachL
 by_cases h : g.checkC = 0
 ·rw [if_pos h]
  have og := Graph.ok_of h
  exact (g.dfs_spec og _ [g.root.toNat] [] (Nat.le_refl _) (by simp) (by simp) (fun a ha => by simp at ha; rw [ha]; exact og.root1) (by simp)).2.1
 ·rw [if_neg h]; simp
theorem Graph.reach_nodup (g : Tre.Graph) : g.reachL.Nodup := by
 unfold Graph.reachL
 by_cases h : g.checkC = 0
 ·rw [if_pos h]
  have og := Graph.ok_of h
  exact (g.dfs_spec og _ [g.root.toNat] [] (Nat.le_refl _) (by simp) (by simp) (fun a ha => by simp at ha; rw [ha]; exact og.root1) (by simp)).1
 ·rw [if_neg h]; simp
theorem Graph.dfs_len {g : Tre.Graph} (og : g.Ok) : ∀ (k : Nat) (s out : List Nat), g.budget out + s.length ≤ k → (∀ a ∈ s, a < g.ns.length) → (g.dfs s out).length ≤ out.length + g.budget out := by
 intro k
 induction k with
 | zero =>
  intro s out hk _
  have : s = [] := List.length_eq_zero_iff.1 (by omega)
  subst this
  rw [g.dfs_nil]; omega
 | succ k ih =>
  intro s out hk hs
  cases s with
  | nil => rw [g.dfs_nil]; omega
  | cons a s =>
   by_cases hm : a ∈ out
   ·rw [Graph.dfs_skip hm]; exact ih s out (by simp at hk; omega) (fun b hb => hs b (by simp [hb]))
   ·have hal := hs a (by simp)
    have hb := Graph.budget_step hal hm
    rw [Graph.dfs_take hm hal]
    have := ih (g.kids a ++ s) (out ++ [a]) (by simp only [List.length_append, List.length_cons, g.kids_len] at hk ⊢; omega) (fun b hb' => by
     rcases List.mem_append.1 hb' with h | h
     ·exact og.kids_lt hal b h
     ·exact hs b (by simp [h]))
    simp only [List.length_append, List.length_singleton] at this
    omega
theorem Graph.reach_len (g : Tre.Graph) : g.reachL.length ≤ g.weight := by
 unfold Graph.reachL
 by_cases h : g.checkC = 0
 ·rw [if_pos h]
  have og := Graph.ok_of h
  have := Graph.dfs_len og _ [g.root.toNat] [] (Nat.le_refl _) (fun a ha => by simp at ha; rw [ha]; exact og.root1)
  have := g.budget_le
  simp at *
  omega
 ·rw [if_neg h]; simp
end Go.Tre
namespace Go.Tre
open Go.RowKit
structure NodeV where
 n : Tre.Node
 va : Value
 vl : Value
def NodeV.cells (d : NodeV) : List Value := [.int .i64 d.n.kind, .string d.n.name, d.va, d.vl, .bool d.n.isOpen]
end Go.Tre
namespace Go.Proofs.YtljmcmdabdlldaaGreatDoor.gr
open Go.RowKit Go.Shelf Go.Maps Go.Tre lex
def kids (d : NodeV) : List Res := [rowR 3 1 d.va d.n.args.length (d.n.args.map (Value.int .i64)), rowR 9 1 d.vl d.n.labels.length (d.n.labels.map Value.string)]
def nodesR (v : Value) (ds : List NodeV) : Res := rowR 39 5 v ds.length (ds.flatMap NodeV.cells)
def kidsR (ds : List NodeV) : Res := manyR (ds.flatMap kids)
theorem cells_at : ∀ (ds : List NodeV) (k j : Nat) (d : NodeV), ds[k]? = some d → j < 5 → (ds.flatMap NodeV.cells)[k * 5 + j]? = d.cells[j]? := by
 intro ds
 induction ds with
 | nil => intro k j d h; simp at h
 | cons x r ih =>
  intro k j d h hj
  have hl : x.cells.length = 5 := rfl
  rw [List.flatMap_cons]
  cases k with
  | zero =>
   simp at h; subst h
   rw [Nat.zero_mul, Nat.zero_add, List.getElem?_append_left (by rw [hl]; exact hj)]
  | succ k =>
   simp at h
   rw [List.getElem?_append_right (by rw [hl]; omega), hl, show (k + 1) * 5 + j - 5 = k * 5 + j by omega]
   exact ih k j d h hj
theorem kidsR_snoc (ds : List NodeV) (d : NodeV) : kidsR (ds ++ [d]) = manyR (ds.flatMap kids ++ kids d) := by unfold kidsR; rw [List.flatMap_append]; simp
theorem nodesR_snoc (v : Value) (ds : List NodeV) (d : NodeV) : nodesR v (ds ++ [d]) = rowR 39 5 v (ds.length + 1) (ds.flatMap NodeV.cells ++ d.cells) := by unfold nodesR; rw [List.flatMap_append, List.length_append]; simp
theorem row_read {w : World} {e : TypeId} {size n : Nat} {v : Value} {xs : List Value} (h : w.ownsRow 0 e size v n xs) : ∃ a c, v = .slice a n c ∧ n ≤ c ∧ Row w size a n xs := by
 rcases h.2 with ⟨rfl, rfl⟩ | ⟨g, cap, cur, rfl, _, hg, hc, _⟩
 ·refine ⟨_, _, rfl, Nat.le_refl _, h.1, fun j u hu => ?_⟩
  have : xs = [] := List.eq_nil_of_length_eq_zero (by simpa using h.1)
  subst this
  simp at hu
 ·refine ⟨_, _, rfl, hc, h.1, fun j u hu => ⟨g, 0, rfl, ?_⟩⟩
  rw [Nat.zero_add, h.cellAt j (by have := (List.getElem?_eq_some_iff.1 hu).1; rw [← h.1]; exact this), hu]
theorem nodes_read {w : World} {a : Option Addr} {n c : Nat} {ds : List NodeV} (h : (nodesR (.slice a n c) ds).P w) (hk : (kidsR ds).P w) : NodesAt w a (ds.map NodeV.n) := by
 refine ⟨fun k n hn => ?_⟩
 rw [List.getElem?_map] at hn
 obtain ⟨d, hd, rfl⟩ := Option.map_eq_some_iff.1 hn
 have hr : w.ownsRow 0 _ 5 (.slice a _ c) _ _ := h
 obtain ⟨a', c', e, _, hrow⟩ := row_read hr
 cases e
 have hmem := List.mem_of_getElem? hd
 have ha := hk (rowR 3 1 d.va d.n.args.length (d.n.args.map (Value.int .i64))) (List.mem_flatMap.2 ⟨d, hmem, by simp [kids]⟩)
 have hl := hk (rowR 9 1 d.vl d.n.labels.length (d.n.labels.map Value.string)) (List.mem_flatMap.2 ⟨d, hmem, by simp [kids]⟩)
 obtain ⟨aa, ca, ea, la, ra⟩ := row_read ha
 obtain ⟨al, cl, el, ll, rl⟩ := row_read hl
 obtain ⟨b, off, e0, c0⟩ := hrow.at_ (k * 5 + 0) _ ((cells_at ds k 0 d hd (by omega)).trans rfl)
 have rest : ∀ j u, j < 5 → d.cells[j]? = some u → w.cell? ⟨b, off + (k * 5 + j), none⟩ = some u := fun j u hj hu => by
  obtain ⟨b', off', e', c'⟩ := hrow.at_ (k * 5 + j) u ((cells_at ds k j d hd hj).trans hu)
  rw [e0] at e'; cases e'; exact c'
 refine ⟨b, off, e0, aa, ca, al, cl, ?_, ?_, ?_, ?_, ?_, ra, rl, la, ll⟩
 ·have := rest 0 _ (by omega) rfl; rwa [Nat.add_zero] at this
 ·have := rest 1 _ (by omega) rfl; rwa [← Nat.add_assoc] at this
 ·have := rest 2 d.va (by omega) rfl; rw [← Nat.add_assoc, ea] at this; exact this
 ·have := rest 3 d.vl (by omega) rfl; rw [← Nat.add_assoc, el] at this; exact this
 ·have := rest 4 _ (by omega) rfl; rwa [← Nat.add_assoc] at this

theorem cloneInts (a : Option Addr) (cap : Nat) (xs : List Int) (w : World) (hx : IntsAt w a xs) (hl : xs.length ≤ 8388608) :
  Calls Tryz.prog 32 #[.slice a xs.length cap] w fun e w' => ∃ v, e = .returned v ∧ Mem w w' [rowR 3 1 v xs.length (xs.map (Value.int .i64))] := by
 cases a with
 | none =>
  have h0 : xs = [] := by
   cases xs with
   | nil => rfl
   | cons x r => obtain ⟨_, _, e, _⟩ := hx.at_ 0 (.int .i64 x) rfl; cases e
  subst h0
  exact (Tryz.slices_Clone_int_nil _ _ _).mono fun e w' ⟨h1, h2⟩ => ⟨_, h1, by subst h2; exact (Mem.nil w').addNil _ _⟩
 | some ad =>
  by_cases h0 : xs = []
  ·subst h0
   exact (Tryz.slices_Clone_int_zero ad cap w).mono fun e w' ⟨v, h1, h2, _, h4⟩ => ⟨v, h1, Mem.of_own h2 h4⟩
  ·obtain ⟨x, r, rfl⟩ := List.exists_cons_of_ne_nil h0
   obtain ⟨b, off, e, _⟩ := hx.at_ 0 (.int .i64 x) rfl
   cases e
   refine (Tryz.slices_Clone_int b off (x :: r).length cap (x :: r) w (Nat.le_refl _) (by omega) (fun j hj => ?_)).mono fun e w' ⟨v, h1, h2, _, h4⟩ => ⟨v, h1, Mem.of_own (by rw [List.take_of_length_le (Nat.le_refl _)] at h2; exact h2) h4⟩
   obtain ⟨b', off', e', c'⟩ := hx.at_ j (.int .i64 ((x :: r).getD j 0)) (by rw [List.getElem?_map, List.getD_eq_getElem?_getD, List.getElem?_eq_getElem hj]; rfl)
   cases e'; exact c'
theorem cloneStrs (a : Option Addr) (cap : Nat) (xs : List ByteArray) (w : World) (hx : StrsAt w a xs) (hl : xs.length ≤ 8388608) :
  Calls Tryz.prog 31 #[.slice a xs.length cap] w fun e w' => ∃ v, e = .returned v ∧ Mem w w' [rowR 9 1 v xs.length (xs.map Value.string)] := by
 cases a with
 | none =>
  have h0 : xs = [] := by
   cases xs with
   | nil => rfl
   | cons x r => obtain ⟨_, _, e, _⟩ := hx.at_ 0 (.string x) rfl; cases e
  subst h0
  exact (Tryz.slices_Clone_string_nil _ _ _).mono fun e w' ⟨h1, h2⟩ => ⟨_, h1, by subst h2; exact (Mem.nil w').addNil _ _⟩
 | some ad =>
  by_cases h0 : xs = []
  ·subst h0
   exact (Tryz.slices_Clone_string_zero ad cap w).mono fun e w' ⟨v, h1, h2, _, h4⟩ => ⟨v, h1, Mem.of_own h2 h4⟩
  ·obtain ⟨x, r, rfl⟩ := List.exists_cons_of_ne_nil h0
   obtain ⟨b, off, e, _⟩ := hx.at_ 0 (.string x) rfl
   cases e
   refine (Tryz.slices_Clone_string b off (x :: r).length cap (x :: r) w (Nat.le_refl _) (by omega) (fun j hj => ?_)).mono fun e w' ⟨v, h1, h2, _, h4⟩ => ⟨v, h1, Mem.of_own (by rw [List.take_of_length_le (Nat.le_refl _)] at h2; exact h2) h4⟩
   obtain ⟨b', off', e', c'⟩ := hx.at_ j (.string ((x :: r).getD j ByteArray.empty)) (by rw [List.getElem?_map, List.getD_eq_getElem?_getD, List.getElem?_eq_getElem hj]; rfl)
   cases e'; exact c'
end Go.Proofs.YtljmcmdabdlldaaGreatDoor.gr
namespace Go.Tre
def placeOf (L : List Nat) (a : Int) : Int := ((L.idxOf a.toNat : Nat) : Int)
def trimNode (L : List Nat) (n : Tre.Node) : Tre.Node := { n with args := n.args.map (placeOf L) }
def Graph.trim (g : Tre.Graph) : Tre.Graph := ⟨g.reachL.map fun i => trimNode g.reachL (g.nd i), 0⟩
def idxMap (L : List Nat) (k : Nat) : Nat → Option Nat := fun x => if x ∈ L.take k then some (L.idxOf x) else none
theorem idxOf_nodup {L : List Nat} (hn : L.Nodup) {k : Nat} (h : k < L.length) : L.idxOf L[k] = k := by
 have h1 : L.idxOf L[k] < L.length := List.idxOf_lt_length_of_mem (List.getElem_mem h)
 have h2 : L[L.idxOf L[k]] = L[k] := List.getElem_idxOf h1
 exact (List.getElem?_inj h1 hn).1 (by rw [List.getElem?_eq_getElem h1, List.getElem?_eq_getElem h, h2])
theorem idxMap_succ {L : List Nat} (hn : L.Nodup) {k : Nat} (h : k < L.length) : upd (idxMap L k) L[k] k = idxMap L (k + 1) := by
 funext x
 unfold upd idxMap
 have e : L.take (k + 1) = L.take k ++ [L[k]] := by rw [List.take_add_one, List.getElem?_eq_getElem h]; rfl
 rw [e]
 by_cases hx : x = L[k]
 ·subst hx
  rw [if_pos rfl, if_pos (List.mem_append.2 (.inr (List.mem_singleton.2 rfl))), idxOf_nodup hn h]
 ·rw [if_neg hx]
  have : (x ∈ L.take k ++ [L[k]]) = (x ∈ L.take k) := by rw [List.mem_append, List.mem_singleton]; simp only [hx, or_false]
  simp only [this]
theorem idxMap_all (L : List Nat) {x : Nat} (h : x ∈ L) : idxMap L L.length x = some (L.idxOf x) := by
 unfold idxMap; rw [List.take_length, if_pos h]
def half {α : Type} (f : α → α) (l : List α) (j : Nat) : List α := (l.take j).map f ++ l.drop j
theorem half_zero {α : Type} (f : α → α) (l : List α) : half f l 0 = l := by simp [half]
theorem half_all {α : Type} (f : α → α) (l : List α) : half f l l.length = l.map f := by simp [half]
theorem half_at {α : Type} (f : α → α) (l : List α) {j : Nat} (h : j < l.length) : (half f l j)[j]? = some l[j] := by
 unfold half
 rw [List.getElem?_append_right (by rw [List.length_map, List.length_take]; omega), List.length_map, List.length_take, Nat.min_eq_left (by omega), Nat.sub_self, List.getElem?_drop, Nat.add_zero, List.getElem?_eq_getElem h]
theorem half_set {α : Type} (f : α → α) (l : List α) {j : Nat} (h : j < l.length) : (half f l j).set j (f l[j]) = half f l (j + 1) := by
 unfold half
 have e : ((l.take j).map f).length = j := by rw [List.length_map, List.length_take]; omega
 rw [List.set_append_right _ _ (by omega), e, Nat.sub_self, List.drop_eq_getElem_cons h, zqg, List.take_add_one, List.getElem?_eq_getElem h, List.map_append]
 simp
theorem Graph.reach_kids (g : Tre.Graph) {a : Nat} (ha : a ∈ g.reachL) : ∀ b ∈ g.kids a, b ∈ g.reachL := by
 unfold Graph.reachL at ha ⊢
 by_cases h : g.checkC = 0
 ·rw [if_pos h] at ha ⊢
  have og := Graph.ok_of h
  exact (g.dfs_spec og _ [g.root.toNat] [] (Nat.le_refl _) (by simp) (by simp) (fun a ha => by simp at ha; rw [ha]; exact og.root1) (by simp)).2.2.1 a ha
 ·rw [if_neg h] at ha; simp at ha
theorem Graph.reach_ok {g : Tre.Graph} {a : Nat} (ha : a ∈ g.reachL) : g.Ok := by
 unfold Graph.reachL at ha
 by_cases h : g.checkC = 0
 ·exact Graph.ok_of h
 ·rw [if_neg h] at ha; simp at ha
end Go.Tre
namespace Go.Tre
def setMap (L : List Nat) (k : Nat) : Nat → Option Unit := fun x => if x ∈ L.take k then some () else none
theorem Graph.reach_head {g : Tre.Graph} (h : g.checkC = 0) : g.reachL[0]? = some g.root.toNat := by
 have og := Graph.ok_of h
 unfold Graph.reachL
 rw [if_pos h, Graph.dfs_take (by simp) og.root1, List.append_nil, List.nil_append]
 obtain ⟨_, _, _, ⟨t, ht⟩, _⟩ := g.dfs_spec og _ (g.kids g.root.toNat) [g.root.toNat] (Nat.le_refl _) (by simp) (fun a ha => by simp at ha; rw [ha]; exact og.root1) (og.kids_lt og.root1) (fun a ha b hb => by simp at ha; subst ha; exact .inr hb)
 rw [ht]; rfl
theorem alike_refl (x : Tre.Node) : alikeB x x = true := by simp [alikeB]
theorem alike_symm {x y : Tre.Node} (h : alikeB x y = true) : alikeB y x = true := by
 unfold alikeB at *
 simp only [Bool.and_eq_true, decide_eq_true_eq] at *
 obtain ⟨⟨⟨⟨h1, h2⟩, h3⟩, h4⟩, h5⟩ := h
 exact ⟨⟨⟨⟨h1.symm, h2.symm⟩, h3.symm⟩, h4.symm⟩, h5.symm⟩
theorem alike_trans {x y z : Tre.Node} (h : alikeB x y = true) (k : alikeB y z = true) : alikeB x z = true := by
 unfold alikeB at *
 simp only [Bool.and_eq_true, decide_eq_true_eq] at *
 obtain ⟨⟨⟨⟨h1, h2⟩, h3⟩, h4⟩, h5⟩ := h
 obtain ⟨⟨⟨⟨k1, k2⟩, k3⟩, k4⟩, k5⟩ := k
 exact ⟨⟨⟨⟨h1.trans k1, h2.trans k2⟩, h3.trans k3⟩, h4.trans k4⟩, h5.trans k5⟩
theorem RP.symm {g h : Tre.Graph} {a b : Nat} (r : RP g h a b) : RP h g b a := by
 induction r with
 | root => exact .root
 | kid _ h1 h2 ih => exact .kid ih h2 h1
theorem SameG.symm {g h : Tre.Graph} (s : SameG g h) : SameG h g :=
 ⟨s.okh, s.okg, fun a b r => alike_symm (s.alike b a r.symm), fun a b a' b' r r' hf => (s.one b a b' a' r.symm r'.symm (by rw [alike_free (s.alike b a r.symm)]; exact hf)).symm⟩
theorem RP.refl_eq {g : Tre.Graph} {a b : Nat} (r : RP g g a b) : a = b := by
 induction r with
 | root => rfl
 | kid _ _ _ ih => rw [ih]
theorem SameG.refl {g : Tre.Graph} (h : g.checkC = 0) : SameG g g :=
 ⟨h, h, fun a b r => by rw [r.refl_eq]; exact alike_refl _, fun a b a' b' r r' _ => by rw [r.refl_eq, r'.refl_eq]⟩
theorem RP.comp {g h k : Tre.Graph} (s : SameG g h) (_t : SameG h k) {a c : Nat} (r : RP g k a c) : ∃ b, RP g h a b ∧ RP h k b c := by
 induction r with
 | root => exact ⟨_, .root, .root⟩
 | kid _ h1 h2 ih =>
  obtain ⟨b, r1, r2⟩ := ih
  have e1 := alike_deg (s.alike _ _ r1)
  refine ⟨h.kid b _, .kid r1 h1 ?_, .kid r2 ?_ h2⟩ <;> (unfold Graph.deg at *; omega)
theorem SameG.trans {g h k : Tre.Graph} (s : SameG g h) (t : SameG h k) : SameG g k := by
 refine ⟨s.okg, t.okh, fun a c r => ?_, fun a c a' c' r r' hf => ?_⟩
 ·obtain ⟨b, r1, r2⟩ := r.comp s t
  exact alike_trans (s.alike _ _ r1) (t.alike _ _ r2)
 ·obtain ⟨b, r1, r2⟩ := r.comp s t
  obtain ⟨b', r1', r2'⟩ := r'.comp s t
  exact (s.one _ _ _ _ r1 r1' hf).trans (t.one _ _ _ _ r2 r2' (by rw [← alike_free (s.alike _ _ r1)]; exact hf))
end Go.Tre
namespace Go.Tre
def starB : ByteArray := ⟨#[42]⟩
def varN : Tre.Node := ⟨1, ByteArray.empty, [], [], false⟩
def starN (a b : Int) : Tre.Node := ⟨2, starB, [a, b], [], false⟩
theorem mayB_var (k : Nat) : mayB varN k = true := by simp [mayB, varN]
theorem check_mk {g : Tre.Graph} (hl : g.ns.length ≤ 1048576) (h0 : 0 ≤ g.root) (h1 : g.root < g.ns.length) (hm : ∀ n ∈ g.ns, mayB n g.ns.length = true) : g.checkC = 0 := by
 unfold Graph.checkC
 rw [if_neg (by omega), if_neg]
 rintro (h | h | h)
 ·omega
 ·omega
 ·obtain ⟨n, hn, e⟩ := List.any_eq_true.1 h
  rw [hm n hn] at e
  cases e
def oneG (g : Tre.Graph) : Tre.Graph := ⟨g.ns ++ [varN, starN g.ns.length g.ns.length], g.ns.length + 1⟩
def twoG (g : Tre.Graph) : Tre.Graph := ⟨g.ns ++ [varN, varN, starN g.ns.length (g.ns.length + 1)], g.ns.length + 2⟩
end Go.Tre
namespace Go.Tre
theorem sum_const {α : Type} (c : Nat) : ∀ L : List α, (L.map fun _ => c).sum = L.length * c
 | [] => by simp
 | _ :: r => by simp only [List.map_cons, List.sum_cons, List.length_cons, sum_const c r, Nat.add_mul]; omega
theorem len_weight (g : Tre.Graph) : g.ns.length ≤ g.weight := length_le_sum _ (fun n => by unfold Tre.Node.weight; omega) g.ns
end Go.Tre
namespace Go.Tre
theorem sum_mem (f : Nat → Nat) (n : Nat) : ∀ L : List Nat, L.Nodup → (∀ a ∈ L, a < n) → (L.map f).sum = ((List.range n).map fun i => if i ∈ L then f i else 0).sum
 | [], _, _ => by
  have := sum_const (α := Nat) 0 (List.range n)
  simp only [List.map_nil, List.sum_nil, List.not_mem_nil, if_false]
  omega
 | a :: L, hn, hl => by
  have h1 := List.nodup_cons.1 hn
  have ih := sum_mem f n L h1.2 (fun b hb => hl b (by simp [hb]))
  have := sum_upd (fun i => if i ∈ a :: L then f i else 0) (fun i => if i ∈ L then f i else 0) a (List.range n) List.nodup_range (List.mem_range.2 (hl a (by simp))) (fun q hq => by
   have : (q ∈ a :: L) = (q ∈ L) := by simp [hq]
   simp only [this])
  simp only [List.mem_cons, true_or, if_true, if_neg h1.1, Nat.add_zero] at this
  simp only [List.map_cons, List.sum_cons, List.mem_cons]
  omega
theorem sum_le_all (f : Nat → Nat) {n : Nat} {L : List Nat} (hn : L.Nodup) (hl : ∀ a ∈ L, a < n) : (L.map f).sum ≤ ((List.range n).map f).sum := by
 rw [sum_mem f n L hn hl]
 generalize List.range n = R
 induction R with
 | nil => simp
 | cons x R ih =>
  simp only [List.map_cons, List.sum_cons]
  split <;> omega
theorem nodup_len {n : Nat} {L : List Nat} (hn : L.Nodup) (hl : ∀ a ∈ L, a < n) : L.length ≤ n := by
 have h := sum_le_all (fun _ => 1) hn hl
 rw [sum_const, sum_const, List.length_range] at h
 omega
theorem Graph.weight_range (g : Tre.Graph) : g.weight = ((List.range g.ns.length).map fun i => (g.nd i).weight).sum := by
 unfold Graph.weight
 congr 1
 apply List.ext_getElem
 ·simp
 ·intro i h1 h2
  have hi : i < g.ns.length := by simpa using h1
  simp [Graph.nd_eq hi]
theorem trimNode_weight (L : List Nat) (n : Tre.Node) : (trimNode L n).weight = n.weight := by unfold Node.weight trimNode; simp
theorem Graph.trim_weight (g : Tre.Graph) : g.trim.weight ≤ g.weight := by
 have e : g.trim.weight = (g.reachL.map fun i => (g.nd i).weight).sum := by
  unfold Graph.weight Graph.trim
  simp only [List.map_map]
  congr 1
  apply List.map_congr_left
  intro i _
  exact trimNode_weight _ _
 rw [e, g.weight_range]
 exact sum_le_all _ g.reach_nodup g.reach_lt
theorem mem_root {g : Tre.Graph} (h : g.checkC = 0) : g.root.toNat ∈ g.reachL := List.mem_of_getElem? (Graph.reach_head h)
end Go.Tre
