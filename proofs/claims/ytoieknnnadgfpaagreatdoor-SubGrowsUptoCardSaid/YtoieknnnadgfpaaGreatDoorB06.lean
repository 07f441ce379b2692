/- Layer 13: plain. What is marked, fixed, generic; the fresh copy. Layer 13: the laws, plain. Layer 9, plain: how nodes look; classes, refined; what a class that is refined no more tells. How many pairs there are; how long a graph is. What is trimmed is the same type, and trimmed again it is itself: plain. Layers 9, 11, plain: graphs onto graphs; the least graph; a fresh copy's. -/
import Derived.Test.YtoieknnnadgfpaaGreatDoorB05
import Derived.Lib.ItoaMem
import Derived.Test.YtoieknnnadgfpaaGreatDoorB03
set_option linter.unusedVariables false
namespace Go.Tre
inductive Rch (g : Tre.Graph) (a : Nat) : Nat → Prop where
 | refl : Rch g a a
 | step {b c : Nat} : Rch g a b → c ∈ g.kids b → Rch g a c
theorem Rch.trans {g : Tre.Graph} {a b c : Nat} (h : Rch g a b) (k : Rch g b c) : Rch g a c := by
 induction k with
 | refl => exact h
 | step _ hc ih => exact ih.step hc
theorem Rch.head {g : Tre.Graph} {a b c : Nat} (h : b ∈ g.kids a) (k : Rch g b c) : Rch g a c := (Rch.refl.step h).trans k
theorem Rch.lt {g : Tre.Graph} (og : g.Ok) {a b : Nat} (h : Rch g a b) (ha : a < g.ns.length) : b < g.ns.length := by
 induction h with
 | refl => exact ha
 | step _ hc ih => exact og.kids_lt ih _ hc
theorem Graph.dfs_within {g : Tre.Graph} (og : g.Ok) (C : Nat → Prop) (hC : ∀ a, C a → ∀ b ∈ g.kids a, C b) : ∀ (k : Nat) (s out : List Nat), g.budget out + s.length ≤ k → (∀ a ∈ s, a < g.ns.length) → (∀ a ∈ s, C a) → (∀ a ∈ out, C a) → ∀ a ∈ g.dfs s out, C a := by
 intro k
 induction k with
 | zero =>
  intro s out hk _ _ h3
  have : s = [] := List.length_eq_zero_iff.1 (by omega)
  subst this
  rw [g.dfs_nil]; exact h3
 | succ k ih =>
  intro s out hk h1 h2 h3
  cases s with
  | nil => rw [g.dfs_nil]; exact h3
  | cons a s =>
   have hal := h1 a (by simp)
   by_cases hm : a ∈ out
   ·rw [Graph.dfs_skip hm]; exact ih s out (by simp at hk; omega) (fun b hb => h1 b (by simp [hb])) (fun b hb => h2 b (by simp [hb])) h3
   ·rw [Graph.dfs_take hm hal]
    have hb := Graph.budget_step hal hm
    refine ih (g.kids a ++ s) (out ++ [a]) (by simp only [List.length_append, List.length_cons, g.kids_len] at hk ⊢; omega) (fun b hb => ?_) (fun b hb => ?_) (fun b hb => ?_)
    ·rcases List.mem_append.1 hb with hb | hb
     ·exact og.kids_lt hal b hb
     ·exact h1 b (by simp [hb])
    ·rcases List.mem_append.1 hb with hb | hb
     ·exact hC a (h2 a (by simp)) b hb
     ·exact h2 b (by simp [hb])
    ·rcases List.mem_append.1 hb with hb | hb
     ·exact h3 b hb
     ·simp at hb; rw [hb]; exact h2 a (by simp)
theorem Graph.mem_dfs {g : Tre.Graph} (og : g.Ok) {l : List Nat} (hl : ∀ a ∈ l, a < g.ns.length) {a : Nat} : a ∈ g.dfs l [] ↔ ∃ m ∈ l, Rch g m a := by
 constructor
 ·intro h
  exact Graph.dfs_within og (fun a => ∃ m ∈ l, Rch g m a) (fun a ⟨m, hm, r⟩ b hb => ⟨m, hm, r.step hb⟩) _ l [] (Nat.le_refl _) hl (fun a ha => ⟨a, ha, .refl⟩) (by simp) a h
 ·rintro ⟨m, hm, r⟩
  obtain ⟨_, _, r3, _, r5⟩ := g.dfs_spec og _ l [] (Nat.le_refl _) (by simp) (by simp) hl (by simp)
  induction r with
  | refl => exact r5 m hm
  | step _ hc ih => exact r3 _ ih _ hc
theorem Graph.mem_reach {g : Tre.Graph} (h : g.checkC = 0) {a : Nat} : a ∈ g.reachL ↔ Rch g g.root.toNat a := by
 have og := Graph.ok_of h
 unfold Graph.reachL
 rw [if_pos h, Graph.mem_dfs og (fun a ha => by simp at ha; rw [ha]; exact og.root1)]
 simp
def Graph.markB (g : Tre.Graph) (l : List Nat) (i : Nat) : Bool := decide (i ∈ g.dfs l [])
def Graph.fixedL (g : Tre.Graph) (mono : List Nat) : List Nat := (List.range g.ns.length).filter fun i => freeB (g.nd i) && g.markB mono i
def Graph.genericL (g : Tre.Graph) (mono : List Nat) : List Nat := (List.range g.ns.length).filter fun i => freeB (g.nd i) && (!g.markB mono i && g.markB [g.root.toNat] i)
def Graph.leadB (g : Tre.Graph) (gen : List Nat) (i : Nat) : Bool := gen.any fun k => decide (k ∈ g.dfs [i] [])
def Graph.copiesL (g : Tre.Graph) (mono : List Nat) : List Nat := g.reachL.filter (g.leadB (g.genericL mono))
def nowF (n : Nat) (C : List Nat) (x : Nat) : Nat := if x ∈ C then n + C.idxOf x else x
def copyN (n : Nat) (C : List Nat) (x : Tre.Node) : Tre.Node := { x with args := x.args.map fun a => ((nowF n C a.toNat : Nat) : Int) }
def Graph.freshG (g : Tre.Graph) (mono : List Nat) : Tre.Graph := ⟨g.ns ++ (g.copiesL mono).map fun i => copyN g.ns.length (g.copiesL mono) (g.nd i), ((nowF g.ns.length (g.copiesL mono) g.root.toNat : Nat) : Int)⟩
section
variable {g : Tre.Graph} {mono : List Nat}
end
end Go.Tre
namespace Go.Tre
section
variable {g : Tre.Graph} {mono : List Nat}
/-! with more monos -/
/-! without monos; with the root -/
theorem free_of_reach (h : g.checkC = 0) {i : Nat} : i ∈ g.freeL ↔ Rch g g.root.toNat i ∧ freeB (g.nd i) = true := by
 unfold Graph.freeL
 rw [List.mem_filter, Graph.mem_reach h]
/-! a type beside its copy -/
def besideG (g f : Tre.Graph) : Tre.Graph := ⟨f.ns ++ [starN g.root f.root], f.ns.length⟩
end
end Go.Tre
namespace Go.Tre
open Go.Lib (decDigits itoa)

/-! numerals -/
def digit (c : UInt8) : Prop := 48 ≤ c.toNat ∧ c.toNat ≤ 57
def valD (l : List UInt8) : Nat := l.foldl (fun a c => 10 * a + (c.toNat - 48)) 0
theorem dec_digit (u : Nat) : ∀ c ∈ decDigits u, digit c := by
 induction u using Nat.strongRecOn with
 | _ u ih =>
  rw [decDigits]
  split
  ·intro c hc
   rw [List.mem_singleton] at hc; subst hc
   have : (UInt8.ofNat (48 + u)).toNat = 48 + u := by rw [UInt8.toNat_ofNat']; omega
   unfold digit; omega
  ·intro c hc
   rcases List.mem_append.1 hc with hc | hc
   ·exact ih (u / 10) (by omega) c hc
   ·rw [List.mem_singleton] at hc; subst hc
    have : (UInt8.ofNat (48 + u % 10)).toNat = 48 + u % 10 := by rw [UInt8.toNat_ofNat']; omega
    unfold digit; omega
theorem dec_val (u : Nat) : valD (decDigits u) = u := by
 induction u using Nat.strongRecOn with
 | _ u ih =>
  rw [decDigits]
  split
  ·have : (UInt8.ofNat (48 + u)).toNat = 48 + u := by rw [UInt8.toNat_ofNat']; omega
   show 10 * 0 + ((UInt8.ofNat (48 + u)).toNat - 48) = u
   omega
  ·have : (UInt8.ofNat (48 + u % 10)).toNat = 48 + u % 10 := by rw [UInt8.toNat_ofNat']; omega
   have h := ih (u / 10) (by omega)
   unfold valD at h ⊢
   rw [List.foldl_append, h]
   show 10 * (u / 10) + ((UInt8.ofNat (48 + u % 10)).toNat - 48) = u
   omega
theorem dec_inj {a b : Nat} (h : decDigits a = decDigits b) : a = b := by rw [← dec_val a, ← dec_val b, h]
/-! two texts that are the same have the same beginnings, up to a byte that ends them -/
def begins (p : UInt8 → Prop) (l : List UInt8) : Prop := ∀ c, l.head? = some c → p c
theorem begins_nil (p : UInt8 → Prop) : begins p [] := fun _ h => by cases h
theorem begins_cons {p : UInt8 → Prop} {c : UInt8} {l : List UInt8} (h : p c) : begins p (c :: l) := fun d hd => by cases hd; exact h
theorem app_split {p : UInt8 → Prop} : ∀ {xs ys r s : List UInt8}, (∀ c ∈ xs, ¬ p c) → (∀ c ∈ ys, ¬ p c) → begins p r → begins p s → xs ++ r = ys ++ s → xs = ys ∧ r = s
 | [], [], _, _, _, _, _, _, h => ⟨rfl, h⟩
 | [], y :: ys, r, s, _, h2, h3, _, h => by
  cases r with
  | nil => cases h
  | cons c r => cases h; exact absurd (h3 _ rfl) (h2 _ (by simp))
 | x :: xs, [], r, s, h1, _, _, h4, h => by
  cases s with
  | nil => cases h
  | cons c s => cases h; exact absurd (h4 _ rfl) (h1 _ (by simp))
 | x :: xs, y :: ys, r, s, h1, h2, h3, h4, h => by
  rw [List.cons_append, List.cons_append, List.cons.injEq] at h
  obtain ⟨e1, e2⟩ := app_split (fun c hc => h1 c (by simp [hc])) (fun c hc => h2 c (by simp [hc])) h3 h4 h.2
  exact ⟨by rw [h.1, e1], e2⟩
theorem flat_split {p : UInt8 → Prop} {x : UInt8} (hx : ¬ p x) : ∀ {ls ms : List (List UInt8)} {r s : List UInt8}, (∀ l ∈ ls, ∀ c ∈ l, ¬ p c ∧ c ≠ x) → (∀ l ∈ ms, ∀ c ∈ l, ¬ p c ∧ c ≠ x) → begins p r → begins p s →
  ls.flatMap (fun l => x :: l) ++ r = ms.flatMap (fun l => x :: l) ++ s → ls = ms ∧ r = s
 | [], [], _, _, _, _, _, _, h => ⟨rfl, h⟩
 | [], m :: ms, r, s, _, _, h3, _, h => by
  cases r with
  | nil => cases h
  | cons c r => cases h; exact absurd (h3 _ rfl) hx
 | l :: ls, [], r, s, _, _, _, h4, h => by
  cases s with
  | nil => cases h
  | cons c s => cases h; exact absurd (h4 _ rfl) hx
 | l :: ls, m :: ms, r, s, h1, h2, h3, h4, h => by
  simp only [List.flatMap_cons, List.append_assoc, List.cons_append, List.cons.injEq, true_and] at h
  have tail : ∀ (q : List (List UInt8)) (t : List UInt8), begins p t → begins (fun c => p c ∨ c = x) (q.flatMap (fun l => x :: l) ++ t) := fun q t ht => by
   cases q with
   | nil => exact fun c hc => .inl (ht c hc)
   | cons a q => exact begins_cons (.inr rfl)
  obtain ⟨e1, e2⟩ := app_split (p := fun c => p c ∨ c = x) (fun c hc => fun e => e.elim (h1 l (by simp) c hc).1 (h1 l (by simp) c hc).2) (fun c hc => fun e => e.elim (h2 m (by simp) c hc).1 (h2 m (by simp) c hc).2) (tail ls r h3) (tail ms s h4) h
  obtain ⟨e3, e4⟩ := flat_split hx (fun l hl => h1 l (by simp [hl])) (fun l hl => h2 l (by simp [hl])) h3 h4 e2
  exact ⟨by rw [e1, e3], e4⟩

/-! how nodes look -/
def freeC (n : Tre.Node) : Bool := decide (n.kind = 1) || n.isOpen
def lookL (n : Tre.Node) (cl : Nat → Nat) : List UInt8 :=
 itoa n.kind ++ n.name.data.toList ++ (n.labels.map fun l => l.data.toList).flatMap (fun l => 32 :: l) ++ (n.args.map fun a => decDigits (cl a.toNat)).flatMap (fun l => 44 :: l)
def Graph.keyL (g : Tre.Graph) (cl : Nat → Nat) (i : Nat) : List UInt8 :=
 decDigits (cl i) ++ 58 :: ((if freeC (g.nd i) then 35 :: decDigits i else []) ++ lookL (g.nd i) cl)

theorem word_bytes : ∀ (l : List UInt8) (b : Bool), wordFrom b l = l.length → ∀ c ∈ l, c ≠ 32 ∧ c ≠ 44
 | [], _, _ => by simp
 | x :: r, b, h => by
  unfold wordFrom at h
  by_cases hg : goesB x.toNat b = true
  ·rw [if_pos hg] at h
   have ih := word_bytes r false (by simp at h; omega)
   intro c hc
   rcases List.mem_cons.1 hc with rfl | hc
   ·constructor <;> (rintro rfl; revert hg; cases b <;> decide)
   ·exact ih c hc
  ·rw [if_neg hg] at h; simp at h
theorem name_bytes {s : ByteArray} (h : isName s = true) : ∀ c ∈ s.data.toList, c ≠ 32 ∧ c ≠ 44 := by
 unfold isName at h
 simp only [Bool.and_eq_true, decide_eq_true_iff] at h
 have hw := h.1.2
 unfold wordLen at hw
 exact word_bytes _ true (by rw [hw]; simp)
theorem arity_bytes {s : ByteArray} {k : Int} (h : arity s = some k) : ∀ c ∈ s.data.toList, c ≠ 32 ∧ c ≠ 44 := by
 unfold arity upd at h
 split at h
 ·subst s; decide
 split at h
 ·subst s; decide
 split at h
 ·subst s; decide
 split at h
 ·subst s; decide
 split at h
 ·subst s; decide
 split at h
 ·subst s; decide
 ·cases h
theorem rising_names {l : List ByteArray} (h : rising l = true) : ∀ s ∈ l, isName s = true := by
 intro s hs
 obtain ⟨i, hi, rfl⟩ := List.getElem_of_mem hs
 unfold rising at h
 have := (List.all_eq_true.1 h) i (List.mem_range.2 hi)
 unfold labelOk at this
 rw [Bool.and_eq_true] at this
 have h1 := this.1
 rwa [List.getD_eq_getElem?_getD, List.getElem?_eq_getElem hi] at h1
structure Words (n : Tre.Node) : Prop where
 kind : n.kind = 1 ∨ n.kind = 2 ∨ n.kind = 3
 name : ∀ c ∈ n.name.data.toList, c ≠ 32 ∧ c ≠ 44
 labels : ∀ l ∈ n.labels, ∀ c ∈ l.data.toList, c ≠ 32 ∧ c ≠ 44
 free : freeC n = true → n.name.data.toList = []
 openOf : freeC n = freeB n
theorem words_of {n : Tre.Node} {size : Nat} (h : mayB n size = true) : Words n := by
 unfold mayB at h
 rw [Bool.and_eq_true] at h
 have h := h.2
 by_cases k1 : n.kind = 1
 ·rw [if_pos k1] at h
  simp only [Bool.and_eq_true, decide_eq_true_iff, Bool.not_eq_true'] at h
  have hn : n.name.data.toList = [] := List.eq_nil_of_length_eq_zero (by simpa using h.1.2)
  have hl : n.labels = [] := List.eq_nil_of_length_eq_zero h.1.1.1
  exact ⟨.inl k1, by rw [hn]; simp, by rw [hl]; simp, fun _ => hn, by simp [freeC, freeB, k1]⟩
 rw [if_neg k1] at h
 by_cases k2 : n.kind = 2
 ·rw [if_pos k2] at h
  simp only [Bool.and_eq_true, decide_eq_true_iff, Bool.not_eq_true'] at h
  have hl : n.labels = [] := List.eq_nil_of_length_eq_zero h.1.1
  refine ⟨.inr (.inl k2), ?_, by rw [hl]; simp, fun e => ?_, by simp [freeC, freeB, k2, h.1.2]⟩
  ·cases ha : arity n.name with
   | none => rw [ha] at h; simp at h
   | some k => exact arity_bytes ha
  ·unfold freeC at e
   rw [h.1.2, k2] at e
   simp at e
 rw [if_neg k2] at h
 by_cases k3 : n.kind = 3
 ·rw [if_pos k3] at h
  simp only [Bool.and_eq_true, decide_eq_true_iff] at h
  have hn : n.name.data.toList = [] := List.eq_nil_of_length_eq_zero (by simpa using h.1.1)
  exact ⟨.inr (.inr k3), by rw [hn]; simp, fun l hl => name_bytes (rising_names h.2 l hl), fun _ => hn, by simp [freeC, freeB, k3]⟩
 ·rw [if_neg k3] at h; cases h
theorem itoa_kind {k : Int} (h : k = 1 ∨ k = 2 ∨ k = 3) : itoa k = [UInt8.ofNat (48 + k.toNat)] := by
 rcases h with rfl | rfl | rfl
 ·exact Go.Lib.decDigits_one (i := 1) (by decide)
 ·exact Go.Lib.decDigits_one (i := 2) (by decide)
 ·exact Go.Lib.decDigits_one (i := 3) (by decide)
theorem digit_ne {c : UInt8} (h : digit c) : c ≠ 32 ∧ c ≠ 44 ∧ c ≠ 58 ∧ c ≠ 35 := by
 unfold digit at h
 refine ⟨?_, ?_, ?_, ?_⟩ <;> (rintro rfl; revert h; decide)
theorem kind_digit {k : Int} (h : k = 1 ∨ k = 2 ∨ k = 3) : digit (UInt8.ofNat (48 + k.toNat)) := by
 rcases h with rfl | rfl | rfl <;> exact ⟨by decide, by decide⟩
theorem kind_inj {k m : Int} (h : k = 1 ∨ k = 2 ∨ k = 3) (h' : m = 1 ∨ m = 2 ∨ m = 3) (e : UInt8.ofNat (48 + k.toNat) = UInt8.ofNat (48 + m.toNat)) : k = m := by
 rcases h with rfl | rfl | rfl <;> rcases h' with rfl | rfl | rfl <;> first | rfl | (revert e; decide)

def endB (c : UInt8) : Prop := c = 32 ∨ c = 44
def tailL (n : Tre.Node) (cl : Nat → Nat) : List UInt8 := (n.labels.map fun l => l.data.toList).flatMap (fun l => 32 :: l) ++ (n.args.map fun a => decDigits (cl a.toNat)).flatMap (fun l => 44 :: l)
theorem tail_begins (n : Tre.Node) (cl : Nat → Nat) : begins endB (tailL n cl) := by
 unfold tailL
 cases n.labels with
 | nil =>
  cases n.args with
  | nil => exact begins_nil _
  | cons a q => exact begins_cons (.inr rfl)
 | cons l q => exact begins_cons (.inl rfl)
theorem data_inj {a b : ByteArray} (h : a.data.toList = b.data.toList) : a = b := by
 cases a; cases b
 simp only [ByteArray.mk.injEq]
 exact Array.toList_inj.1 h
theorem map_inj {α β : Type} {f : α → β} (hf : ∀ a b, f a = f b → a = b) : ∀ {l m : List α}, l.map f = m.map f → l = m
 | [], [], _ => rfl
 | [], _ :: _, h => by cases h
 | _ :: _, [], h => by cases h
 | a :: l, b :: m, h => by
  rw [List.map_cons, List.map_cons, List.cons.injEq] at h
  rw [hf _ _ h.1, map_inj hf h.2]
theorem tail_inj {n m : Tre.Node} {cl : Nat → Nat} (hn : Words n) (hm : Words m) (h : tailL n cl = tailL m cl) : n.labels = m.labels ∧ n.args.map (fun a => cl a.toNat) = m.args.map (fun a => cl a.toNat) := by
 have hb : ∀ q : List Int, begins (fun c => c = 44) ((q.map fun a => decDigits (cl a.toNat)).flatMap (fun l => 44 :: l)) := fun q => by
  cases q with
  | nil => exact begins_nil _
  | cons a q => exact begins_cons rfl
 have hs : ∀ k : Tre.Node, Words k → ∀ l ∈ k.labels.map (fun l => l.data.toList), ∀ c ∈ l, ¬ c = 44 ∧ c ≠ 32 := fun k hk l hl c hc => by
  obtain ⟨s, h1, rfl⟩ := List.mem_map.1 hl
  have := hk.labels s h1 c hc
  exact ⟨this.2, this.1⟩
 obtain ⟨e1, e2⟩ := flat_split (p := fun c => c = 44) (x := 32) (by decide) (hs n hn) (hs m hm) (hb n.args) (hb m.args) h
 have hd : ∀ q : List Int, ∀ l ∈ q.map (fun a => decDigits (cl a.toNat)), ∀ c ∈ l, ¬ False ∧ c ≠ 44 := fun q l hl c hc => by
  obtain ⟨s, _, rfl⟩ := List.mem_map.1 hl
  exact ⟨not_false, (digit_ne (dec_digit _ c hc)).2.1⟩
 obtain ⟨e3, _⟩ := flat_split (p := fun _ => False) (x := 44) (r := []) (s := []) not_false (hd n.args) (hd m.args) (begins_nil _) (begins_nil _) (by rw [List.append_nil, List.append_nil]; exact e2)
 refine ⟨map_inj (fun _ _ => data_inj) e1, ?_⟩
 have e4 : (n.args.map (fun a => cl a.toNat)).map decDigits = (m.args.map (fun a => cl a.toNat)).map decDigits := by rw [List.map_map, List.map_map]; exact e3
 exact map_inj (fun _ _ => dec_inj) e4
theorem key_class {g : Tre.Graph} {cl : Nat → Nat} {i j : Nat} (h : g.keyL cl i = g.keyL cl j) : cl i = cl j ∧ (if freeC (g.nd i) then 35 :: decDigits i else []) ++ lookL (g.nd i) cl = (if freeC (g.nd j) then 35 :: decDigits j else []) ++ lookL (g.nd j) cl := by
 unfold Graph.keyL at h
 obtain ⟨e1, e2⟩ := app_split (p := fun c => c = 58) (fun c hc => (digit_ne (dec_digit _ c hc)).2.2.1) (fun c hc => (digit_ne (dec_digit _ c hc)).2.2.1) (begins_cons rfl) (begins_cons rfl) h
 exact ⟨dec_inj e1, by rw [List.cons.injEq] at e2; exact e2.2⟩
theorem look_tail (n : Tre.Node) (cl : Nat → Nat) (h : n.kind = 1 ∨ n.kind = 2 ∨ n.kind = 3) : lookL n cl = (UInt8.ofNat (48 + n.kind.toNat) :: n.name.data.toList) ++ tailL n cl := by
 unfold lookL tailL
 rw [itoa_kind h]
 simp [List.append_assoc]
theorem key_inj {g : Tre.Graph} (og : g.Ok) {cl : Nat → Nat} {i j : Nat} (hi : i < g.ns.length) (hj : j < g.ns.length) (h : g.keyL cl i = g.keyL cl j) :
  cl i = cl j ∧ (i = j ∨ (freeC (g.nd i) = false ∧ freeC (g.nd j) = false ∧ (g.nd i).kind = (g.nd j).kind ∧ (g.nd i).name = (g.nd j).name ∧ (g.nd i).labels = (g.nd j).labels ∧ (g.nd i).args.map (fun a => cl a.toNat) = (g.nd j).args.map (fun a => cl a.toNat))) := by
 obtain ⟨h1, h2⟩ := key_class h
 refine ⟨h1, ?_⟩
 have wi := words_of (og.may i hi)
 have wj := words_of (og.may j hj)
 rw [look_tail _ _ wi.kind, look_tail _ _ wj.kind] at h2
 have nodig : ∀ k : Nat, ∀ c ∈ decDigits k, ¬ endB c := fun k c hc e => e.elim (digit_ne (dec_digit _ c hc)).1 (digit_ne (dec_digit _ c hc)).2.1
 have nokind : ∀ n : Tre.Node, Words n → ∀ c ∈ UInt8.ofNat (48 + n.kind.toNat) :: n.name.data.toList, ¬ endB c := fun n hn c hc e => by
  rcases List.mem_cons.1 hc with rfl | hc
  ·exact e.elim (digit_ne (kind_digit hn.kind)).1 (digit_ne (kind_digit hn.kind)).2.1
  ·exact e.elim (hn.name c hc).1 (hn.name c hc).2
 cases fi : freeC (g.nd i)
 ·cases fj : freeC (g.nd j)
  ·right
   rw [fi, fj] at h2
   simp only [Bool.false_eq_true, if_false, List.nil_append] at h2
   obtain ⟨e1, e2⟩ := app_split (nokind _ wi) (nokind _ wj) (tail_begins _ _) (tail_begins _ _) h2
   rw [List.cons.injEq] at e1
   obtain ⟨e3, e4⟩ := tail_inj wi wj e2
   exact ⟨rfl, rfl, kind_inj wi.kind wj.kind e1.1, data_inj e1.2, e3, e4⟩
  ·rw [fi, fj] at h2
   simp only [Bool.false_eq_true, if_false, if_true, List.nil_append, List.cons_append, List.cons.injEq] at h2
   exact absurd h2.1 (digit_ne (kind_digit wi.kind)).2.2.2
 ·cases fj : freeC (g.nd j)
  ·rw [fi, fj] at h2
   simp only [Bool.false_eq_true, if_false, if_true, List.nil_append, List.cons_append, List.cons.injEq] at h2
   exact absurd h2.1.symm (digit_ne (kind_digit wj.kind)).2.2.2
  ·left
   rw [fi, fj, wi.free fi, wj.free fj] at h2
   simp only [if_true, List.cons_append, List.cons.injEq, true_and] at h2
   have e : ∀ (k : Nat) (c : UInt8) (t : List UInt8), decDigits k ++ c :: ([] ++ t) = (decDigits k ++ [c]) ++ t := fun k c t => by simp
   rw [e, e] at h2
   obtain ⟨e1, _⟩ := app_split (p := endB) (fun c hc => by
     rcases List.mem_append.1 hc with hc | hc
     ·exact nodig _ c hc
     ·exact nokind _ wi c (by simp at hc; rw [hc]; simp)) (fun c hc => by
     rcases List.mem_append.1 hc with hc | hc
     ·exact nodig _ c hc
     ·exact nokind _ wj c (by simp at hc; rw [hc]; simp)) (tail_begins _ _) (tail_begins _ _) h2
   exact dec_inj (List.append_inj' e1 rfl).1

/-! classes, refined -/
def Graph.refineC (g : Tre.Graph) (cl : Nat → Nat) (i : Nat) : Nat := ((List.range i).map (g.keyL cl)).idxOf (g.keyL cl i)
section
variable {g : Tre.Graph} {cl : Nat → Nat} {i j : Nat}
theorem refine_le : g.refineC cl i ≤ i := by
 unfold Graph.refineC
 have := List.idxOf_le_length (a := g.keyL cl i) (l := (List.range i).map (g.keyL cl))
 simpa using this
theorem refine_key : g.keyL cl (g.refineC cl i) = g.keyL cl i := by
 by_cases h : g.refineC cl i = i
 ·rw [h]
 ·have hl : g.refineC cl i < i := by have := refine_le (g := g) (cl := cl) (i := i); omega
  have h2 := List.getElem_idxOf (x := g.keyL cl i) (xs := (List.range i).map (g.keyL cl)) (by rw [List.length_map, List.length_range]; exact hl)
  rw [List.getElem_map, List.getElem_range] at h2
  exact h2
theorem refine_first (h : j < g.refineC cl i) : g.keyL cl j ≠ g.keyL cl i := by
 intro e
 have hle := refine_le (g := g) (cl := cl) (i := i)
 have h1 : ((List.range i).map (g.keyL cl))[j]'(by simp; omega) = g.keyL cl i := by rw [List.getElem_map, List.getElem_range]; exact e
 have h2 := List.not_of_lt_findIdx (p := (· == g.keyL cl i)) (xs := (List.range i).map (g.keyL cl)) (i := j) (by unfold Graph.refineC List.idxOf at h; exact h)
 rw [h1] at h2
 simp at h2
theorem refine_iff : g.refineC cl i = g.refineC cl j ↔ g.keyL cl i = g.keyL cl j := by
 constructor
 ·intro h
  rw [← refine_key (i := i), ← refine_key (i := j), h]
 ·intro h
  by_cases h1 : g.refineC cl i < g.refineC cl j
  ·exact absurd (refine_key.trans h) (refine_first h1)
  ·by_cases h2 : g.refineC cl j < g.refineC cl i
   ·exact absurd (refine_key.trans h.symm) (refine_first h2)
   ·omega
end
def Graph.refineL (g : Tre.Graph) (L : List Nat) : List Nat := (List.range g.ns.length).map (g.refineC fun a => L.getD a 0)
def Graph.iterL (g : Tre.Graph) : Nat → List Nat
 | 0 => List.replicate g.ns.length 0
 | k + 1 => g.refineL (g.iterL k)
def Graph.classesL (g : Tre.Graph) : List Nat := g.iterL (g.ns.length * g.ns.length)
section
variable {g : Tre.Graph}
theorem refineL_len (L : List Nat) : (g.refineL L).length = g.ns.length := by simp [Graph.refineL]
theorem iter_len (k : Nat) : (g.iterL k).length = g.ns.length := by
 cases k with
 | zero => simp [Graph.iterL]
 | succ k => exact refineL_len _
theorem refineL_at (L : List Nat) {i : Nat} (h : i < g.ns.length) : (g.refineL L).getD i 0 = g.refineC (fun a => L.getD a 0) i := by
 unfold Graph.refineL
 rw [List.getD_eq_getElem?_getD, List.getElem?_map, List.getElem?_range h]; rfl
theorem iter_low (k : Nat) : ∀ i, i < g.ns.length → (g.iterL k).getD i 0 ≤ i := by
 intro i hi
 cases k with
 | zero => simp [Graph.iterL, List.getD_eq_getElem?_getD, hi]
 | succ k => show (g.refineL _).getD i 0 ≤ i; rw [refineL_at _ hi]; exact refine_le
theorem iter_up (k : Nat) : ∀ i, i < g.ns.length → (g.iterL k).getD i 0 ≤ (g.iterL (k + 1)).getD i 0 := by
 intro i hi
 show _ ≤ (g.refineL _).getD i 0
 rw [refineL_at _ hi]
 have h1 := (key_class (refine_key (g := g) (cl := fun a => (g.iterL k).getD a 0) (i := i))).1
 have h2 := refine_le (g := g) (cl := fun a => (g.iterL k).getD a 0) (i := i)
 have h3 := iter_low (g := g) k (g.refineC (fun a => (g.iterL k).getD a 0) i) (by omega)
 omega
theorem sum_pw : ∀ {L M : List Nat}, L.length = M.length → (∀ i, i < L.length → L.getD i 0 ≤ M.getD i 0) → L.sum ≤ M.sum ∧ (L ≠ M → L.sum < M.sum)
 | [], [], _, _ => ⟨Nat.le_refl _, fun h => absurd rfl h⟩
 | [], _ :: _, h, _ => by cases h
 | _ :: _, [], h, _ => by cases h
 | a :: L, b :: M, h, hp => by
  have h0 : a ≤ b := hp 0 (by simp)
  obtain ⟨i1, i2⟩ := sum_pw (L := L) (M := M) (by simpa using h) (fun i hi => hp (i + 1) (by simp; omega))
  simp only [List.sum_cons]
  refine ⟨by omega, fun hne => ?_⟩
  by_cases e : L = M
  ·have : a ≠ b := fun e' => hne (by rw [e, e'])
   omega
  ·have := i2 e; omega
theorem sum_bound {n : Nat} : ∀ {L : List Nat}, (∀ x ∈ L, x < n) → L.sum + L.length ≤ L.length * n
 | [], _ => by simp
 | a :: L, h => by
  have h0 := h a (by simp)
  have ih := sum_bound (L := L) (fun x hx => h x (by simp [hx]))
  simp only [List.sum_cons, List.length_cons, Nat.succ_mul]
  omega
theorem iter_bound (k : Nat) : (g.iterL k).sum + g.ns.length ≤ g.ns.length * g.ns.length := by
 have := sum_bound (n := g.ns.length) (L := g.iterL k) (fun x hx => by
  obtain ⟨i, hi, rfl⟩ := List.getElem_of_mem hx
  have hi' := hi
  rw [iter_len] at hi'
  have := iter_low k i hi'
  rw [List.getD_eq_getElem?_getD, List.getElem?_eq_getElem hi] at this
  simp at this; omega)
 rwa [iter_len] at this
theorem iter_more {k : Nat} (h : g.refineL (g.iterL k) ≠ g.iterL k) : (g.iterL k).sum < (g.iterL (k + 1)).sum :=
 (sum_pw (by rw [iter_len, iter_len]) (fun i hi => iter_up k i (by rwa [iter_len] at hi))).2 (fun e => h e.symm)
theorem iter_stop {k : Nat} (h : g.refineL (g.iterL k) = g.iterL k) : ∀ m, g.iterL (k + m) = g.iterL k
 | 0 => rfl
 | m + 1 => by show g.refineL (g.iterL (k + m)) = _; rw [iter_stop h m, h]
theorem iter_far : ∀ k, (∀ j, j < k → g.refineL (g.iterL j) ≠ g.iterL j) → k ≤ (g.iterL k).sum
 | 0, _ => Nat.zero_le _
 | k + 1, h => by
  have := iter_far k (fun j hj => h j (by omega))
  have := iter_more (h k (by omega))
  omega
theorem iter_classes {k : Nat} (h : g.refineL (g.iterL k) = g.iterL k) : g.iterL k = g.classesL := by
 unfold Graph.classesL
 by_cases hk : k ≤ g.ns.length * g.ns.length
 ·obtain ⟨m, hm⟩ := Nat.exists_eq_add_of_le hk
  rw [hm, iter_stop h m]
 ·by_cases hex : ∃ j, j < g.ns.length * g.ns.length ∧ g.refineL (g.iterL j) = g.iterL j
  ·obtain ⟨j, hj, he⟩ := hex
   obtain ⟨m, hm⟩ := Nat.exists_eq_add_of_le (Nat.le_of_lt hj)
   obtain ⟨m', hm'⟩ := Nat.exists_eq_add_of_le (show j ≤ k by omega)
   rw [hm, hm', iter_stop he m, iter_stop he m']
  ·have h1 := iter_far (g := g) (g.ns.length * g.ns.length) (fun j hj e => hex ⟨j, hj, e⟩)
   have h2 := iter_bound (g := g) (g.ns.length * g.ns.length)
   have h0 : g.ns.length = 0 := by omega
   have e : ∀ m, g.iterL m = [] := fun m => List.eq_nil_of_length_eq_zero (by rw [iter_len, h0])
   rw [e, e]
theorem classes_stable : g.refineL g.classesL = g.classesL := by
 by_cases hex : ∃ j, g.refineL (g.iterL j) = g.iterL j
 ·obtain ⟨j, he⟩ := hex
  rw [← iter_classes he]; exact he
 ·have h1 := iter_far (g := g) (g.ns.length * g.ns.length + 1) (fun j hj e => hex ⟨j, e⟩)
  have h2 := iter_bound (g := g) (g.ns.length * g.ns.length + 1)
  omega
def Graph.cls (g : Tre.Graph) (a : Nat) : Nat := g.classesL.getD a 0
end
end Go.Tre
namespace Go.Tre
theorem sum_const {α : Type} (c : Nat) : ∀ L : List α, (L.map fun _ => c).sum = L.length * c
 | [] => by simp
 | _ :: r => by simp only [List.map_cons, List.sum_cons, List.length_cons, sum_const c r, Nat.add_mul]; omega
end Go.Tre
namespace Go.Tre
theorem sum_mem (f : Nat → Nat) (n : Nat) : ∀ L : List Nat, L.Nodup → (∀ a ∈ L, a < n) → (L.map f).sum = ((List.range n).map fun i => if i ∈ L then f i else 0).sum
 | [], _, _ => by
  have := sum_const (α := Nat) 0 (List.range n)
  simp only [List.map_nil, List.sum_nil, List.not_mem_nil, if_false]
  omega
 | a :: L, hn, hl => by
  have h1 := List.nodup_cons.1 hn
  have ih := sum_mem f n L h1.2 (fun b hb => hl b (by simp [hb]))
  have := sum_upd (fun i => if i ∈ a :: L then f i else 0) (fun i => if i ∈ L then f i else 0) a (List.range n) List.nodup_range (List.mem_range.2 (hl a (by simp))) (fun q hq => by
   have : (q ∈ a :: L) = (q ∈ L) := by simp [hq]
   simp only [this])
  simp only [List.mem_cons, true_or, if_true, if_neg h1.1, Nat.add_zero] at this
  simp only [List.map_cons, List.sum_cons, List.mem_cons]
  omega
theorem sum_le_all (f : Nat → Nat) {n : Nat} {L : List Nat} (hn : L.Nodup) (hl : ∀ a ∈ L, a < n) : (L.map f).sum ≤ ((List.range n).map f).sum := by
 rw [sum_mem f n L hn hl]
 generalize List.range n = R
 induction R with
 | nil => simp
 | cons x R ih =>
  simp only [List.map_cons, List.sum_cons]
  split <;> omega
theorem nodup_len {n : Nat} {L : List Nat} (hn : L.Nodup) (hl : ∀ a ∈ L, a < n) : L.length ≤ n := by
 have h := sum_le_all (fun _ => 1) hn hl
 rw [sum_const, sum_const, List.length_range] at h
 omega
theorem Graph.weight_range (g : Tre.Graph) : g.weight = ((List.range g.ns.length).map fun i => (g.nd i).weight).sum := by
 unfold Graph.weight
 congr 1
 apply List.ext_getElem
 ·simp
 ·intro i h1 h2
  have hi : i < g.ns.length := by simpa using h1
  simp [Graph.nd_eq hi]
theorem trimNode_weight (L : List Nat) (n : Tre.Node) : (trimNode L n).weight = n.weight := by unfold Node.weight trimNode; simp
theorem Graph.trim_weight (g : Tre.Graph) : g.trim.weight ≤ g.weight := by
 have e : g.trim.weight = (g.reachL.map fun i => (g.nd i).weight).sum := by
  unfold Graph.weight Graph.trim
  simp only [List.map_map]
  congr 1
  apply List.map_congr_left
  intro i _
  exact trimNode_weight _ _
 rw [e, g.weight_range]
 exact sum_le_all _ g.reach_nodup g.reach_lt
theorem trim_len (g : Tre.Graph) : g.trim.ns.length = g.reachL.length := by simp [Graph.trim]
theorem reach_len_le (g : Tre.Graph) : g.reachL.length ≤ g.ns.length := nodup_len g.reach_nodup g.reach_lt
theorem trim_nd {g : Tre.Graph} {a : Nat} (ha : a ∈ g.reachL) : g.trim.nd (g.reachL.idxOf a) = trimNode g.reachL (g.nd a) := by
 have hl := List.idxOf_lt_length_of_mem ha
 rw [Graph.nd_eq (by rw [trim_len]; exact hl)]
 simp only [Graph.trim, List.getElem_map, List.getElem_idxOf]
theorem mem_root {g : Tre.Graph} (h : g.checkC = 0) : g.root.toNat ∈ g.reachL := List.mem_of_getElem? (Graph.reach_head h)
theorem idx_root {g : Tre.Graph} (h : g.checkC = 0) : g.reachL.idxOf g.root.toNat = 0 := by
 have h1 := Graph.reach_head h
 have hl := (List.getElem?_eq_some_iff.1 h1).1
 have := idxOf_nodup g.reach_nodup hl
 rw [List.getElem?_eq_getElem hl] at h1
 rwa [Option.some.inj h1] at this
theorem mayB_trim {g : Tre.Graph} {a : Nat} (ha : a ∈ g.reachL) : mayB (trimNode g.reachL (g.nd a)) g.reachL.length = true := by
 have og := Graph.reach_ok ha
 have h := og.may a (g.reach_lt a ha)
 have hk := g.reach_kids ha
 unfold mayB at *
 simp only [Bool.and_eq_true, Bool.not_eq_true', List.any_eq_false] at *
 refine ⟨fun x hx => ?_, ?_⟩
 ·simp only [trimNode, List.mem_map] at hx
  obtain ⟨y, hy, rfl⟩ := hx
  have hm : y.toNat ∈ g.reachL := hk _ (by unfold Graph.kids; exact List.mem_map.2 ⟨y, hy, rfl⟩)
  have := List.idxOf_lt_length_of_mem hm
  unfold outside placeOf
  simp
  omega
 ·have := h.2
  simpa [trimNode] using this
theorem trim_ok {g : Tre.Graph} (h : g.checkC = 0) : g.trim.checkC = 0 := by
 have og := Graph.ok_of h
 have hr := mem_root h
 have hl := List.idxOf_lt_length_of_mem hr
 refine check_mk ?_ (Int.le_refl 0) ?_ (fun n hn => ?_)
 ·rw [trim_len]; have := reach_len_le g; have := og.len; omega
 ·rw [trim_len]; show (0 : Int) < _; omega
 ·rw [trim_len]
  simp only [Graph.trim, List.mem_map] at hn
  obtain ⟨a, ha, rfl⟩ := hn
  exact mayB_trim ha
theorem idxOf_inj {L : List Nat} {a b : Nat} (ha : a ∈ L) (hb : b ∈ L) (h : L.idxOf a = L.idxOf b) : a = b := by
 have h1 := List.getElem_idxOf (List.idxOf_lt_length_of_mem ha)
 have h2 := List.getElem_idxOf (List.idxOf_lt_length_of_mem hb)
 rw [← h1, ← h2]
 congr 1
theorem kid_mem {g : Tre.Graph} {a i : Nat} (ha : a ∈ g.reachL) (hi : i < g.deg a) : g.kid a i ∈ g.reachL := by
 refine g.reach_kids ha _ ?_
 unfold Graph.kids Graph.kid
 unfold Graph.deg at hi
 rw [List.getD_eq_getElem?_getD, List.getElem?_eq_getElem hi]
 exact List.mem_map.2 ⟨_, List.getElem_mem hi, rfl⟩
theorem trim_rp {g : Tre.Graph} (h : g.checkC = 0) {a b : Nat} (r : RP g g.trim a b) : a ∈ g.reachL ∧ b = g.reachL.idxOf a := by
 induction r with
 | root => exact ⟨mem_root h, (idx_root h).symm⟩
 | kid _ h1 h2 ih =>
  obtain ⟨ha, rfl⟩ := ih
  refine ⟨kid_mem ha h1, ?_⟩
  unfold Graph.kid
  unfold Graph.deg at h1
  rw [trim_nd ha]
  simp only [trimNode, List.getD_eq_getElem?_getD, List.getElem?_map, List.getElem?_eq_getElem h1, zqd, Option.getD_some]
  simp [placeOf]
theorem trim_same {g : Tre.Graph} (h : g.checkC = 0) : SameG g g.trim := by
 refine ⟨h, trim_ok h, fun a b r => ?_, fun a b a' b' r r' _ => ?_⟩
 ·obtain ⟨ha, rfl⟩ := trim_rp h r
  rw [trim_nd ha]
  simp [alikeB, trimNode]
 ·obtain ⟨ha, rfl⟩ := trim_rp h r
  obtain ⟨ha', rfl⟩ := trim_rp h r'
  exact ⟨fun e => by rw [e], idxOf_inj ha ha'⟩
end Go.Tre
namespace Go.Tre

structure Hom (g h : Tre.Graph) (r : Nat → Nat) : Prop where
 root : r g.root.toNat = h.root.toNat
 kind : ∀ a, Rch g g.root.toNat a → (h.nd (r a)).kind = (g.nd a).kind
 name : ∀ a, Rch g g.root.toNat a → (h.nd (r a)).name = (g.nd a).name
 labels : ∀ a, Rch g g.root.toNat a → (h.nd (r a)).labels = (g.nd a).labels
 open_ : ∀ a, Rch g g.root.toNat a → (h.nd (r a)).isOpen = (g.nd a).isOpen
 kids : ∀ a, Rch g g.root.toNat a → h.kids (r a) = (g.kids a).map r
section
variable {g h k : Tre.Graph} {r s : Nat → Nat}
theorem Hom.reach (m : Hom g h r) {a : Nat} (ha : Rch g g.root.toNat a) : Rch h h.root.toNat (r a) := by
 induction ha with
 | refl => rw [m.root]; exact .refl
 | @step b c hb hc ih => exact ih.step (by rw [m.kids _ hb]; exact List.mem_map.2 ⟨_, hc, rfl⟩)
theorem Hom.comp (m : Hom g h r) (n : Hom h k s) : Hom g k (s ∘ r) := by
 refine ⟨?_, fun a ha => ?_, fun a ha => ?_, fun a ha => ?_, fun a ha => ?_, fun a ha => ?_⟩
 ·show s (r _) = _; rw [m.root, n.root]
 ·exact (n.kind _ (m.reach ha)).trans (m.kind _ ha)
 ·exact (n.name _ (m.reach ha)).trans (m.name _ ha)
 ·exact (n.labels _ (m.reach ha)).trans (m.labels _ ha)
 ·exact (n.open_ _ (m.reach ha)).trans (m.open_ _ ha)
 ·show k.kids (s (r a)) = _
  rw [n.kids _ (m.reach ha), m.kids _ ha, List.map_map]
theorem Hom.args (m : Hom g h r) {a : Nat} (ha : Rch g g.root.toNat a) : (h.nd (r a)).args.length = (g.nd a).args.length := by
 have := congrArg List.length (m.kids a ha)
 rw [List.length_map, h.kids_len, g.kids_len] at this
 exact this
theorem kid_kids (g : Tre.Graph) (a i : Nat) : g.kid a i = (g.kids a).getD i 0 := by
 unfold Graph.kid Graph.kids; rw [List.getD_eq_getElem?_getD, List.getD_eq_getElem?_getD, List.getElem?_map]
 cases (g.nd a).args[i]? <;> rfl
theorem kid_of {l : List Nat} {i : Nat} (hi : i < l.length) (f : Nat → Nat) : (l.map f).getD i 0 = f (l.getD i 0) := by
 rw [List.getD_eq_getElem?_getD, List.getD_eq_getElem?_getD, List.getElem?_map, List.getElem?_eq_getElem hi]; rfl
theorem Hom.kid (m : Hom g h r) {a i : Nat} (ha : Rch g g.root.toNat a) (hi : i < g.deg a) : h.kid (r a) i = r (g.kid a i) := by
 rw [kid_kids, kid_kids, m.kids _ ha, kid_of (by rw [g.kids_len]; exact hi)]
theorem Rch.kid {a i : Nat} (ha : Rch g g.root.toNat a) (hi : i < g.deg a) : Rch g g.root.toNat (g.kid a i) := by
 rw [kid_kids]
 have hi' : i < (g.kids a).length := by rw [g.kids_len]; exact hi
 rw [List.getD_eq_getElem?_getD, List.getElem?_eq_getElem hi']
 exact ha.step (List.getElem_mem hi')
theorem Hom.rp (m : Hom g h r) {a b : Nat} (p : RP g h a b) : Rch g g.root.toNat a ∧ b = r a := by
 induction p with
 | root => exact ⟨.refl, m.root.symm⟩
 | kid _ h1 h2 ih =>
  obtain ⟨ha, rfl⟩ := ih
  exact ⟨ha.kid h1, m.kid ha h1⟩
theorem Hom.alike (m : Hom g h r) {a : Nat} (ha : Rch g g.root.toNat a) : alikeB (g.nd a) (h.nd (r a)) = true := by
 unfold alikeB
 rw [m.kind a ha, m.name a ha, m.labels a ha, m.open_ a ha, m.args ha]
 simp
theorem Hom.same (m : Hom g h r) (c0 : g.checkC = 0) (c1 : h.checkC = 0) (inj : ∀ a b, Rch g g.root.toNat a → Rch g g.root.toNat b → freeB (g.nd a) = true → r a = r b → a = b) : SameG g h := by
 refine ⟨c0, c1, fun a b p => ?_, fun a b a' b' p p' hf => ?_⟩
 ·obtain ⟨ha, rfl⟩ := m.rp p
  exact m.alike ha
 ·obtain ⟨ha, rfl⟩ := m.rp p
  obtain ⟨ha', rfl⟩ := m.rp p'
  exact ⟨fun e => by rw [e], fun e => inj _ _ ha ha' hf e⟩
end

/-! a fresh copy -/
section
variable {g : Tre.Graph} {mono : List Nat}
end

/-! the least graph -/
def clsNode (cl : Nat → Nat) (n : Tre.Node) : Tre.Node := { n with args := n.args.map fun a => ((cl a.toNat : Nat) : Int) }
def Graph.quotG (g : Tre.Graph) : Tre.Graph := ⟨g.ns.map (clsNode g.cls), ((g.cls g.root.toNat : Nat) : Int)⟩
def Graph.leastG (g : Tre.Graph) : Tre.Graph := g.quotG.trim
section
variable {g : Tre.Graph}
end
end Go.Tre
