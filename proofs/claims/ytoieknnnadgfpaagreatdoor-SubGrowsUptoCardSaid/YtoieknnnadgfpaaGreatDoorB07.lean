/- Layer 9, plain: the same types have the same least graph; how many nodes it has. A search among labels that rise. Layer 12, plain: which graph may stand for which; it is an order. Layer 12, plain: a type without free nodes; without a label; written twice. Layer 12, plain: going through claims, none of which is asked twice. Steps through a drawn region, by hand: the slot that an operation writes is typed. -/
import Derived.Test.YtoieknnnadgfpaaGreatDoorB06
import Derived.Test.YtoieknnnadgfpaaGreatDoorB01
import Derived.Test.YtoieknnnadgfpaaGreatDoorShelf
import Derived.Sort.Walk0
import Derived.Test.YtoieknnnadgfpaaGreatDoorB05
import Derived.Test.YtoieknnnadgfpaaGreatDoorB03
import Derived.Deep.RegionHeld3
set_option linter.unusedVariables false
namespace Go.Tre
open Go.Lib (decDigits itoa)
inductive All2 (S : Nat → Nat → Prop) : List Nat → List Nat → Prop where
 | nil : All2 S [] []
 | cons {a b : Nat} {s t : List Nat} : S a b → All2 S s t → All2 S (a :: s) (b :: t)
section
variable {S : Nat → Nat → Prop}
theorem All2.append {s t s' t' : List Nat} (h : All2 S s t) (k : All2 S s' t') : All2 S (s ++ s') (t ++ t') := by
 induction h with
 | nil => exact k
 | cons e _ ih => exact .cons e ih
theorem All2.mem {s t : List Nat} (h : All2 S s t) (hl : ∀ a b b', S a b → S a b' → b = b') {a b : Nat} (e : S a b) (ha : a ∈ s) : b ∈ t := by
 induction h with
 | nil => cases ha
 | @cons a' b' s t e' _ ih =>
  rcases List.mem_cons.1 ha with rfl | ha
  ·rw [hl _ _ _ e e']; exact List.mem_cons_self ..
  ·exact List.mem_cons_of_mem _ (ih ha)
theorem All2.swap {s t : List Nat} (h : All2 S s t) : All2 (fun b a => S a b) t s := by
 induction h with
 | nil => exact .nil
 | cons e _ ih => exact .cons e ih
theorem All2.idx {s t : List Nat} (h : All2 S s t) (hl : ∀ a b b', S a b → S a b' → b = b') (hr : ∀ a a' b, S a b → S a' b → a = a') {a b : Nat} (e : S a b) : s.idxOf a = t.idxOf b := by
 induction h with
 | nil => rfl
 | @cons a' b' s t e' _ ih =>
  rw [List.idxOf_cons, List.idxOf_cons]
  by_cases h1 : a' = a
  ·subst h1
   have h2 := hl _ _ _ e e'
   subst h2
   simp
  ·have h2 : b' ≠ b := fun h2 => by subst h2; exact h1 (hr _ _ _ e' e)
   have e1 : (a' == a) = false := by simpa using h1
   have e2 : (b' == b) = false := by simpa using h2
   rw [e1, e2, ih]
theorem All2.maps {α : Type} {s t : List Nat} (h : All2 S s t) {f f' : Nat → α} (hf : ∀ a b, a ∈ s → S a b → f a = f' b) : s.map f = t.map f' := by
 induction h with
 | nil => rfl
 | cons e _ ih => rw [List.map_cons, List.map_cons, hf _ _ (List.mem_cons_self ..) e, ih (fun a b ha hb => hf a b (List.mem_cons_of_mem _ ha) hb)]
theorem All2.at_ {s t : List Nat} (h : All2 S s t) : s.length = t.length ∧ ∀ i, i < s.length → S (s.getD i 0) (t.getD i 0) := by
 induction h with
 | nil => exact ⟨rfl, fun i hi => by cases hi⟩
 | cons e _ ih =>
  refine ⟨by simp [ih.1], fun i hi => ?_⟩
  cases i with
  | zero => simpa using e
  | succ i => simpa using ih.2 i (by simpa using hi)
end
structure Iso (g h : Tre.Graph) (S : Nat → Nat → Prop) : Prop where
 root : S g.root.toNat h.root.toNat
 lt : ∀ a b, S a b → a < g.ns.length ∧ b < h.ns.length
 kind : ∀ a b, S a b → (g.nd a).kind = (h.nd b).kind
 name : ∀ a b, S a b → (g.nd a).name = (h.nd b).name
 labels : ∀ a b, S a b → (g.nd a).labels = (h.nd b).labels
 open_ : ∀ a b, S a b → (g.nd a).isOpen = (h.nd b).isOpen
 kids : ∀ a b, S a b → All2 S (g.kids a) (h.kids b)
 left : ∀ a b b', S a b → S a b' → b = b'
 right : ∀ a a' b, S a b → S a' b → a = a'
section
variable {g h : Tre.Graph} {S : Nat → Nat → Prop}
theorem Iso.dfs (i : Iso g h S) : ∀ (k : Nat) (s out s' out' : List Nat), g.budget out + s.length ≤ k → All2 S s s' → All2 S out out' → All2 S (g.dfs s out) (h.dfs s' out') := by
 intro k
 induction k with
 | zero =>
  intro s out s' out' hk hs ho
  have : s = [] := List.length_eq_zero_iff.1 (by omega)
  subst this
  cases hs
  rw [Graph.dfs_nil, Graph.dfs_nil]; exact ho
 | succ k ih =>
  intro s out s' out' hk hs ho
  cases hs with
  | nil => rw [Graph.dfs_nil, Graph.dfs_nil]; exact ho
  | @cons a b s t e hs =>
   by_cases hm : a ∈ out
   ·rw [Graph.dfs_skip hm, Graph.dfs_skip (ho.mem i.left e hm)]
    exact ih _ _ _ _ (by simp at hk; omega) hs ho
   ·have hm' : b ∉ out' := fun hb => hm (ho.swap.mem (fun b a a' h1 h2 => i.right _ _ _ h1 h2) e hb)
    have hl := i.lt a b e
    have hb := Graph.budget_step hl.1 hm
    rw [Graph.dfs_take hm hl.1, Graph.dfs_take hm' hl.2]
    exact ih _ _ _ _ (by simp only [List.length_append, List.length_cons, g.kids_len] at hk ⊢; omega) ((i.kids a b e).append hs) (ho.append (.cons e .nil))
theorem Iso.reach (i : Iso g h S) (c0 : g.checkC = 0) (c1 : h.checkC = 0) : All2 S g.reachL h.reachL := by
 unfold Graph.reachL
 rw [if_pos c0, if_pos c1]
 exact i.dfs _ _ _ _ _ (Nat.le_refl _) (.cons i.root .nil) .nil
theorem Iso.trim (i : Iso g h S) (c0 : g.checkC = 0) (c1 : h.checkC = 0) : g.trim = h.trim := by
 have hr := i.reach c0 c1
 show (⟨g.reachL.map _, 0⟩ : Tre.Graph) = ⟨h.reachL.map _, 0⟩
 rw [hr.maps (f := fun i => trimNode g.reachL (g.nd i)) (f' := fun i => trimNode h.reachL (h.nd i)) (fun a b ha e => ?_)]
 have h1 := i.kind a b e
 have h2 := i.name a b e
 have h3 := i.labels a b e
 have h4 := i.open_ a b e
 have h5 : (g.nd a).args.map (placeOf g.reachL) = (h.nd b).args.map (placeOf h.reachL) := by
  have := (i.kids a b e).maps (f := fun x => ((g.reachL.idxOf x : Nat) : Int)) (f' := fun x => ((h.reachL.idxOf x : Nat) : Int)) (fun x y _ exy => by rw [hr.idx i.left i.right exy])
  unfold Graph.kids at this
  rw [List.map_map, List.map_map] at this
  exact this
 show trimNode g.reachL (g.nd a) = trimNode h.reachL (h.nd b)
 unfold trimNode
 rw [h5]
 cases hx : g.nd a
 cases hy : h.nd b
 rw [hx, hy] at h1 h2 h3 h4
 simp only at h1 h2 h3 h4
 subst h1 h2 h3 h4
 rfl
end
structure Bis (g h : Tre.Graph) (R : Nat → Nat → Prop) : Prop where
 lt : ∀ a b, R a b → a < g.ns.length ∧ b < h.ns.length
 alike : ∀ a b, R a b → alikeB (g.nd a) (h.nd b) = true
 kids : ∀ a b, R a b → All2 R (g.kids a) (h.kids b)
 one : ∀ a b a' b', R a b → R a' b' → freeB (g.nd a) = true → (a = a' ↔ b = b')
section
variable {g h : Tre.Graph} {R : Nat → Nat → Prop}
theorem alike_parts {x y : Tre.Node} (h : alikeB x y = true) : x.kind = y.kind ∧ x.name = y.name ∧ x.labels = y.labels ∧ x.isOpen = y.isOpen := by
 unfold alikeB at h
 simp only [Bool.and_eq_true, decide_eq_true_eq] at h
 exact ⟨h.1.1.1.1, h.1.1.1.2, h.2, h.1.1.2⟩
theorem Bis.swap (i : Bis g h R) : Bis h g (fun b a => R a b) := by
 refine ⟨fun a b e => (i.lt b a e).symm, fun a b e => alike_symm (i.alike b a e), fun a b e => (i.kids b a e).swap, fun a b a' b' e e' hf => ?_⟩
 rw [← alike_free (i.alike b a e)] at hf
 exact (i.one _ _ _ _ e e' hf).symm
theorem key_mk {cl : Nat → Nat} {i j : Nat} (h1 : cl i = cl j) (h2 : i = j ∨ (freeC (g.nd i) = false ∧ freeC (g.nd j) = false ∧ (g.nd i).kind = (g.nd j).kind ∧ (g.nd i).name = (g.nd j).name ∧ (g.nd i).labels = (g.nd j).labels ∧ (g.nd i).args.map (fun a => cl a.toNat) = (g.nd j).args.map (fun a => cl a.toNat))) :
  g.keyL cl i = g.keyL cl j := by
 rcases h2 with rfl | ⟨f1, f2, e1, e2, e3, e4⟩
 ·rfl
 ·unfold Graph.keyL lookL
  have e5 : (g.nd i).args.map (fun a => decDigits (cl a.toNat)) = (g.nd j).args.map (fun a => decDigits (cl a.toNat)) := by
   have := congrArg (List.map decDigits) e4
   rw [List.map_map, List.map_map] at this
   exact this
  rw [f1, f2, e1, e2, e3, e5, h1]
  rfl
theorem kids_cl (g : Tre.Graph) (cl : Nat → Nat) (a : Nat) : (g.kids a).map cl = (g.nd a).args.map (fun a => cl a.toNat) := by
 unfold Graph.kids; rw [List.map_map]; rfl
theorem All2.map_eq {s t s' t' : List Nat} {cl cl' : Nat → Nat} (hc : ∀ a b a' b', R a b → R a' b' → cl a = cl a' → cl' b = cl' b') (h : All2 R s t) (h' : All2 R s' t') (e : s.map cl = s'.map cl) : t.map cl' = t'.map cl' := by
 induction h generalizing s' t' with
 | nil =>
  cases h' with
  | nil => rfl
  | cons => cases e
 | cons r _ ih =>
  cases h' with
  | nil => cases e
  | cons r' h' =>
   rw [List.map_cons, List.map_cons, List.cons.injEq] at e
   rw [List.map_cons, List.map_cons, hc _ _ _ _ r r' e.1, ih h' e.2]
theorem Bis.step (i : Bis g h R) (og : g.Ok) (oh : h.Ok) {cl cl' : Nat → Nat} (hc : ∀ a b a' b', R a b → R a' b' → cl a = cl a' → cl' b = cl' b') {a b a' b' : Nat} (r : R a b) (r' : R a' b') (e : g.keyL cl a = g.keyL cl a') : h.keyL cl' b = h.keyL cl' b' := by
 have l := i.lt a b r
 have l' := i.lt a' b' r'
 obtain ⟨e1, e2⟩ := key_inj og l.1 l'.1 e
 have p := alike_parts (i.alike a b r)
 have p' := alike_parts (i.alike a' b' r')
 have fr : freeC (h.nd b) = freeC (g.nd a) := by
  rw [(words_of (og.may a l.1)).openOf, (words_of (oh.may b l.2)).openOf, alike_free (i.alike a b r)]
 have fr' : freeC (h.nd b') = freeC (g.nd a') := by
  rw [(words_of (og.may a' l'.1)).openOf, (words_of (oh.may b' l'.2)).openOf, alike_free (i.alike a' b' r')]
 have key : ∀ _ : freeC (g.nd a) = false ∧ freeC (g.nd a') = false ∧ (g.nd a).kind = (g.nd a').kind ∧ (g.nd a).name = (g.nd a').name ∧ (g.nd a).labels = (g.nd a').labels ∧ (g.nd a).args.map (fun x => cl x.toNat) = (g.nd a').args.map (fun x => cl x.toNat), h.keyL cl' b = h.keyL cl' b' := by
  rintro ⟨f1, f2, k1, k2, k3, k4⟩
  refine key_mk (hc _ _ _ _ r r' e1) (.inr ⟨by rw [fr, f1], by rw [fr', f2], by rw [← p.1, k1, p'.1], by rw [← p.2.1, k2, p'.2.1], by rw [← p.2.2.1, k3, p'.2.2.1], ?_⟩)
  rw [← kids_cl, ← kids_cl] at k4 ⊢
  exact All2.map_eq hc (i.kids a b r) (i.kids a' b' r') k4
 rcases e2 with rfl | e2
 ·cases hf : freeC (g.nd a) with
  | true =>
   have : b = b' := (i.one _ _ _ _ r r' (by rw [← (words_of (og.may a l.1)).openOf, hf])).1 rfl
   rw [this]
  | false => exact key ⟨hf, hf, rfl, rfl, rfl, rfl⟩
 ·exact key e2
theorem Bis.iter (i : Bis g h R) (og : g.Ok) (oh : h.Ok) (m : Nat) : ∀ a b a' b', R a b → R a' b' → ((g.iterL m).getD a 0 = (g.iterL m).getD a' 0 ↔ (h.iterL m).getD b 0 = (h.iterL m).getD b' 0) := by
 induction m with
 | zero =>
  intro a b a' b' r r'
  have l := i.lt a b r
  have l' := i.lt a' b' r'
  show (List.replicate _ 0).getD a 0 = (List.replicate _ 0).getD a' 0 ↔ (List.replicate _ 0).getD b 0 = (List.replicate _ 0).getD b' 0
  simp [List.getD_eq_getElem?_getD, l.1, l.2, l'.1, l'.2]
 | succ m ih =>
  intro a b a' b' r r'
  have l := i.lt a b r
  have l' := i.lt a' b' r'
  show (g.refineL _).getD a 0 = (g.refineL _).getD a' 0 ↔ (h.refineL _).getD b 0 = (h.refineL _).getD b' 0
  rw [refineL_at _ l.1, refineL_at _ l'.1, refineL_at _ l.2, refineL_at _ l'.2, refine_iff, refine_iff]
  exact ⟨i.step og oh (fun a b a' b' r r' e => (ih a b a' b' r r').1 e) r r', i.swap.step oh og (fun b a b' a' r r' e => (ih a b a' b' r r').2 e) r r'⟩
theorem iter_all (g : Tre.Graph) (m : Nat) : g.iterL (g.ns.length * g.ns.length + m) = g.classesL := iter_stop (g := g) (k := g.ns.length * g.ns.length) classes_stable m
theorem Bis.cls (i : Bis g h R) (og : g.Ok) (oh : h.Ok) {a b a' b' : Nat} (r : R a b) (r' : R a' b') : g.cls a = g.cls a' ↔ h.cls b = h.cls b' := by
 have := i.iter og oh (g.ns.length * g.ns.length + h.ns.length * h.ns.length) a b a' b' r r'
 rw [iter_all, Nat.add_comm, iter_all] at this
 exact this
/-! how many -/
end
end Go.Tre
namespace Go.Tre
open Go.RowKit
theorem less_trans {a b c : List UInt8} (h1 : Op.bytesLess a b = true) (h2 : Op.bytesLess b c = true) : Op.bytesLess a c = true := by
 rw [Go.Proofs.bytesLess_eq, decide_eq_true_iff] at *
 exact List.lt_trans h1 h2
theorem less_irrefl (a : List UInt8) : Op.bytesLess a a = false := by
 rw [Go.Proofs.bytesLess_eq, decide_eq_false_iff_not]
 exact List.lt_irrefl a
theorem rising_lt {l : List ByteArray} (h : rising l = true) : ∀ (d i : Nat), i + d + 1 < l.length → Op.bytesLess (l.getD i ByteArray.empty).toList (l.getD (i + d + 1) ByteArray.empty).toList = true := by
 have one : ∀ i, i + 1 < l.length → Op.bytesLess (l.getD i ByteArray.empty).toList (l.getD (i + 1) ByteArray.empty).toList = true := fun i hi => by
  unfold rising at h
  have := (List.all_eq_true.1 h) (i + 1) (List.mem_range.2 hi)
  unfold labelOk at this
  rw [Bool.and_eq_true, Bool.or_eq_true] at this
  rcases this.2 with h2 | h2
  ·simp at h2
  ·simpa using h2
 intro d
 induction d with
 | zero => intro i hi; exact one i (by omega)
 | succ d ih => intro i hi; exact less_trans (ih i (by omega)) (one (i + d + 1) (by omega))
theorem search_found {l : List ByteArray} (h : rising l = true) {i : Nat} (hi : i < l.length) : Lib.bsGo (fun t => Op.bytesLess (l.getD t ByteArray.empty).toList (l.getD i ByteArray.empty).toList) l.length 0 l.length = i := by
 have e : ∀ (f lo hi' : Nat), lo ≤ i → i ≤ hi' → hi' ≤ l.length → hi' - lo ≤ f → Lib.bsGo (fun t => Op.bytesLess (l.getD t ByteArray.empty).toList (l.getD i ByteArray.empty).toList) f lo hi' = i := by
  intro f
  induction f with
  | zero => intro lo hi' h1 h2 _ h3; simp [Lib.bsGo]; omega
  | succ f ih =>
   intro lo hi' h1 h2 h4 h3
   unfold Lib.bsGo
   by_cases hl : lo < hi'
   ·rw [if_pos hl]
    by_cases hm : (lo + hi') / 2 < i
    ·have : Op.bytesLess (l.getD ((lo + hi') / 2) ByteArray.empty).toList (l.getD i ByteArray.empty).toList = true := by
      have := rising_lt h (i - (lo + hi') / 2 - 1) ((lo + hi') / 2) (by omega)
      rwa [show (lo + hi') / 2 + (i - (lo + hi') / 2 - 1) + 1 = i by omega] at this
     rw [if_pos this]
     exact ih _ _ (by omega) h2 h4 (by omega)
    ·have : Op.bytesLess (l.getD ((lo + hi') / 2) ByteArray.empty).toList (l.getD i ByteArray.empty).toList = false := by
      by_cases he : (lo + hi') / 2 = i
      ·rw [he]; exact less_irrefl _
      ·have hlt := rising_lt h ((lo + hi') / 2 - i - 1) i (by omega)
       rw [show i + ((lo + hi') / 2 - i - 1) + 1 = (lo + hi') / 2 by omega] at hlt
       cases hb : Op.bytesLess (l.getD ((lo + hi') / 2) ByteArray.empty).toList (l.getD i ByteArray.empty).toList
       ·rfl
       ·have := less_trans hb hlt
        rw [less_irrefl] at this; cases this
     rw [if_neg (by rw [this]; simp)]
     exact ih _ _ h1 (by omega) (by omega) (by omega)
   ·rw [if_neg hl]; omega
 exact e _ _ _ (Nat.zero_le _) (by omega) (Nat.le_refl _) (by omega)
end Go.Tre
namespace Go.Proofs.YtoieknnnadgfpaaGreatDoor.gr
open Go.RowKit Go.Shelf Go.Maps Go.Tre
theorem search_any (a : Option Addr) (c : Nat) (l : List ByteArray) (i : Nat) (s : ByteArray) (w : World) (hx : StrsAt w a l) (hr : rising l = true) (hi : i < l.length) (hs : l[i]? = some s) (hb : l.length ≤ 8388608) :
  Calls Tryz.prog 27 #[.slice a l.length c, .string s] w fun e w' => e = .returned (.tuple #[.int .i64 (i : Int), .bool true]) ∧ Below w.heap.size w w' := by
 obtain ⟨b, o, rfl, _⟩ := hx.at_ i (.string s) (by rw [List.getElem?_map, hs]; rfl)
 have hsd : s = l.getD i ByteArray.empty := by rw [List.getD_eq_getElem?_getD, hs]; rfl
 refine (Tryz.slices_BinarySearch_string b o l.length c (fun t => l.getD t ByteArray.empty) s w (by omega) (fun j hj => ?_)).mono ?_
 ·obtain ⟨b', o', e, hc⟩ := hx.at_ j (.string l[j]) (by rw [List.getElem?_map, List.getElem?_eq_getElem hj]; rfl)
  cases e
  rw [hc, List.getD_eq_getElem?_getD, List.getElem?_eq_getElem hj]; rfl
 ·rintro e w' ⟨rfl, q, rfl⟩
  refine ⟨?_, Go.below_drewN (Below.refl _ _) q⟩
  rw [hsd, search_found hr hi, decide_eq_true ⟨hi, rfl⟩]
end Go.Proofs.YtoieknnnadgfpaaGreatDoor.gr
namespace Go.Tre
def arrowB : ByteArray := ⟨#[45, 62]⟩
def turnB (s : ByteArray) (i : Nat) (t : Bool) : Bool := if s = arrowB ∧ i = 0 then !t else t
def FolOk (g h : Tre.Graph) (a b : Nat) (t : Bool) : Prop :=
 (g.nd a).kind = (h.nd b).kind ∧ (g.nd a).name = (h.nd b).name ∧ ((g.nd a).kind = 3 → (t = true → ∀ s ∈ (g.nd a).labels, s ∈ (h.nd b).labels) ∧ (t = false → ∀ s ∈ (h.nd b).labels, s ∈ (g.nd a).labels))
def Fol (g h : Tre.Graph) (a b : Nat) (t : Bool) (a' b' : Nat) (t' : Bool) : Prop :=
 ((g.nd a).kind = 3 ∧ t' = t ∧ ∃ i j s, (g.nd a).labels[i]? = some s ∧ (h.nd b).labels[j]? = some s ∧ a' = g.kid a i ∧ b' = h.kid b j) ∨
 ((g.nd a).kind ≠ 3 ∧ ∃ i, i < g.deg a ∧ a' = g.kid a i ∧ b' = h.kid b i ∧ t' = turnB (g.nd a).name i t)
structure SubRel (g h : Tre.Graph) (R : Nat → Nat → Bool → Prop) : Prop where
 ok : ∀ a b t, R a b t → FolOk g h a b t
 fol : ∀ a b t a' b' t', R a b t → Fol g h a b t a' b' t' → R a' b' t'
def SubAt (g h : Tre.Graph) (a b : Nat) (t : Bool) : Prop := ∃ R, SubRel g h R ∧ R a b t
section
variable {g h k : Tre.Graph} {a b c : Nat} {t : Bool}
theorem SubAt.ok (s : SubAt g h a b t) : FolOk g h a b t := by obtain ⟨R, r, h1⟩ := s; exact r.ok _ _ _ h1
theorem SubAt.fol (s : SubAt g h a b t) {a' b' : Nat} {t' : Bool} (f : Fol g h a b t a' b' t') : SubAt g h a' b' t' := by obtain ⟨R, r, h1⟩ := s; exact ⟨R, r, r.fol _ _ _ _ _ _ h1 f⟩
theorem SubAt.mk (o : FolOk g h a b t) (f : ∀ a' b' t', Fol g h a b t a' b' t' → SubAt g h a' b' t') : SubAt g h a b t := by
 refine ⟨fun x y u => (x = a ∧ y = b ∧ u = t) ∨ SubAt g h x y u, ⟨?_, ?_⟩, .inl ⟨rfl, rfl, rfl⟩⟩
 ·rintro x y u (⟨rfl, rfl, rfl⟩ | s)
  ·exact o
  ·exact s.ok
 ·rintro x y u x' y' u' (⟨rfl, rfl, rfl⟩ | s) hf
  ·exact .inr (f _ _ _ hf)
  ·exact .inr (s.fol hf)
theorem obj_deg (og : g.Ok) (ha : a < g.ns.length) (hk : (g.nd a).kind = 3) : (g.nd a).labels.length = g.deg a ∧ rising (g.nd a).labels = true := by
 have h := og.may a ha
 unfold mayB at h
 rw [Bool.and_eq_true, if_neg (by rw [hk]; decide), if_neg (by rw [hk]; decide), if_pos hk] at h
 simp only [Bool.and_eq_true, decide_eq_true_iff] at h
 exact ⟨h.2.1.2, h.2.2⟩
theorem con_deg (og : g.Ok) (ha : a < g.ns.length) (hk : (g.nd a).kind = 2) : arity (g.nd a).name = some (g.deg a : Int) := by
 have h := og.may a ha
 unfold mayB at h
 rw [Bool.and_eq_true, if_neg (by rw [hk]; decide), if_pos hk] at h
 simp only [Bool.and_eq_true] at h
 have h2 := h.2.2
 cases hx : arity (g.nd a).name with
 | none => rw [hx] at h2; cases h2
 | some z => rw [hx] at h2; simp only [decide_eq_true_iff] at h2; unfold Graph.deg; rw [h2]
theorem var_deg (og : g.Ok) (ha : a < g.ns.length) (hk : (g.nd a).kind = 1) : g.deg a = 0 := by
 have h := og.may a ha
 unfold mayB at h
 rw [Bool.and_eq_true, if_pos hk] at h
 simp only [Bool.and_eq_true, decide_eq_true_iff] at h
 exact h.2.2
theorem node_kind (og : g.Ok) (ha : a < g.ns.length) : (g.nd a).kind = 1 ∨ (g.nd a).kind = 2 ∨ (g.nd a).kind = 3 := (words_of (og.may a ha)).kind
theorem same_deg (og : g.Ok) (oh : h.Ok) (ha : a < g.ns.length) (hb : b < h.ns.length) (hk : (g.nd a).kind = (h.nd b).kind) (hn : (g.nd a).name = (h.nd b).name) (h3 : (g.nd a).kind ≠ 3) : g.deg a = h.deg b := by
 rcases node_kind og ha with e | e | e
 ·rw [var_deg og ha e, var_deg oh hb (by rw [← hk]; exact e)]
 ·have h1 := con_deg og ha e
  have h2 := con_deg oh hb (by rw [← hk]; exact e)
  rw [hn, h2] at h1
  injection h1 with h1
  omega
 ·exact absurd e h3
theorem idx_lt {α : Type} {l : List α} {i : Nat} {s : α} (h : l[i]? = some s) : i < l.length := (List.getElem?_eq_some_iff.1 h).1
theorem Fol.lt (og : g.Ok) (oh : h.Ok) (ha : a < g.ns.length) (hb : b < h.ns.length) (o : FolOk g h a b t) {a' b' : Nat} {t' : Bool} (f : Fol g h a b t a' b' t') : a' < g.ns.length ∧ b' < h.ns.length := by
 rcases f with ⟨h3, _, i, j, s, h1, h2, rfl, rfl⟩ | ⟨h3, i, hi, rfl, rfl, _⟩
 ·have l1 := (obj_deg og ha h3).1
  have l2 := (obj_deg oh hb (by rw [← o.1]; exact h3)).1
  exact ⟨og.kid_lt ha (by rw [← l1]; exact idx_lt h1), oh.kid_lt hb (by rw [← l2]; exact idx_lt h2)⟩
 ·exact ⟨og.kid_lt ha hi, oh.kid_lt hb (by rw [← same_deg og oh ha hb o.1 o.2.1 h3]; exact hi)⟩
theorem SubAt.trans (og : g.Ok) (oh : h.Ok) (ok : k.Ok) (ha : a < g.ns.length) (hb : b < h.ns.length) (hc : c < k.ns.length) (s : SubAt g h a b t) (s' : SubAt h k b c t) : SubAt g k a c t := by
 refine ⟨fun x z u => ∃ y, x < g.ns.length ∧ y < h.ns.length ∧ z < k.ns.length ∧ SubAt g h x y u ∧ SubAt h k y z u, ⟨?_, ?_⟩, b, ha, hb, hc, s, s'⟩
 ·rintro x z u ⟨y, _, _, _, s, s'⟩
  refine ⟨s.ok.1.trans s'.ok.1, s.ok.2.1.trans s'.ok.2.1, fun h3 => ?_⟩
  have h1 := s.ok.2.2 h3
  have h2 := s'.ok.2.2 (by rw [← s.ok.1]; exact h3)
  exact ⟨fun e w hw => h2.1 e w (h1.1 e w hw), fun e w hw => h1.2 e w (h2.2 e w hw)⟩
 ·rintro x z u x' z' u' ⟨y, hx, hy, hz, s, s'⟩ f
  rcases f with ⟨h3, rfl, i, j, w, h1, h2, rfl, rfl⟩ | ⟨h3, i, hi, rfl, rfl, rfl⟩
  ·have k3 : (h.nd y).kind = 3 := by rw [← s.ok.1]; exact h3
   have hm : w ∈ (h.nd y).labels := by
    cases u'
    ·exact (s'.ok.2.2 k3).2 rfl w (List.mem_of_getElem? h2)
    ·exact (s.ok.2.2 h3).1 rfl w (List.mem_of_getElem? h1)
   obtain ⟨l, hl⟩ := List.getElem?_of_mem hm
   have f1 : Fol g h x y u' (g.kid x i) (h.kid y l) u' := .inl ⟨h3, rfl, i, l, w, h1, hl, rfl, rfl⟩
   have f2 : Fol h k y z u' (h.kid y l) (k.kid z j) u' := .inl ⟨k3, rfl, l, j, w, hl, h2, rfl, rfl⟩
   have l1 := f1.lt og oh hx hy s.ok
   have l2 := f2.lt oh ok hy hz s'.ok
   exact ⟨_, l1.1, l1.2, l2.2, s.fol f1, s'.fol f2⟩
  ·have f1 : Fol g h x y u (g.kid x i) (h.kid y i) (turnB (g.nd x).name i u) := .inr ⟨h3, i, hi, rfl, rfl, rfl⟩
   have hd := same_deg og oh hx hy s.ok.1 s.ok.2.1 h3
   have f2 : Fol h k y z u (h.kid y i) (k.kid z i) (turnB (g.nd x).name i u) := .inr ⟨by rw [← s.ok.1]; exact h3, i, by rw [← hd]; exact hi, rfl, rfl, by rw [s.ok.2.1]⟩
   have l1 := f1.lt og oh hx hy s.ok
   have l2 := f2.lt oh ok hy hz s'.ok
   exact ⟨_, l1.1, l1.2, l2.2, s.fol f1, s'.fol f2⟩
end
structure Sim (g g' : Tre.Graph) (S : Nat → Nat → Prop) : Prop where
 lt : ∀ a a', S a a' → a < g.ns.length ∧ a' < g'.ns.length
 kind : ∀ a a', S a a' → (g.nd a).kind = (g'.nd a').kind
 name : ∀ a a', S a a' → (g.nd a).name = (g'.nd a').name
 labels : ∀ a a', S a a' → (g.nd a).labels = (g'.nd a').labels
 deg : ∀ a a', S a a' → g.deg a = g'.deg a'
 kid : ∀ a a' i, S a a' → i < g.deg a → S (g.kid a i) (g'.kid a' i)
section
variable {g g' h h' : Tre.Graph} {S S' : Nat → Nat → Prop}
theorem Sim.swap (i : Sim g g' S) : Sim g' g (fun a' a => S a a') :=
 ⟨fun a' a s => (i.lt a a' s).symm, fun a' a s => (i.kind a a' s).symm, fun a' a s => (i.name a a' s).symm, fun a' a s => (i.labels a a' s).symm, fun a' a s => (i.deg a a' s).symm, fun a' a j s hj => i.kid a a' j s (by rw [i.deg a a' s]; exact hj)⟩
theorem Sim.id (og : g.Ok) : Sim g g (fun a a' => a = a' ∧ a < g.ns.length) := by
 refine ⟨?_, ?_, ?_, ?_, ?_, ?_⟩
 ·rintro a _ ⟨rfl, h⟩; exact ⟨h, h⟩
 ·rintro a _ ⟨rfl, h⟩; rfl
 ·rintro a _ ⟨rfl, h⟩; rfl
 ·rintro a _ ⟨rfl, h⟩; rfl
 ·rintro a _ ⟨rfl, h⟩; rfl
 ·rintro a _ i ⟨rfl, h⟩ hi; exact ⟨rfl, og.kid_lt h hi⟩
theorem SubAt.sim (og : g.Ok) (oh : h.Ok) (i : Sim g g' S) (j : Sim h h' S') {a a' b b' : Nat} {t : Bool} (ha : S a a') (hb : S' b b') (s : SubAt g h a b t) : SubAt g' h' a' b' t := by
 refine ⟨fun x' y' u => ∃ x y, S x x' ∧ S' y y' ∧ SubAt g h x y u, ⟨?_, ?_⟩, a, b, ha, hb, s⟩
 ·rintro x' y' u ⟨x, y, hx, hy, s⟩
  have o := s.ok
  unfold FolOk at o ⊢
  rw [← i.kind _ _ hx, ← j.kind _ _ hy, ← i.name _ _ hx, ← j.name _ _ hy, ← i.labels _ _ hx, ← j.labels _ _ hy]
  exact o
 ·rintro x' y' u x2' y2' u' ⟨x, y, hx, hy, s⟩ f
  have lx := (i.lt _ _ hx).1
  have ly := (j.lt _ _ hy).1
  rcases f with ⟨h3, rfl, p, q, w, h1, h2, rfl, rfl⟩ | ⟨h3, p, hp, rfl, rfl, rfl⟩
  ·rw [← i.kind _ _ hx] at h3
   rw [← i.labels _ _ hx] at h1
   rw [← j.labels _ _ hy] at h2
   have d1 := (obj_deg og lx h3).1
   have d2 := (obj_deg oh ly (by rw [← s.ok.1]; exact h3)).1
   exact ⟨_, _, i.kid _ _ p hx (by rw [← d1]; exact idx_lt h1), j.kid _ _ q hy (by rw [← d2]; exact idx_lt h2), s.fol (.inl ⟨h3, rfl, p, q, w, h1, h2, rfl, rfl⟩)⟩
  ·rw [← i.kind _ _ hx] at h3
   rw [← i.deg _ _ hx] at hp
   have hd := same_deg og oh lx ly s.ok.1 s.ok.2.1 h3
   exact ⟨_, _, i.kid _ _ p hx hp, j.kid _ _ p hy (by rw [← hd]; exact hp), s.fol (.inr ⟨h3, p, hp, rfl, rfl, by rw [i.name _ _ hx]⟩)⟩
theorem SubAt.sim_iff (og : g.Ok) (oh : h.Ok) (og' : g'.Ok) (oh' : h'.Ok) (i : Sim g g' S) (j : Sim h h' S') {a a' b b' : Nat} {t : Bool} (ha : S a a') (hb : S' b b') : SubAt g h a b t ↔ SubAt g' h' a' b' t :=
 ⟨fun s => s.sim og oh i j ha hb, fun s => s.sim og' oh' i.swap j.swap ha hb⟩
theorem SubAt.refl (og : g.Ok) {a : Nat} {t : Bool} (ha : a < g.ns.length) : SubAt g g a a t := by
 refine ⟨fun x y _ => x = y ∧ x < g.ns.length, ⟨?_, ?_⟩, rfl, ha⟩
 ·rintro x _ u ⟨rfl, _⟩
  exact ⟨rfl, rfl, fun _ => ⟨fun _ s hs => hs, fun _ s hs => hs⟩⟩
 ·rintro x _ u x' y' u' ⟨rfl, hx⟩ f
  have l := f.lt og og hx hx ⟨rfl, rfl, fun _ => ⟨fun _ s hs => hs, fun _ s hs => hs⟩⟩
  refine ⟨?_, l.1⟩
  rcases f with ⟨h3, _, i, j, s, h1, h2, rfl, rfl⟩ | ⟨h3, i, hi, rfl, rfl, _⟩
  ·have hr := (obj_deg og hx h3).2
   have : i = j := by
    have hi := idx_lt h1
    have hj := idx_lt h2
    have e : (g.nd x).labels.getD i ByteArray.empty = (g.nd x).labels.getD j ByteArray.empty := by
     rw [List.getD_eq_getElem?_getD, List.getD_eq_getElem?_getD, h1, h2]
    have e1 := search_found hr hi
    have e2 := search_found hr hj
    rw [e] at e1
    omega
   rw [this]
  ·rfl
theorem rising_pw {l : List ByteArray} (h : rising l = true) : l.Pairwise fun x y => Op.bytesLess x.toList y.toList = true := by
 rw [List.pairwise_iff_getElem]
 intro i j hi hj hij
 have := rising_lt h (j - i - 1) i (by omega)
 rw [show i + (j - i - 1) + 1 = j by omega, List.getD_eq_getElem?_getD, List.getD_eq_getElem?_getD, List.getElem?_eq_getElem hi, List.getElem?_eq_getElem hj] at this
 exact this
theorem SameG.sim (s : SameG g h) : Sim g h (RP g h) := by
 have og := Graph.ok_of s.okg
 have oh := Graph.ok_of s.okh
 refine ⟨fun a b r => r.lt og oh, fun a b r => (alike_parts (s.alike a b r)).1, fun a b r => (alike_parts (s.alike a b r)).2.1, fun a b r => (alike_parts (s.alike a b r)).2.2.1, fun a b r => alike_deg (s.alike a b r), fun a b i r hi => r.kid hi ?_⟩
 have := alike_deg (s.alike a b r)
 unfold Graph.deg at hi ⊢
 rw [← this]; exact hi
def Graph.Shut (g : Tre.Graph) : Prop := ∀ a, Rch g g.root.toNat a → freeB (g.nd a) = false
theorem shut_of (c0 : g.checkC = 0) (h : g.freeL.length = 0) : g.Shut := by
 intro a ha
 cases hf : freeB (g.nd a)
 ·rfl
 ·have h1 := (free_of_reach c0).2 ⟨ha, hf⟩
  rw [List.length_eq_zero_iff.1 h] at h1
  cases h1
theorem free_none (c0 : g.checkC = 0) (h : g.Shut) : g.freeL.length = 0 := by
 rw [List.length_eq_zero_iff, List.eq_nil_iff_forall_not_mem]
 intro a ha
 have h1 := (free_of_reach c0).1 ha
 rw [h a h1.1] at h1
 cases h1.2
open Classical in
noncomputable def subB (g h : Tre.Graph) : Bool := decide (SubAt g h g.root.toNat h.root.toNat false)
theorem subB_iff : subB g h = true ↔ SubAt g h g.root.toNat h.root.toNat false := by unfold subB; simp
end
end Go.Tre
namespace Go.Tre
/-! shut again, trimmed -/
section
variable {g h : Tre.Graph}
theorem Sim.reach {S : Nat → Nat → Prop} (i : Sim g h S) {a b c : Nat} (s : S a b) (r : Rch h b c) : ∃ x, Rch g a x ∧ S x c := by
 induction r with
 | refl => exact ⟨a, .refl, s⟩
 | @step y z _ hz ih =>
  obtain ⟨x, rx, sx⟩ := ih
  obtain ⟨j, hj, rfl⟩ := List.getElem_of_mem hz
  have hj' : j < h.deg y := by rw [← h.kids_len]; exact hj
  have hj2 : j < g.deg x := by rw [i.deg _ _ sx]; exact hj'
  have e : (h.kids y)[j] = h.kid y j := by rw [kid_kids, List.getD_eq_getElem?_getD, List.getElem?_eq_getElem hj]; rfl
  rw [e]
  exact ⟨g.kid x j, rx.trans (Rch.head (by rw [kid_kids, List.getD_eq_getElem?_getD, List.getElem?_eq_getElem (by rw [g.kids_len]; exact hj2)]; exact List.getElem_mem _) .refl), i.kid _ _ j sx hj2⟩
theorem shut_same (s : SameG g h) (sg : g.Shut) : h.Shut := by
 intro c hc
 obtain ⟨x, rx, sx⟩ := s.sim.reach .root hc
 rw [← alike_free (s.alike x c sx)]
 exact sg x rx
theorem sub_same (s : SameG g h) (k : Tre.Graph) (ok : k.Ok) : (subB g k = subB h k) ∧ (subB k g = subB k h) := by
 have og := Graph.ok_of s.okg
 have oh := Graph.ok_of s.okh
 constructor
 ·rw [Bool.eq_iff_iff, subB_iff, subB_iff]
  exact SubAt.sim_iff og ok oh ok s.sim (Sim.id ok) .root ⟨rfl, ok.root1⟩
 ·rw [Bool.eq_iff_iff, subB_iff, subB_iff]
  exact SubAt.sim_iff ok og ok oh (Sim.id ok) s.sim ⟨rfl, ok.root1⟩ .root
end
/-! without free nodes -/
def unitB : ByteArray := ⟨#[117, 110, 105, 116]⟩
def closeN (n : Tre.Node) : Tre.Node := if n.kind = 1 then ⟨2, unitB, [], [], false⟩ else { n with isOpen := false }
def Graph.shutG (g : Tre.Graph) : Tre.Graph := ⟨g.ns.map closeN, g.root⟩
def Graph.closeG (g : Tre.Graph) : Tre.Graph := g.shutG.trim
section
variable {g h : Tre.Graph}
end
/-! written twice, each half pointing to the other one -/
def crossN (g : Tre.Graph) (k : Nat) : Tre.Node := { g.nd (k % g.ns.length) with args := (g.nd (k % g.ns.length)).args.map fun y => (y + g.ns.length + ((k / g.ns.length * g.ns.length : Nat) : Int)).tmod ((2 * g.ns.length : Nat) : Int) }
def crossG (g : Tre.Graph) : Tre.Graph := ⟨(List.range (2 * g.ns.length)).map (crossN g), g.root⟩
section
variable {g : Tre.Graph}
end
end Go.Tre
namespace Go.Tre
abbrev Claim := Nat × Nat × Bool
def ccells (l : List Claim) : List Value := l.flatMap fun c => [.int .i64 (c.1 : Int), .int .i64 (c.2.1 : Int), .bool c.2.2]
theorem ccells_len (l : List Claim) : (ccells l).length = l.length * 3 := by
 induction l with
 | nil => rfl
 | cons a l ih => unfold ccells at *; rw [List.flatMap_cons, List.length_append, ih, List.length_cons]; simp; omega
theorem ccells_append (l k : List Claim) : ccells (l ++ k) = ccells l ++ ccells k := by unfold ccells; rw [List.flatMap_append]
theorem ccells_snoc (l : List Claim) (c : Claim) : ccells (l ++ [c]) = ccells l ++ [.int .i64 (c.1 : Int), .int .i64 (c.2.1 : Int), .bool c.2.2] := by rw [ccells_append]; simp [ccells]
def ec (c : Claim) : Value := .agg #[.int .i64 (c.1 : Int), .int .i64 (c.2.1 : Int), .bool c.2.2]
theorem injC (a b : Claim) (h : ec a = ec b) : a = b := by
 obtain ⟨x, y, t⟩ := a
 obtain ⟨x', y', t'⟩ := b
 simp [ec] at h
 obtain ⟨h1, h2, h3⟩ := h
 rw [Int.ofNat_inj.1 h1, Int.ofNat_inj.1 h2, h3]
def univC (n k : Nat) : List Claim := ((univ n k).map fun p => (p.1, p.2, false)) ++ ((univ n k).map fun p => (p.1, p.2, true))
theorem mem_univC {n k : Nat} {c : Claim} (h1 : c.1 < n) (h2 : c.2.1 < k) : c ∈ univC n k := by
 obtain ⟨a, b, t⟩ := c
 unfold univC
 rw [List.mem_append]
 cases t
 ·exact .inl (List.mem_map.2 ⟨(a, b), mem_univ.2 ⟨h1, h2⟩, rfl⟩)
 ·exact .inr (List.mem_map.2 ⟨(a, b), mem_univ.2 ⟨h1, h2⟩, rfl⟩)
theorem univC_nodup (n k : Nat) : (univC n k).Nodup := by
 unfold univC
 refine List.nodup_append.2 ⟨?_, ?_, ?_⟩
 ·exact List.Pairwise.map _ (fun x y hxy e => hxy (by obtain ⟨a, b⟩ := x; obtain ⟨c, d⟩ := y; simpa using e)) (univ_nodup n k)
 ·exact List.Pairwise.map _ (fun x y hxy e => hxy (by obtain ⟨a, b⟩ := x; obtain ⟨c, d⟩ := y; simpa using e)) (univ_nodup n k)
 ·intro a ha b hb e
  obtain ⟨_, _, rfl⟩ := List.mem_map.1 ha
  obtain ⟨_, _, rfl⟩ := List.mem_map.1 hb
  simp at e
theorem univC_len (n k : Nat) : (univC n k).length = 2 * (n * k) := by
 have h : (univ n k).length = n * k := by unfold univ; rw [List.length_flatMap]; simp only [List.length_map, List.length_range]; rw [List.map_const', List.sum_replicate_nat, List.length_range]
 unfold univC
 rw [List.length_append, List.length_map, List.length_map, h]; omega
def wgtC (g h : Tre.Graph) (m : Claim → Option Unit) (c : Claim) : Nat := if m c = none then g.deg c.1 + h.deg c.2.1 else 0
def leftC (g h : Tre.Graph) (m : Claim → Option Unit) : Nat := ((univC g.ns.length h.ns.length).map (wgtC g h m)).sum
theorem leftC_mark {g h : Tre.Graph} {m : Claim → Option Unit} {c : Claim} (h1 : c.1 < g.ns.length) (h2 : c.2.1 < h.ns.length) (hm : m c = none) :
  leftC g h (upd m c ()) + (g.deg c.1 + h.deg c.2.1) = leftC g h m := by
 have := sum_upd (wgtC g h (upd m c ())) (wgtC g h m) c _ (univC_nodup g.ns.length h.ns.length) (mem_univC h1 h2) (fun q hq => by unfold wgtC; rw [upd_ne m () hq])
 have e1 : wgtC g h m c = g.deg c.1 + h.deg c.2.1 := by unfold wgtC; rw [if_pos hm]
 have e2 : wgtC g h (upd m c ()) c = 0 := by unfold wgtC; rw [upd_same]; simp
 unfold leftC
 omega
theorem deg_weight (g : Tre.Graph) (a : Nat) : g.deg a ≤ g.weight := by
 by_cases ha : a < g.ns.length
 ·have h1 := node_weight (List.getElem_mem ha)
  have h2 : g.deg a = g.ns[a].args.length := by unfold Graph.deg; rw [Graph.nd_eq ha]
  have h4 : g.weight = (g.ns.map Node.weight).sum := rfl
  have h3 : g.ns[a].args.length ≤ g.ns[a].weight := by unfold Node.weight; omega
  omega
 ·have : g.deg a = 0 := by unfold Graph.deg Graph.nd; rw [List.getD_eq_getElem?_getD, List.getElem?_eq_none (by omega)]; rfl
  omega
theorem leftC_le (g h : Tre.Graph) (m : Claim → Option Unit) : leftC g h m ≤ 2 * (g.ns.length * h.ns.length) * (g.weight + h.weight) := by
 have key : ∀ l : List Claim, (l.map (wgtC g h m)).sum ≤ l.length * (g.weight + h.weight) := fun l => by
  induction l with
  | nil => simp
  | cons c l ih =>
   have h1 := deg_weight g c.1
   have h2 := deg_weight h c.2.1
   have h3 : wgtC g h m c ≤ g.weight + h.weight := by unfold wgtC; split <;> omega
   rw [List.map_cons, List.sum_cons, List.length_cons, Nat.add_mul]
   omega
 have := key (univC g.ns.length h.ns.length)
 rw [univC_len] at this
 exact this
theorem leftC_small {g h : Tre.Graph} (ng : g.ns.length ≤ 512) (nh : h.ns.length ≤ 512) (wg : g.weight ≤ 2097152) (wh : h.weight ≤ 2097152) (m : Claim → Option Unit) : leftC g h m ≤ 2199023255552 := by
 refine Nat.le_trans (leftC_le g h m) ?_
 have h1 : g.ns.length * h.ns.length ≤ 512 * 512 := Nat.mul_le_mul ng nh
 refine Nat.le_trans (Nat.mul_le_mul (Nat.mul_le_mul (Nat.le_refl 2) h1) (Nat.add_le_add wg wh)) ?_
 decide
structure SubInv (g h : Tre.Graph) (l : List Claim) (m : Claim → Option Unit) : Prop where
 lt : ∀ c : Claim, c ∈ l ∨ m c ≠ none → c.1 < g.ns.length ∧ c.2.1 < h.ns.length
 root : (g.root.toNat, h.root.toNat, false) ∈ l ∨ m (g.root.toNat, h.root.toNat, false) ≠ none
 done : ∀ c : Claim, m c ≠ none → FolOk g h c.1 c.2.1 c.2.2 ∧ ∀ c' : Claim, Fol g h c.1 c.2.1 c.2.2 c'.1 c'.2.1 c'.2.2 → c' ∈ l ∨ m c' ≠ none
 hold : SubAt g h g.root.toNat h.root.toNat false → ∀ c : Claim, c ∈ l ∨ m c ≠ none → SubAt g h c.1 c.2.1 c.2.2
section
variable {g h : Tre.Graph} {l : List Claim} {m : Claim → Option Unit} {c : Claim}
theorem SubInv.start (og : g.Ok) (oh : h.Ok) : SubInv g h [(g.root.toNat, h.root.toNat, false)] (fun _ => none) := by
 refine ⟨?_, .inl (by simp), ?_, ?_⟩
 ·rintro c (h1 | h1)
  ·simp at h1; subst h1; exact ⟨by have := og.root0; have := og.root1; show g.root.toNat < _; omega, by have := oh.root0; have := oh.root1; show h.root.toNat < _; omega⟩
  ·exact absurd rfl h1
 ·intro c h1; exact absurd rfl h1
 ·rintro s c (h1 | h1)
  ·simp at h1; subst h1; exact s
  ·exact absurd rfl h1
theorem SubInv.met (i : SubInv g h (l ++ [c]) m) (hm : m c ≠ none) : SubInv g h l m := by
 have up : ∀ x : Claim, x ∈ l ∨ m x ≠ none → x ∈ l ++ [c] ∨ m x ≠ none := fun x hx => hx.imp (fun h => by simp [h]) id
 have dn : ∀ x : Claim, x ∈ l ++ [c] ∨ m x ≠ none → x ∈ l ∨ m x ≠ none := fun x hx => by
  rcases hx with h | h
  ·rcases List.mem_append.1 h with h | h
   ·exact .inl h
   ·simp at h; subst h; exact .inr hm
  ·exact .inr h
 exact ⟨fun x hx => i.lt x (up x hx), dn _ i.root, fun x hx => ⟨(i.done x hx).1, fun y hy => dn _ ((i.done x hx).2 y hy)⟩, fun s x hx => i.hold s x (up x hx)⟩
theorem SubInv.fail (i : SubInv g h (l ++ [c]) m) (hf : ¬ FolOk g h c.1 c.2.1 c.2.2) : subB g h = false := by
 cases e : subB g h with
 | false => rfl
 | true => exact absurd (i.hold (subB_iff.1 e) c (.inl (by simp))).ok hf
theorem SubInv.more {ks : List Claim} (og : g.Ok) (oh : h.Ok) (i : SubInv g h (l ++ [c]) m) (ho : FolOk g h c.1 c.2.1 c.2.2) (hk : ∀ x : Claim, x ∈ ks ↔ Fol g h c.1 c.2.1 c.2.2 x.1 x.2.1 x.2.2) : SubInv g h (l ++ ks) (upd m c ()) := by
 have hc := i.lt c (.inl (by simp))
 have me : ∀ x : Claim, upd m c () x ≠ none ↔ x = c ∨ m x ≠ none := fun x => by
  unfold upd
  by_cases e : x = c
  ·simp [e]
  ·simp [e]
 have cov : ∀ x : Claim, x ∈ l ++ [c] ∨ m x ≠ none → x ∈ l ++ ks ∨ upd m c () x ≠ none := fun x hx => by
  rcases hx with h | h
  ·rcases List.mem_append.1 h with h | h
   ·exact .inl (by simp [h])
   ·simp at h; exact .inr ((me x).2 (.inl h))
  ·exact .inr ((me x).2 (.inr h))
 have src : ∀ x : Claim, x ∈ l ++ ks ∨ upd m c () x ≠ none → x ∈ ks ∨ x ∈ l ++ [c] ∨ m x ≠ none := fun x hx => by
  rcases hx with h | h
  ·rcases List.mem_append.1 h with h | h
   ·exact .inr (.inl (by simp [h]))
   ·exact .inl h
  ·rcases (me x).1 h with h | h
   ·exact .inr (.inl (by simp [h]))
   ·exact .inr (.inr h)
 refine ⟨fun x hx => ?_, cov _ i.root, fun x hx => ?_, fun s x hx => ?_⟩
 ·rcases src x hx with h | h
  ·exact ((hk x).1 h).lt og oh hc.1 hc.2 ho
  ·exact i.lt x h
 ·rcases (me x).1 hx with rfl | h
  ·exact ⟨ho, fun y hy => .inl (by simp [(hk y).2 hy])⟩
  ·exact ⟨(i.done x h).1, fun y hy => cov _ ((i.done x h).2 y hy)⟩
 ·rcases src x hx with h | h
  ·exact (i.hold s c (.inl (by simp))).fol ((hk x).1 h)
  ·exact i.hold s x h
theorem SubInv.all (i : SubInv g h [] m) : subB g h = true := by
 rw [subB_iff]
 refine ⟨fun a b t => m (a, b, t) ≠ none, ⟨fun a b t h => (i.done (a, b, t) h).1, fun a b t a' b' t' h f => ?_⟩, ?_⟩
 ·rcases (i.done (a, b, t) h).2 (a', b', t') f with h | h
  ·simp at h
  ·exact h
 ·rcases i.root with h | h
  ·simp at h
  ·exact h
end
def conL (g h : Tre.Graph) (a b : Nat) (t : Bool) : List Claim := (List.range (g.deg a)).map fun i => (g.kid a i, h.kid b i, turnB (g.nd a).name i t)
theorem mem_conL {g h : Tre.Graph} {a b : Nat} {t : Bool} (h3 : (g.nd a).kind ≠ 3) (x : Claim) : x ∈ conL g h a b t ↔ Fol g h a b t x.1 x.2.1 x.2.2 := by
 unfold conL
 rw [List.mem_map]
 constructor
 ·rintro ⟨i, hi, rfl⟩
  exact .inr ⟨h3, i, List.mem_range.1 hi, rfl, rfl, rfl⟩
 ·rintro (⟨h, _⟩ | ⟨_, i, hi, h1, h2, h4⟩)
  ·exact absurd h h3
  ·exact ⟨i, List.mem_range.2 hi, by obtain ⟨x1, x2, x3⟩ := x; simp at h1 h2 h4; rw [h1, h2, h4]⟩




end Go.Tre
namespace Go.Tre
section
variable {P : Program} {ops : Array Oper} {Q : Exit → Act → World → Prop} {md : Region.Mode} {S : World → Prop}
end
end Go.Tre
