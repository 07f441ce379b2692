/- A search among labels that rise. Layer 12, plain: which graph may stand for which; it is an order. Layer 12, plain: a type without free nodes; without a label; written twice. Layer 12, plain: going through claims, none of which is asked twice. Steps through a drawn region, by hand: the slot that an operation writes is typed. -/
import Derived.Test.YtoieknnnadgfpaaGreatDoorB01
import Derived.Test.YtoieknnnadgfpaaGreatDoorShelf
import Derived.Sort.Walk0
import Derived.Test.YtoieknnnadgfpaaGreatDoorB05
import Derived.Test.YtoieknnnadgfpaaGreatDoorB07
import Derived.Test.YtoieknnnadgfpaaGreatDoorB03
import Derived.Deep.RegionHeld3
set_option linter.unusedVariables false
namespace Go.Tre
open Go.RowKit
theorem less_trans {a b c : List UInt8} (h1 : Op.bytesLess a b = true) (h2 : Op.bytesLess b c = true) : Op.bytesLess a c = true := by
 rw [Go.Proofs.bytesLess_eq, decide_eq_true_iff] at *
 exact List.lt_trans h1 h2
theorem less_irrefl (a : List UInt8) : Op.bytesLess a a = false := by
 rw [Go.Proofs.bytesLess_eq, decide_eq_false_iff_not]
 exact List.lt_irrefl a
theorem rising_lt {l : List ByteArray} (h : rising l = true) : ∀ (d i : Nat), i + d + 1 < l.length → Op.bytesLess (l.getD i ByteArray.empty).toList (l.getD (i + d + 1) ByteArray.empty).toList = true := by
 have one : ∀ i, i + 1 < l.length → Op.bytesLess (l.getD i ByteArray.empty).toList (l.getD (i + 1) ByteArray.empty).toList = true := fun i hi => by
  unfold rising at h
  have := (List.all_eq_true.1 h) (i + 1) (List.mem_range.2 hi)
  unfold labelOk at this
  rw [Bool.and_eq_true, Bool.or_eq_true] at this
  rcases this.2 with h2 | h2
  ·simp at h2
  ·simpa using h2
 intro d
 induction d with
 | zero => intro i hi; exact one i (by omega)
 | succ d ih => intro i hi; exact less_trans (ih i (by omega)) (one (i + d + 1) (by omega))
theorem search_found {l : List ByteArray} (h : rising l = true) {i : Nat} (hi : i < l.length) : Lib.bsGo (fun t => Op.bytesLess (l.getD t ByteArray.empty).toList (l.getD i ByteArray.empty).toList) l.length 0 l.length = i := by
 have e : ∀ (f lo hi' : Nat), lo ≤ i → i ≤ hi' → hi' ≤ l.length → hi' - lo ≤ f → Lib.bsGo (fun t => Op.bytesLess (l.getD t ByteArray.empty).toList (l.getD i ByteArray.empty).toList) f lo hi' = i := by
  intro f
  induction f with
  | zero => intro lo hi' h1 h2 _ h3; simp [Lib.bsGo]; omega
  | succ f ih =>
   intro lo hi' h1 h2 h4 h3
   unfold Lib.bsGo
   by_cases hl : lo < hi'
   ·rw [if_pos hl]
    by_cases hm : (lo + hi') / 2 < i
    ·have : Op.bytesLess (l.getD ((lo + hi') / 2) ByteArray.empty).toList (l.getD i ByteArray.empty).toList = true := by
      have := rising_lt h (i - (lo + hi') / 2 - 1) ((lo + hi') / 2) (by omega)
      rwa [show (lo + hi') / 2 + (i - (lo + hi') / 2 - 1) + 1 = i by omega] at this
     rw [if_pos this]
     exact ih _ _ (by omega) h2 h4 (by omega)
    ·have : Op.bytesLess (l.getD ((lo + hi') / 2) ByteArray.empty).toList (l.getD i ByteArray.empty).toList = false := by
      by_cases he : (lo + hi') / 2 = i
      ·rw [he]; exact less_irrefl _
      ·have hlt := rising_lt h ((lo + hi') / 2 - i - 1) i (by omega)
       rw [show i + ((lo + hi') / 2 - i - 1) + 1 = (lo + hi') / 2 by omega] at hlt
       cases hb : Op.bytesLess (l.getD ((lo + hi') / 2) ByteArray.empty).toList (l.getD i ByteArray.empty).toList
       ·rfl
       ·have := less_trans hb hlt
        rw [less_irrefl] at this; cases this
     rw [if_neg (by rw [this]; simp)]
     exact ih _ _ h1 (by omega) (by omega) (by omega)
   ·rw [if_neg hl]; omega
 exact e _ _ _ (Nat.zero_le _) (by omega) (Nat.le_refl _) (by omega)
end Go.Tre
namespace Go.Proofs.YtoieknnnadgfpaaGreatDoor.gr
open Go.RowKit Go.Shelf Go.Maps Go.Tre
theorem search_any (a : Option Addr) (c : Nat) (l : List ByteArray) (i : Nat) (s : ByteArray) (w : World) (hx : StrsAt w a l) (hr : rising l = true) (hi : i < l.length) (hs : l[i]? = some s) (hb : l.length ≤ 8388608) :
  Calls Tryz.prog 27 #[.slice a l.length c, .string s] w fun e w' => e = .returned (.tuple #[.int .i64 (i : Int), .bool true]) ∧ Below w.heap.size w w' := by
 obtain ⟨b, o, rfl, _⟩ := hx.at_ i (.string s) (by rw [List.getElem?_map, hs]; rfl)
 have hsd : s = l.getD i ByteArray.empty := by rw [List.getD_eq_getElem?_getD, hs]; rfl
 refine (Tryz.slices_BinarySearch_string b o l.length c (fun t => l.getD t ByteArray.empty) s w (by omega) (fun j hj => ?_)).mono ?_
 ·obtain ⟨b', o', e, hc⟩ := hx.at_ j (.string l[j]) (by rw [List.getElem?_map, List.getElem?_eq_getElem hj]; rfl)
  cases e
  rw [hc, List.getD_eq_getElem?_getD, List.getElem?_eq_getElem hj]; rfl
 ·rintro e w' ⟨rfl, q, rfl⟩
  refine ⟨?_, Go.below_drewN (Below.refl _ _) q⟩
  rw [hsd, search_found hr hi, decide_eq_true ⟨hi, rfl⟩]
end Go.Proofs.YtoieknnnadgfpaaGreatDoor.gr
namespace Go.Tre
def arrowB : ByteArray := ⟨#[45, 62]⟩
def turnB (s : ByteArray) (i : Nat) (t : Bool) : Bool := if s = arrowB ∧ i = 0 then !t else t
def FolOk (g h : Tre.Graph) (a b : Nat) (t : Bool) : Prop :=
 (g.nd a).kind = (h.nd b).kind ∧ (g.nd a).name = (h.nd b).name ∧ ((g.nd a).kind = 3 → (t = true → ∀ s ∈ (g.nd a).labels, s ∈ (h.nd b).labels) ∧ (t = false → ∀ s ∈ (h.nd b).labels, s ∈ (g.nd a).labels))
def Fol (g h : Tre.Graph) (a b : Nat) (t : Bool) (a' b' : Nat) (t' : Bool) : Prop :=
 ((g.nd a).kind = 3 ∧ t' = t ∧ ∃ i j s, (g.nd a).labels[i]? = some s ∧ (h.nd b).labels[j]? = some s ∧ a' = g.kid a i ∧ b' = h.kid b j) ∨
 ((g.nd a).kind ≠ 3 ∧ ∃ i, i < g.deg a ∧ a' = g.kid a i ∧ b' = h.kid b i ∧ t' = turnB (g.nd a).name i t)
structure SubRel (g h : Tre.Graph) (R : Nat → Nat → Bool → Prop) : Prop where
 ok : ∀ a b t, R a b t → FolOk g h a b t
 fol : ∀ a b t a' b' t', R a b t → Fol g h a b t a' b' t' → R a' b' t'
def SubAt (g h : Tre.Graph) (a b : Nat) (t : Bool) : Prop := ∃ R, SubRel g h R ∧ R a b t
section
variable {g h k : Tre.Graph} {a b c : Nat} {t : Bool}
theorem SubAt.ok (s : SubAt g h a b t) : FolOk g h a b t := by obtain ⟨R, r, h1⟩ := s; exact r.ok _ _ _ h1
theorem SubAt.fol (s : SubAt g h a b t) {a' b' : Nat} {t' : Bool} (f : Fol g h a b t a' b' t') : SubAt g h a' b' t' := by obtain ⟨R, r, h1⟩ := s; exact ⟨R, r, r.fol _ _ _ _ _ _ h1 f⟩
theorem SubAt.mk (o : FolOk g h a b t) (f : ∀ a' b' t', Fol g h a b t a' b' t' → SubAt g h a' b' t') : SubAt g h a b t := by
 refine ⟨fun x y u => (x = a ∧ y = b ∧ u = t) ∨ SubAt g h x y u, ⟨?_, ?_⟩, .inl ⟨rfl, rfl, rfl⟩⟩
 ·rintro x y u (⟨rfl, rfl, rfl⟩ | s)
  ·exact o
  ·exact s.ok
 ·rintro x y u x' y' u' (⟨rfl, rfl, rfl⟩ | s) hf
  ·exact .inr (f _ _ _ hf)
  ·exact .inr (s.fol hf)
theorem obj_deg (og : g.Ok) (ha : a < g.ns.length) (hk : (g.nd a).kind = 3) : (g.nd a).labels.length = g.deg a ∧ rising (g.nd a).labels = true := by
 have h := og.may a ha
 unfold mayB at h
 rw [Bool.and_eq_true, if_neg (by rw [hk]; decide), if_neg (by rw [hk]; decide), if_pos hk] at h
 simp only [Bool.and_eq_true, decide_eq_true_iff] at h
 exact ⟨h.2.1.2, h.2.2⟩
theorem con_deg (og : g.Ok) (ha : a < g.ns.length) (hk : (g.nd a).kind = 2) : arity (g.nd a).name = some (g.deg a : Int) := by
 have h := og.may a ha
 unfold mayB at h
 rw [Bool.and_eq_true, if_neg (by rw [hk]; decide), if_pos hk] at h
 simp only [Bool.and_eq_true] at h
 have h2 := h.2.2
 cases hx : arity (g.nd a).name with
 | none => rw [hx] at h2; cases h2
 | some z => rw [hx] at h2; simp only [decide_eq_true_iff] at h2; unfold Graph.deg; rw [h2]
theorem var_deg (og : g.Ok) (ha : a < g.ns.length) (hk : (g.nd a).kind = 1) : g.deg a = 0 := by
 have h := og.may a ha
 unfold mayB at h
 rw [Bool.and_eq_true, if_pos hk] at h
 simp only [Bool.and_eq_true, decide_eq_true_iff] at h
 exact h.2.2
theorem node_kind (og : g.Ok) (ha : a < g.ns.length) : (g.nd a).kind = 1 ∨ (g.nd a).kind = 2 ∨ (g.nd a).kind = 3 := (words_of (og.may a ha)).kind
theorem same_deg (og : g.Ok) (oh : h.Ok) (ha : a < g.ns.length) (hb : b < h.ns.length) (hk : (g.nd a).kind = (h.nd b).kind) (hn : (g.nd a).name = (h.nd b).name) (h3 : (g.nd a).kind ≠ 3) : g.deg a = h.deg b := by
 rcases node_kind og ha with e | e | e
 ·rw [var_deg og ha e, var_deg oh hb (by rw [← hk]; exact e)]
 ·have h1 := con_deg og ha e
  have h2 := con_deg oh hb (by rw [← hk]; exact e)
  rw [hn, h2] at h1
  injection h1 with h1
  omega
 ·exact absurd e h3
theorem idx_lt {α : Type} {l : List α} {i : Nat} {s : α} (h : l[i]? = some s) : i < l.length := (List.getElem?_eq_some_iff.1 h).1
theorem Fol.lt (og : g.Ok) (oh : h.Ok) (ha : a < g.ns.length) (hb : b < h.ns.length) (o : FolOk g h a b t) {a' b' : Nat} {t' : Bool} (f : Fol g h a b t a' b' t') : a' < g.ns.length ∧ b' < h.ns.length := by
 rcases f with ⟨h3, _, i, j, s, h1, h2, rfl, rfl⟩ | ⟨h3, i, hi, rfl, rfl, _⟩
 ·have l1 := (obj_deg og ha h3).1
  have l2 := (obj_deg oh hb (by rw [← o.1]; exact h3)).1
  exact ⟨og.kid_lt ha (by rw [← l1]; exact idx_lt h1), oh.kid_lt hb (by rw [← l2]; exact idx_lt h2)⟩
 ·exact ⟨og.kid_lt ha hi, oh.kid_lt hb (by rw [← same_deg og oh ha hb o.1 o.2.1 h3]; exact hi)⟩
theorem SubAt.trans (og : g.Ok) (oh : h.Ok) (ok : k.Ok) (ha : a < g.ns.length) (hb : b < h.ns.length) (hc : c < k.ns.length) (s : SubAt g h a b t) (s' : SubAt h k b c t) : SubAt g k a c t := by
 refine ⟨fun x z u => ∃ y, x < g.ns.length ∧ y < h.ns.length ∧ z < k.ns.length ∧ SubAt g h x y u ∧ SubAt h k y z u, ⟨?_, ?_⟩, b, ha, hb, hc, s, s'⟩
 ·rintro x z u ⟨y, _, _, _, s, s'⟩
  refine ⟨s.ok.1.trans s'.ok.1, s.ok.2.1.trans s'.ok.2.1, fun h3 => ?_⟩
  have h1 := s.ok.2.2 h3
  have h2 := s'.ok.2.2 (by rw [← s.ok.1]; exact h3)
  exact ⟨fun e w hw => h2.1 e w (h1.1 e w hw), fun e w hw => h1.2 e w (h2.2 e w hw)⟩
 ·rintro x z u x' z' u' ⟨y, hx, hy, hz, s, s'⟩ f
  rcases f with ⟨h3, rfl, i, j, w, h1, h2, rfl, rfl⟩ | ⟨h3, i, hi, rfl, rfl, rfl⟩
  ·have k3 : (h.nd y).kind = 3 := by rw [← s.ok.1]; exact h3
   have hm : w ∈ (h.nd y).labels := by
    cases u'
    ·exact (s'.ok.2.2 k3).2 rfl w (List.mem_of_getElem? h2)
    ·exact (s.ok.2.2 h3).1 rfl w (List.mem_of_getElem? h1)
   obtain ⟨l, hl⟩ := List.getElem?_of_mem hm
   have f1 : Fol g h x y u' (g.kid x i) (h.kid y l) u' := .inl ⟨h3, rfl, i, l, w, h1, hl, rfl, rfl⟩
   have f2 : Fol h k y z u' (h.kid y l) (k.kid z j) u' := .inl ⟨k3, rfl, l, j, w, hl, h2, rfl, rfl⟩
   have l1 := f1.lt og oh hx hy s.ok
   have l2 := f2.lt oh ok hy hz s'.ok
   exact ⟨_, l1.1, l1.2, l2.2, s.fol f1, s'.fol f2⟩
  ·have f1 : Fol g h x y u (g.kid x i) (h.kid y i) (turnB (g.nd x).name i u) := .inr ⟨h3, i, hi, rfl, rfl, rfl⟩
   have hd := same_deg og oh hx hy s.ok.1 s.ok.2.1 h3
   have f2 : Fol h k y z u (h.kid y i) (k.kid z i) (turnB (g.nd x).name i u) := .inr ⟨by rw [← s.ok.1]; exact h3, i, by rw [← hd]; exact hi, rfl, rfl, by rw [s.ok.2.1]⟩
   have l1 := f1.lt og oh hx hy s.ok
   have l2 := f2.lt oh ok hy hz s'.ok
   exact ⟨_, l1.1, l1.2, l2.2, s.fol f1, s'.fol f2⟩
end
structure Sim (g g' : Tre.Graph) (S : Nat → Nat → Prop) : Prop where
 lt : ∀ a a', S a a' → a < g.ns.length ∧ a' < g'.ns.length
 kind : ∀ a a', S a a' → (g.nd a).kind = (g'.nd a').kind
 name : ∀ a a', S a a' → (g.nd a).name = (g'.nd a').name
 labels : ∀ a a', S a a' → (g.nd a).labels = (g'.nd a').labels
 deg : ∀ a a', S a a' → g.deg a = g'.deg a'
 kid : ∀ a a' i, S a a' → i < g.deg a → S (g.kid a i) (g'.kid a' i)
section
variable {g g' h h' : Tre.Graph} {S S' : Nat → Nat → Prop}
theorem Sim.swap (i : Sim g g' S) : Sim g' g (fun a' a => S a a') :=
 ⟨fun a' a s => (i.lt a a' s).symm, fun a' a s => (i.kind a a' s).symm, fun a' a s => (i.name a a' s).symm, fun a' a s => (i.labels a a' s).symm, fun a' a s => (i.deg a a' s).symm, fun a' a j s hj => i.kid a a' j s (by rw [i.deg a a' s]; exact hj)⟩
theorem Sim.id (og : g.Ok) : Sim g g (fun a a' => a = a' ∧ a < g.ns.length) := by
 refine ⟨?_, ?_, ?_, ?_, ?_, ?_⟩
 ·rintro a _ ⟨rfl, h⟩; exact ⟨h, h⟩
 ·rintro a _ ⟨rfl, h⟩; rfl
 ·rintro a _ ⟨rfl, h⟩; rfl
 ·rintro a _ ⟨rfl, h⟩; rfl
 ·rintro a _ ⟨rfl, h⟩; rfl
 ·rintro a _ i ⟨rfl, h⟩ hi; exact ⟨rfl, og.kid_lt h hi⟩
theorem SubAt.sim (og : g.Ok) (oh : h.Ok) (i : Sim g g' S) (j : Sim h h' S') {a a' b b' : Nat} {t : Bool} (ha : S a a') (hb : S' b b') (s : SubAt g h a b t) : SubAt g' h' a' b' t := by
 refine ⟨fun x' y' u => ∃ x y, S x x' ∧ S' y y' ∧ SubAt g h x y u, ⟨?_, ?_⟩, a, b, ha, hb, s⟩
 ·rintro x' y' u ⟨x, y, hx, hy, s⟩
  have o := s.ok
  unfold FolOk at o ⊢
  rw [← i.kind _ _ hx, ← j.kind _ _ hy, ← i.name _ _ hx, ← j.name _ _ hy, ← i.labels _ _ hx, ← j.labels _ _ hy]
  exact o
 ·rintro x' y' u x2' y2' u' ⟨x, y, hx, hy, s⟩ f
  have lx := (i.lt _ _ hx).1
  have ly := (j.lt _ _ hy).1
  rcases f with ⟨h3, rfl, p, q, w, h1, h2, rfl, rfl⟩ | ⟨h3, p, hp, rfl, rfl, rfl⟩
  ·rw [← i.kind _ _ hx] at h3
   rw [← i.labels _ _ hx] at h1
   rw [← j.labels _ _ hy] at h2
   have d1 := (obj_deg og lx h3).1
   have d2 := (obj_deg oh ly (by rw [← s.ok.1]; exact h3)).1
   exact ⟨_, _, i.kid _ _ p hx (by rw [← d1]; exact idx_lt h1), j.kid _ _ q hy (by rw [← d2]; exact idx_lt h2), s.fol (.inl ⟨h3, rfl, p, q, w, h1, h2, rfl, rfl⟩)⟩
  ·rw [← i.kind _ _ hx] at h3
   rw [← i.deg _ _ hx] at hp
   have hd := same_deg og oh lx ly s.ok.1 s.ok.2.1 h3
   exact ⟨_, _, i.kid _ _ p hx hp, j.kid _ _ p hy (by rw [← hd]; exact hp), s.fol (.inr ⟨h3, p, hp, rfl, rfl, by rw [i.name _ _ hx]⟩)⟩
theorem SubAt.refl (og : g.Ok) {a : Nat} {t : Bool} (ha : a < g.ns.length) : SubAt g g a a t := by
 refine ⟨fun x y _ => x = y ∧ x < g.ns.length, ⟨?_, ?_⟩, rfl, ha⟩
 ·rintro x _ u ⟨rfl, _⟩
  exact ⟨rfl, rfl, fun _ => ⟨fun _ s hs => hs, fun _ s hs => hs⟩⟩
 ·rintro x _ u x' y' u' ⟨rfl, hx⟩ f
  have l := f.lt og og hx hx ⟨rfl, rfl, fun _ => ⟨fun _ s hs => hs, fun _ s hs => hs⟩⟩
  refine ⟨?_, l.1⟩
  rcases f with ⟨h3, _, i, j, s, h1, h2, rfl, rfl⟩ | ⟨h3, i, hi, rfl, rfl, _⟩
  ·have hr := (obj_deg og hx h3).2
   have : i = j := by
    have hi := idx_lt h1
    have hj := idx_lt h2
    have e : (g.nd x).labels.getD i ByteArray.empty = (g.nd x).labels.getD j ByteArray.empty := by
     rw [List.getD_eq_getElem?_getD, List.getD_eq_getElem?_getD, h1, h2]
    have e1 := search_found hr hi
    have e2 := search_found hr hj
    rw [e] at e1
    omega
   rw [this]
  ·rfl
theorem rising_pw {l : List ByteArray} (h : rising l = true) : l.Pairwise fun x y => Op.bytesLess x.toList y.toList = true := by
 rw [List.pairwise_iff_getElem]
 intro i j hi hj hij
 have := rising_lt h (j - i - 1) i (by omega)
 rw [show i + (j - i - 1) + 1 = j by omega, List.getD_eq_getElem?_getD, List.getD_eq_getElem?_getD, List.getElem?_eq_getElem hi, List.getElem?_eq_getElem hj] at this
 exact this
theorem pw_eq : ∀ {l m : List ByteArray}, l.Pairwise (fun x y => Op.bytesLess x.toList y.toList = true) → m.Pairwise (fun x y => Op.bytesLess x.toList y.toList = true) → (∀ s, s ∈ l ↔ s ∈ m) → l = m
 | [], [], _, _, _ => rfl
 | [], b :: m, _, _, h => by have := (h b).2 (by simp); simp at this
 | a :: l, [], _, _, h => by have := (h a).1 (by simp); simp at this
 | a :: l, b :: m, h1, h2, h => by
  obtain ⟨p1, p2⟩ := List.pairwise_cons.1 h1
  obtain ⟨q1, q2⟩ := List.pairwise_cons.1 h2
  have e : a = b := by
   rcases List.mem_cons.1 ((h a).1 (by simp)) with e | e
   ·exact e
   ·rcases List.mem_cons.1 ((h b).2 (by simp)) with e' | e'
    ·exact e'.symm
    ·have := less_trans (q1 a e) (p1 b e')
     rw [less_irrefl] at this; cases this
  subst e
  rw [pw_eq p2 q2 (fun s => ?_)]
  constructor
  ·intro hs
   rcases List.mem_cons.1 ((h s).1 (by simp [hs])) with e | e
   ·subst e; have := p1 s hs; rw [less_irrefl] at this; cases this
   ·exact e
  ·intro hs
   rcases List.mem_cons.1 ((h s).2 (by simp [hs])) with e | e
   ·subst e; have := q1 s hs; rw [less_irrefl] at this; cases this
   ·exact e
theorem SameG.sim (s : SameG g h) : Sim g h (RP g h) := by
 have og := Graph.ok_of s.okg
 have oh := Graph.ok_of s.okh
 refine ⟨fun a b r => r.lt og oh, fun a b r => (alike_parts (s.alike a b r)).1, fun a b r => (alike_parts (s.alike a b r)).2.1, fun a b r => (alike_parts (s.alike a b r)).2.2.1, fun a b r => alike_deg (s.alike a b r), fun a b i r hi => r.kid hi ?_⟩
 have := alike_deg (s.alike a b r)
 unfold Graph.deg at hi ⊢
 rw [← this]; exact hi
def Graph.Shut (g : Tre.Graph) : Prop := ∀ a, Rch g g.root.toNat a → freeB (g.nd a) = false
theorem shut_of (c0 : g.checkC = 0) (h : g.freeL.length = 0) : g.Shut := by
 intro a ha
 cases hf : freeB (g.nd a)
 ·rfl
 ·have h1 := (free_of_reach c0).2 ⟨ha, hf⟩
  rw [List.length_eq_zero_iff.1 h] at h1
  cases h1
theorem free_none (c0 : g.checkC = 0) (h : g.Shut) : g.freeL.length = 0 := by
 rw [List.length_eq_zero_iff, List.eq_nil_iff_forall_not_mem]
 intro a ha
 have h1 := (free_of_reach c0).1 ha
 rw [h a h1.1] at h1
 cases h1.2
open Classical in
noncomputable def subB (g h : Tre.Graph) : Bool := decide (SubAt g h g.root.toNat h.root.toNat false)
theorem subB_iff : subB g h = true ↔ SubAt g h g.root.toNat h.root.toNat false := by unfold subB; simp
theorem no_labels (og : g.Ok) {a : Nat} (ha : a < g.ns.length) (hk : (g.nd a).kind ≠ 3) : (g.nd a).labels = [] := by
 have h := og.may a ha
 unfold mayB at h
 rw [Bool.and_eq_true] at h
 have h := h.2
 rcases node_kind og ha with e | e | e
 ·rw [if_pos e] at h
  simp only [Bool.and_eq_true, decide_eq_true_iff] at h
  exact List.eq_nil_of_length_eq_zero h.1.1.1
 ·rw [if_neg (by rw [e]; decide), if_pos e] at h
  simp only [Bool.and_eq_true, decide_eq_true_iff] at h
  exact List.eq_nil_of_length_eq_zero h.1.1
 ·exact absurd e hk
theorem free_parts (og : g.Ok) {a : Nat} (ha : a < g.ns.length) (hf : freeB (g.nd a) = false) : (g.nd a).isOpen = false := by
 have h := og.may a ha
 unfold mayB at h
 rw [Bool.and_eq_true] at h
 have h := h.2
 rcases node_kind og ha with e | e | e
 ·unfold freeB at hf; rw [e] at hf; simp at hf
 ·rw [if_neg (by rw [e]; decide), if_pos e] at h
  simp only [Bool.and_eq_true, Bool.not_eq_true'] at h
  exact h.1.2
 ·unfold freeB at hf; rw [e] at hf; simpa using hf
theorem sub_anti (c0 : g.checkC = 0) (c1 : h.checkC = 0) (sg : g.Shut) (sh : h.Shut) : (subB g h = true ∧ subB h g = true) ↔ SameG g h := by
 have og := Graph.ok_of c0
 have oh := Graph.ok_of c1
 rw [subB_iff, subB_iff]
 constructor
 ·rintro ⟨s1, s2⟩
  have all : ∀ a b, RP g h a b → a < g.ns.length ∧ b < h.ns.length ∧ (∃ t, SubAt g h a b t ∧ SubAt h g b a t) ∧ Rch g g.root.toNat a ∧ Rch h h.root.toNat b := by
   intro a b r
   induction r with
   | root => exact ⟨og.root1, oh.root1, ⟨false, s1, s2⟩, .refl, .refl⟩
   | @kid a b i _ h1 h2 ih =>
    obtain ⟨la, lb, ⟨t, u1, u2⟩, ra, rb⟩ := ih
    refine ⟨og.kid_lt la h1, oh.kid_lt lb h2, ?_, ra.kid h1, rb.kid h2⟩
    by_cases h3 : (g.nd a).kind = 3
    ·have h3' : (h.nd b).kind = 3 := by rw [← u1.ok.1]; exact h3
     have e : (g.nd a).labels = (h.nd b).labels := by
      refine pw_eq (rising_pw (obj_deg og la h3).2) (rising_pw (obj_deg oh lb h3').2) (fun s => ?_)
      cases t
      ·exact ⟨(u2.ok.2.2 h3').2 rfl s, (u1.ok.2.2 h3).2 rfl s⟩
      ·exact ⟨(u1.ok.2.2 h3).1 rfl s, (u2.ok.2.2 h3').1 rfl s⟩
     have hi : i < (g.nd a).labels.length := by rw [(obj_deg og la h3).1]; exact h1
     have e1 : (g.nd a).labels[i]? = some (g.nd a).labels[i] := List.getElem?_eq_getElem hi
     have e2 : (h.nd b).labels[i]? = some (g.nd a).labels[i] := by rw [← e]; exact e1
     exact ⟨t, u1.fol (.inl ⟨h3, rfl, i, i, _, e1, e2, rfl, rfl⟩), u2.fol (.inl ⟨h3', rfl, i, i, _, e2, e1, rfl, rfl⟩)⟩
    ·refine ⟨turnB (g.nd a).name i t, u1.fol (.inr ⟨h3, i, h1, rfl, rfl, rfl⟩), u2.fol (.inr ⟨by rw [← u1.ok.1]; exact h3, i, h2, rfl, rfl, by rw [u1.ok.2.1]⟩)⟩
  refine ⟨c0, c1, fun a b r => ?_, fun a b a' b' r r' hf => ?_⟩
  ·obtain ⟨la, lb, ⟨t, u1, u2⟩, ra, rb⟩ := all a b r
   have fa := sg a ra
   have fb := sh b rb
   have hl : (g.nd a).labels = (h.nd b).labels := by
    by_cases h3 : (g.nd a).kind = 3
    ·have h3' : (h.nd b).kind = 3 := by rw [← u1.ok.1]; exact h3
     refine pw_eq (rising_pw (obj_deg og la h3).2) (rising_pw (obj_deg oh lb h3').2) (fun s => ?_)
     cases t
     ·exact ⟨(u2.ok.2.2 h3').2 rfl s, (u1.ok.2.2 h3).2 rfl s⟩
     ·exact ⟨(u1.ok.2.2 h3).1 rfl s, (u2.ok.2.2 h3').1 rfl s⟩
    ·rw [no_labels og la h3, no_labels oh lb (by rw [← u1.ok.1]; exact h3)]
   have hd : (g.nd a).args.length = (h.nd b).args.length := by
    by_cases h3 : (g.nd a).kind = 3
    ·have d1 := (obj_deg og la h3).1
     have d2 := (obj_deg oh lb (by rw [← u1.ok.1]; exact h3)).1
     unfold Graph.deg at d1 d2
     rw [← d1, ← d2, hl]
    ·exact same_deg og oh la lb u1.ok.1 u1.ok.2.1 h3
   unfold alikeB
   simp only [Bool.and_eq_true, decide_eq_true_eq]
   exact ⟨⟨⟨⟨u1.ok.1, u1.ok.2.1⟩, by rw [free_parts og la fa, free_parts oh lb fb]⟩, hd⟩, hl⟩
  ·rw [sg a (all a b r).2.2.2.1] at hf; cases hf
 ·intro s
  exact ⟨(SubAt.refl og og.root1).sim og og (Sim.id og) s.sim ⟨rfl, og.root1⟩ .root, (SubAt.refl og og.root1).sim og og s.sim (Sim.id og) .root ⟨rfl, og.root1⟩⟩
end
end Go.Tre
namespace Go.Tre
/-! shut again, trimmed -/
section
variable {g h : Tre.Graph}
theorem Sim.reach {S : Nat → Nat → Prop} (i : Sim g h S) {a b c : Nat} (s : S a b) (r : Rch h b c) : ∃ x, Rch g a x ∧ S x c := by
 induction r with
 | refl => exact ⟨a, .refl, s⟩
 | @step y z _ hz ih =>
  obtain ⟨x, rx, sx⟩ := ih
  obtain ⟨j, hj, rfl⟩ := List.getElem_of_mem hz
  have hj' : j < h.deg y := by rw [← h.kids_len]; exact hj
  have hj2 : j < g.deg x := by rw [i.deg _ _ sx]; exact hj'
  have e : (h.kids y)[j] = h.kid y j := by rw [kid_kids, List.getD_eq_getElem?_getD, List.getElem?_eq_getElem hj]; rfl
  rw [e]
  exact ⟨g.kid x j, rx.trans (Rch.head (by rw [kid_kids, List.getD_eq_getElem?_getD, List.getElem?_eq_getElem (by rw [g.kids_len]; exact hj2)]; exact List.getElem_mem _) .refl), i.kid _ _ j sx hj2⟩
end
/-! without free nodes -/
def unitB : ByteArray := ⟨#[117, 110, 105, 116]⟩
def closeN (n : Tre.Node) : Tre.Node := if n.kind = 1 then ⟨2, unitB, [], [], false⟩ else { n with isOpen := false }
def Graph.shutG (g : Tre.Graph) : Tre.Graph := ⟨g.ns.map closeN, g.root⟩
def Graph.closeG (g : Tre.Graph) : Tre.Graph := g.shutG.trim
section
variable {g h : Tre.Graph}
end
/-! written twice, each half pointing to the other one -/
def crossN (g : Tre.Graph) (k : Nat) : Tre.Node := { g.nd (k % g.ns.length) with args := (g.nd (k % g.ns.length)).args.map fun y => (y + g.ns.length + ((k / g.ns.length * g.ns.length : Nat) : Int)).tmod ((2 * g.ns.length : Nat) : Int) }
def crossG (g : Tre.Graph) : Tre.Graph := ⟨(List.range (2 * g.ns.length)).map (crossN g), g.root⟩
section
variable {g : Tre.Graph}
end
end Go.Tre
namespace Go.Tre
abbrev Claim := Nat × Nat × Bool
def ccells (l : List Claim) : List Value := l.flatMap fun c => [.int .i64 (c.1 : Int), .int .i64 (c.2.1 : Int), .bool c.2.2]
theorem ccells_len (l : List Claim) : (ccells l).length = l.length * 3 := by
 induction l with
 | nil => rfl
 | cons a l ih => unfold ccells at *; rw [List.flatMap_cons, List.length_append, ih, List.length_cons]; simp; omega
theorem ccells_append (l k : List Claim) : ccells (l ++ k) = ccells l ++ ccells k := by unfold ccells; rw [List.flatMap_append]
theorem ccells_snoc (l : List Claim) (c : Claim) : ccells (l ++ [c]) = ccells l ++ [.int .i64 (c.1 : Int), .int .i64 (c.2.1 : Int), .bool c.2.2] := by rw [ccells_append]; simp [ccells]
def ec (c : Claim) : Value := .agg #[.int .i64 (c.1 : Int), .int .i64 (c.2.1 : Int), .bool c.2.2]
theorem injC (a b : Claim) (h : ec a = ec b) : a = b := by
 obtain ⟨x, y, t⟩ := a
 obtain ⟨x', y', t'⟩ := b
 simp [ec] at h
 obtain ⟨h1, h2, h3⟩ := h
 rw [Int.ofNat_inj.1 h1, Int.ofNat_inj.1 h2, h3]
def univC (n k : Nat) : List Claim := ((univ n k).map fun p => (p.1, p.2, false)) ++ ((univ n k).map fun p => (p.1, p.2, true))
theorem mem_univC {n k : Nat} {c : Claim} (h1 : c.1 < n) (h2 : c.2.1 < k) : c ∈ univC n k := by
 obtain ⟨a, b, t⟩ := c
 unfold univC
 rw [List.mem_append]
 cases t
 ·exact .inl (List.mem_map.2 ⟨(a, b), mem_univ.2 ⟨h1, h2⟩, rfl⟩)
 ·exact .inr (List.mem_map.2 ⟨(a, b), mem_univ.2 ⟨h1, h2⟩, rfl⟩)
theorem univC_nodup (n k : Nat) : (univC n k).Nodup := by
 unfold univC
 refine List.nodup_append.2 ⟨?_, ?_, ?_⟩
 ·exact List.Pairwise.map _ (fun x y hxy e => hxy (by obtain ⟨a, b⟩ := x; obtain ⟨c, d⟩ := y; simpa using e)) (univ_nodup n k)
 ·exact List.Pairwise.map _ (fun x y hxy e => hxy (by obtain ⟨a, b⟩ := x; obtain ⟨c, d⟩ := y; simpa using e)) (univ_nodup n k)
 ·intro a ha b hb e
  obtain ⟨_, _, rfl⟩ := List.mem_map.1 ha
  obtain ⟨_, _, rfl⟩ := List.mem_map.1 hb
  simp at e
theorem univC_len (n k : Nat) : (univC n k).length = 2 * (n * k) := by
 have h : (univ n k).length = n * k := by unfold univ; rw [List.length_flatMap]; simp only [List.length_map, List.length_range]; rw [List.map_const', List.sum_replicate_nat, List.length_range]
 unfold univC
 rw [List.length_append, List.length_map, List.length_map, h]; omega
def wgtC (g h : Tre.Graph) (m : Claim → Option Unit) (c : Claim) : Nat := if m c = none then g.deg c.1 + h.deg c.2.1 else 0
def leftC (g h : Tre.Graph) (m : Claim → Option Unit) : Nat := ((univC g.ns.length h.ns.length).map (wgtC g h m)).sum
theorem leftC_mark {g h : Tre.Graph} {m : Claim → Option Unit} {c : Claim} (h1 : c.1 < g.ns.length) (h2 : c.2.1 < h.ns.length) (hm : m c = none) :
  leftC g h (upd m c ()) + (g.deg c.1 + h.deg c.2.1) = leftC g h m := by
 have := sum_upd (wgtC g h (upd m c ())) (wgtC g h m) c _ (univC_nodup g.ns.length h.ns.length) (mem_univC h1 h2) (fun q hq => by unfold wgtC; rw [upd_ne m () hq])
 have e1 : wgtC g h m c = g.deg c.1 + h.deg c.2.1 := by unfold wgtC; rw [if_pos hm]
 have e2 : wgtC g h (upd m c ()) c = 0 := by unfold wgtC; rw [upd_same]; simp
 unfold leftC
 omega
theorem deg_weight (g : Tre.Graph) (a : Nat) : g.deg a ≤ g.weight := by
 by_cases ha : a < g.ns.length
 ·have h1 := node_weight (List.getElem_mem ha)
  have h2 : g.deg a = g.ns[a].args.length := by unfold Graph.deg; rw [Graph.nd_eq ha]
  have h4 : g.weight = (g.ns.map Node.weight).sum := rfl
  have h3 : g.ns[a].args.length ≤ g.ns[a].weight := by unfold Node.weight; omega
  omega
 ·have : g.deg a = 0 := by unfold Graph.deg Graph.nd; rw [List.getD_eq_getElem?_getD, List.getElem?_eq_none (by omega)]; rfl
  omega
theorem leftC_le (g h : Tre.Graph) (m : Claim → Option Unit) : leftC g h m ≤ 2 * (g.ns.length * h.ns.length) * (g.weight + h.weight) := by
 have key : ∀ l : List Claim, (l.map (wgtC g h m)).sum ≤ l.length * (g.weight + h.weight) := fun l => by
  induction l with
  | nil => simp
  | cons c l ih =>
   have h1 := deg_weight g c.1
   have h2 := deg_weight h c.2.1
   have h3 : wgtC g h m c ≤ g.weight + h.weight := by unfold wgtC; split <;> omega
   rw [List.map_cons, List.sum_cons, List.length_cons, Nat.add_mul]
   omega
 have := key (univC g.ns.length h.ns.length)
 rw [univC_len] at this
 exact this
theorem leftC_small {g h : Tre.Graph} (ng : g.ns.length ≤ 512) (nh : h.ns.length ≤ 512) (wg : g.weight ≤ 2097152) (wh : h.weight ≤ 2097152) (m : Claim → Option Unit) : leftC g h m ≤ 2199023255552 := by
 refine Nat.le_trans (leftC_le g h m) ?_
 have h1 : g.ns.length * h.ns.length ≤ 512 * 512 := Nat.mul_le_mul ng nh
 refine Nat.le_trans (Nat.mul_le_mul (Nat.mul_le_mul (Nat.le_refl 2) h1) (Nat.add_le_add wg wh)) ?_
 decide
structure SubInv (g h : Tre.Graph) (l : List Claim) (m : Claim → Option Unit) : Prop where
 lt : ∀ c : Claim, c ∈ l ∨ m c ≠ none → c.1 < g.ns.length ∧ c.2.1 < h.ns.length
 root : (g.root.toNat, h.root.toNat, false) ∈ l ∨ m (g.root.toNat, h.root.toNat, false) ≠ none
 done : ∀ c : Claim, m c ≠ none → FolOk g h c.1 c.2.1 c.2.2 ∧ ∀ c' : Claim, Fol g h c.1 c.2.1 c.2.2 c'.1 c'.2.1 c'.2.2 → c' ∈ l ∨ m c' ≠ none
 hold : SubAt g h g.root.toNat h.root.toNat false → ∀ c : Claim, c ∈ l ∨ m c ≠ none → SubAt g h c.1 c.2.1 c.2.2
section
variable {g h : Tre.Graph} {l : List Claim} {m : Claim → Option Unit} {c : Claim}
theorem SubInv.start (og : g.Ok) (oh : h.Ok) : SubInv g h [(g.root.toNat, h.root.toNat, false)] (fun _ => none) := by
 refine ⟨?_, .inl (by simp), ?_, ?_⟩
 ·rintro c (h1 | h1)
  ·simp at h1; subst h1; exact ⟨by have := og.root0; have := og.root1; show g.root.toNat < _; omega, by have := oh.root0; have := oh.root1; show h.root.toNat < _; omega⟩
  ·exact absurd rfl h1
 ·intro c h1; exact absurd rfl h1
 ·rintro s c (h1 | h1)
  ·simp at h1; subst h1; exact s
  ·exact absurd rfl h1
theorem SubInv.met (i : SubInv g h (l ++ [c]) m) (hm : m c ≠ none) : SubInv g h l m := by
 have up : ∀ x : Claim, x ∈ l ∨ m x ≠ none → x ∈ l ++ [c] ∨ m x ≠ none := fun x hx => hx.imp (fun h => by simp [h]) id
 have dn : ∀ x : Claim, x ∈ l ++ [c] ∨ m x ≠ none → x ∈ l ∨ m x ≠ none := fun x hx => by
  rcases hx with h | h
  ·rcases List.mem_append.1 h with h | h
   ·exact .inl h
   ·simp at h; subst h; exact .inr hm
  ·exact .inr h
 exact ⟨fun x hx => i.lt x (up x hx), dn _ i.root, fun x hx => ⟨(i.done x hx).1, fun y hy => dn _ ((i.done x hx).2 y hy)⟩, fun s x hx => i.hold s x (up x hx)⟩
theorem SubInv.fail (i : SubInv g h (l ++ [c]) m) (hf : ¬ FolOk g h c.1 c.2.1 c.2.2) : subB g h = false := by
 cases e : subB g h with
 | false => rfl
 | true => exact absurd (i.hold (subB_iff.1 e) c (.inl (by simp))).ok hf
theorem SubInv.more {ks : List Claim} (og : g.Ok) (oh : h.Ok) (i : SubInv g h (l ++ [c]) m) (ho : FolOk g h c.1 c.2.1 c.2.2) (hk : ∀ x : Claim, x ∈ ks ↔ Fol g h c.1 c.2.1 c.2.2 x.1 x.2.1 x.2.2) : SubInv g h (l ++ ks) (upd m c ()) := by
 have hc := i.lt c (.inl (by simp))
 have me : ∀ x : Claim, upd m c () x ≠ none ↔ x = c ∨ m x ≠ none := fun x => by
  unfold upd
  by_cases e : x = c
  ·simp [e]
  ·simp [e]
 have cov : ∀ x : Claim, x ∈ l ++ [c] ∨ m x ≠ none → x ∈ l ++ ks ∨ upd m c () x ≠ none := fun x hx => by
  rcases hx with h | h
  ·rcases List.mem_append.1 h with h | h
   ·exact .inl (by simp [h])
   ·simp at h; exact .inr ((me x).2 (.inl h))
  ·exact .inr ((me x).2 (.inr h))
 have src : ∀ x : Claim, x ∈ l ++ ks ∨ upd m c () x ≠ none → x ∈ ks ∨ x ∈ l ++ [c] ∨ m x ≠ none := fun x hx => by
  rcases hx with h | h
  ·rcases List.mem_append.1 h with h | h
   ·exact .inr (.inl (by simp [h]))
   ·exact .inl h
  ·rcases (me x).1 h with h | h
   ·exact .inr (.inl (by simp [h]))
   ·exact .inr (.inr h)
 refine ⟨fun x hx => ?_, cov _ i.root, fun x hx => ?_, fun s x hx => ?_⟩
 ·rcases src x hx with h | h
  ·exact ((hk x).1 h).lt og oh hc.1 hc.2 ho
  ·exact i.lt x h
 ·rcases (me x).1 hx with rfl | h
  ·exact ⟨ho, fun y hy => .inl (by simp [(hk y).2 hy])⟩
  ·exact ⟨(i.done x h).1, fun y hy => cov _ ((i.done x h).2 y hy)⟩
 ·rcases src x hx with h | h
  ·exact (i.hold s c (.inl (by simp))).fol ((hk x).1 h)
  ·exact i.hold s x h
theorem SubInv.all (i : SubInv g h [] m) : subB g h = true := by
 rw [subB_iff]
 refine ⟨fun a b t => m (a, b, t) ≠ none, ⟨fun a b t h => (i.done (a, b, t) h).1, fun a b t a' b' t' h f => ?_⟩, ?_⟩
 ·rcases (i.done (a, b, t) h).2 (a', b', t') f with h | h
  ·simp at h
  ·exact h
 ·rcases i.root with h | h
  ·simp at h
  ·exact h
end
def conL (g h : Tre.Graph) (a b : Nat) (t : Bool) : List Claim := (List.range (g.deg a)).map fun i => (g.kid a i, h.kid b i, turnB (g.nd a).name i t)
theorem mem_conL {g h : Tre.Graph} {a b : Nat} {t : Bool} (h3 : (g.nd a).kind ≠ 3) (x : Claim) : x ∈ conL g h a b t ↔ Fol g h a b t x.1 x.2.1 x.2.2 := by
 unfold conL
 rw [List.mem_map]
 constructor
 ·rintro ⟨i, hi, rfl⟩
  exact .inr ⟨h3, i, List.mem_range.1 hi, rfl, rfl, rfl⟩
 ·rintro (⟨h, _⟩ | ⟨_, i, hi, h1, h2, h4⟩)
  ·exact absurd h h3
  ·exact ⟨i, List.mem_range.2 hi, by obtain ⟨x1, x2, x3⟩ := x; simp at h1 h2 h4; rw [h1, h2, h4]⟩




end Go.Tre
namespace Go.Tre
section
variable {P : Program} {ops : Array Oper} {Q : Exit → Act → World → Prop} {md : Region.Mode} {S : World → Prop}
end
end Go.Tre
