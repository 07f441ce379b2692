/- Which graphs are the same: pairs of nodes that must be matched; what the going through of pairs keeps. No program in sight. -/
import Derived.Test.YtlkfhbmjemjohaaEqs
namespace Go.Tre
def dummy : Tre.Node := ⟨0, ByteArray.empty, [], [], false⟩
def Graph.nd (g : Tre.Graph) (a : Nat) : Tre.Node := g.ns.getD a dummy
def Graph.kid (g : Tre.Graph) (a i : Nat) : Nat := ((g.nd a).args.getD i 0).toNat
def Graph.deg (g : Tre.Graph) (a : Nat) : Nat := (g.nd a).args.length
theorem Graph.nd_eq {g : Tre.Graph} {a : Nat} (h : a < g.ns.length) : g.nd a = g.ns[a] := by
  unfold Graph.nd; rw [List.getD_eq_getElem?_getD, List.getElem?_eq_getElem h]; rfl

/-- what a graph that may be is like -/
structure Graph.Ok (g : Tre.Graph) : Prop where
  root0 : 0 ≤ g.root
  root1 : g.root.toNat < g.ns.length
  may : ∀ a, a < g.ns.length → mayB (g.nd a) g.ns.length = true
  len : g.ns.length ≤ 1048576
theorem Graph.ok_of {g : Tre.Graph} (h : g.checkC = 0) : g.Ok := by
  unfold Graph.checkC at h
  by_cases hl : 1048576 < g.ns.length
  · rw [if_pos hl] at h; cases h
  rw [if_neg hl] at h
  by_cases hr : g.root < 0 ∨ (g.ns.length : Int) ≤ g.root ∨ g.ns.any (fun n => !mayB n g.ns.length) = true
  · rw [if_pos hr] at h; cases h
  · have h1 : ¬ g.root < 0 := fun e => hr (.inl e)
    have h2 : ¬ (g.ns.length : Int) ≤ g.root := fun e => hr (.inr (.inl e))
    refine ⟨by omega, by omega, fun a ha => ?_, by omega⟩
    rw [Graph.nd_eq ha]
    cases hm : mayB g.ns[a] g.ns.length
    · exact absurd (List.any_eq_true.2 ⟨g.ns[a], List.getElem_mem ha, by rw [hm]; rfl⟩) (fun e => hr (.inr (.inr e)))
    · rfl
theorem Graph.Ok.arg {g : Tre.Graph} (h : g.Ok) {a i : Nat} (ha : a < g.ns.length) (hi : i < g.deg a) : ∃ k : Nat, (g.nd a).args[i]? = some (k : Int) ∧ k = g.kid a i ∧ k < g.ns.length := by
  have hm := h.may a ha
  unfold mayB at hm
  have h1 : (g.nd a).args.any (outside g.ns.length) = false := by
    cases hy : (g.nd a).args.any (outside g.ns.length)
    · rfl
    · rw [hy] at hm; simp at hm
  have hmem : (g.nd a).args[i] ∈ (g.nd a).args := List.getElem_mem hi
  have h2 : outside g.ns.length (g.nd a).args[i] = false := by
    cases hy : outside g.ns.length (g.nd a).args[i]
    · rfl
    · rw [List.any_eq_true.2 ⟨_, hmem, hy⟩] at h1; cases h1
  unfold outside at h2
  simp only [Bool.or_eq_false_iff, decide_eq_false_iff_not] at h2
  have e : g.kid a i = (g.nd a).args[i].toNat := by
    unfold Graph.kid; rw [List.getD_eq_getElem?_getD, List.getElem?_eq_getElem hi]; rfl
  refine ⟨(g.nd a).args[i].toNat, ?_, e.symm, by omega⟩
  rw [List.getElem?_eq_getElem hi]
  congr 1
  omega
theorem Graph.Ok.kid_lt {g : Tre.Graph} (h : g.Ok) {a i : Nat} (ha : a < g.ns.length) (hi : i < g.deg a) : g.kid a i < g.ns.length := by
  obtain ⟨k, _, rfl, hk⟩ := h.arg ha hi
  exact hk

/-- the pairs that must be matched -/
inductive RP (g h : Tre.Graph) : Nat → Nat → Prop where
  | root : RP g h g.root.toNat h.root.toNat
  | kid {a b i : Nat} : RP g h a b → i < g.deg a → i < h.deg b → RP g h (g.kid a i) (h.kid b i)

structure SameG (g h : Tre.Graph) : Prop where
  okg : g.checkC = 0
  okh : h.checkC = 0
  alike : ∀ a b, RP g h a b → alikeB (g.nd a) (h.nd b) = true
  one : ∀ a b a' b', RP g h a b → RP g h a' b' → freeB (g.nd a) = true → (a = a' ↔ b = b')

open Classical in
noncomputable def sameB (g h : Tre.Graph) : Bool := decide (SameG g h)

theorem RP.lt {g h : Tre.Graph} (og : g.Ok) (oh : h.Ok) {a b : Nat} (r : RP g h a b) : a < g.ns.length ∧ b < h.ns.length := by
  induction r with
  | root => exact ⟨og.root1, oh.root1⟩
  | kid _ h1 h2 ih => exact ⟨og.kid_lt ih.1 h1, oh.kid_lt ih.2 h2⟩

theorem alike_deg {x y : Tre.Node} (h : alikeB x y = true) : x.args.length = y.args.length := by
  unfold alikeB at h
  simp only [Bool.and_eq_true, decide_eq_true_eq] at h
  exact h.1.2
theorem alike_free {x y : Tre.Node} (h : alikeB x y = true) : freeB x = freeB y := by
  unfold alikeB at h
  simp only [Bool.and_eq_true, decide_eq_true_eq] at h
  unfold freeB
  rw [h.1.1.1.1, h.1.1.2]

/-- what holds between two rounds; 'ex': which pairs' parts are still to be laid -/
structure Inv (g h : Tre.Graph) (ex : Nat × Nat → Nat → Prop) (l : List (Nat × Nat)) (m : Nat × Nat → Option Unit) (f bk : Nat → Option Nat) : Prop where
  rl : ∀ p ∈ l, RP g h p.1 p.2
  rm : ∀ p, m p ≠ none → RP g h p.1 p.2
  root : (g.root.toNat, h.root.toNat) ∈ l ∨ m (g.root.toNat, h.root.toNat) ≠ none
  alike : ∀ p, m p ≠ none → alikeB (g.nd p.1) (h.nd p.2) = true
  kids : ∀ p, m p ≠ none → ∀ i, i < g.deg p.1 → ¬ ex p i → (g.kid p.1 i, h.kid p.2 i) ∈ l ∨ m (g.kid p.1 i, h.kid p.2 i) ≠ none
  fr : ∀ p, m p ≠ none → freeB (g.nd p.1) = true → f p.1 = some p.2 ∧ bk p.2 = some p.1
  fo : ∀ a b, f a = some b → m (a, b) ≠ none ∧ freeB (g.nd a) = true
  ba : ∀ b a, bk b = some a → m (a, b) ≠ none ∧ freeB (g.nd a) = true

def noEx : Nat × Nat → Nat → Prop := fun _ _ => False

theorem upd_same {α β : Type} [DecidableEq α] (m : α → Option β) (a : α) (x : β) : upd m a x a = some x := by simp [upd]
theorem upd_ne {α β : Type} [DecidableEq α] (m : α → Option β) {a a' : α} (x : β) (h : a' ≠ a) : upd m a x a' = m a' := by simp [upd, h]
theorem upd_some {α β : Type} [DecidableEq α] {m : α → Option β} {a a' : α} {x : β} (h : m a' ≠ none) : upd m a x a' ≠ none := by
  unfold upd
  split
  · simp
  · exact h

section
variable {g h : Tre.Graph} {l : List (Nat × Nat)} {m : Nat × Nat → Option Unit} {f bk : Nat → Option Nat} {p : Nat × Nat}

theorem Inv.start : Inv g h noEx [(g.root.toNat, h.root.toNat)] (fun _ => none) (fun _ => none) (fun _ => none) :=
  ⟨by rintro p hp; simp at hp; subst hp; exact .root, fun p e => absurd rfl e, .inl (by simp), fun p e => absurd rfl e, fun p e => absurd rfl e, fun p e => absurd rfl e, by simp, by simp⟩

theorem Inv.skip (I : Inv g h noEx (l ++ [p]) m f bk) (hp : m p ≠ none) : Inv g h noEx l m f bk := by
  refine ⟨fun q hq => I.rl q (by simp [hq]), I.rm, ?_, I.alike, fun q hq i hi he => ?_, I.fr, I.fo, I.ba⟩
  · rcases I.root with h1 | h1
    · rcases List.mem_append.1 h1 with h1 | h1
      · exact .inl h1
      · simp at h1; rw [h1]; exact .inr hp
    · exact .inr h1
  · rcases I.kids q hq i hi he with h1 | h1
    · rcases List.mem_append.1 h1 with h1 | h1
      · exact .inl h1
      · simp at h1; rw [h1]; exact .inr hp
    · exact .inr h1

/-- a pair is met -/
theorem Inv.mark (I : Inv g h noEx (l ++ [p]) m f bk) (ha : alikeB (g.nd p.1) (h.nd p.2) = true) (hfr : freeB (g.nd p.1) = false) :
    Inv g h (fun q _ => q = p) l (upd m p ()) f bk := by
  have keep : ∀ q, upd m p () q ≠ none → q = p ∨ m q ≠ none := fun q hq => by
    by_cases e : q = p
    · exact .inl e
    · rw [upd_ne m () e] at hq; exact .inr hq
  have rp : RP g h p.1 p.2 := I.rl p (by simp)
  refine ⟨fun q hq => I.rl q (by simp [hq]), fun q hq => ?_, ?_, fun q hq => ?_, fun q hq i hi he => ?_, fun q hq hf => ?_, fun a b e => ⟨upd_some (I.fo a b e).1, (I.fo a b e).2⟩, fun b a e => ⟨upd_some (I.ba b a e).1, (I.ba b a e).2⟩⟩
  · rcases keep q hq with rfl | h1
    · exact rp
    · exact I.rm q h1
  · rcases I.root with h1 | h1
    · rcases List.mem_append.1 h1 with h1 | h1
      · exact .inl h1
      · simp at h1; rw [h1]; exact .inr (by rw [upd_same]; simp)
    · exact .inr (upd_some h1)
  · rcases keep q hq with rfl | h1
    · exact ha
    · exact I.alike q h1
  · rcases keep q hq with rfl | h1
    · exact absurd rfl he
    · rcases I.kids q h1 i hi (fun e => e) with h2 | h2
      · rcases List.mem_append.1 h2 with h2 | h2
        · exact .inl h2
        · simp at h2; rw [h2]; exact .inr (by rw [upd_same]; simp)
      · exact .inr (upd_some h2)
  · rcases keep q hq with rfl | h1
    · rw [hfr] at hf; cases hf
    · exact I.fr q h1 hf

theorem Inv.markFree (I : Inv g h noEx (l ++ [p]) m f bk) (ha : alikeB (g.nd p.1) (h.nd p.2) = true) (hfr : freeB (g.nd p.1) = true)
    (hf : ∀ b, f p.1 = some b → b = p.2) (hb : ∀ a, bk p.2 = some a → a = p.1) :
    Inv g h (fun q _ => q = p) l (upd m p ()) (upd f p.1 p.2) (upd bk p.2 p.1) := by
  have keep : ∀ q, upd m p () q ≠ none → q = p ∨ m q ≠ none := fun q hq => by
    by_cases e : q = p
    · exact .inl e
    · rw [upd_ne m () e] at hq; exact .inr hq
  have rp : RP g h p.1 p.2 := I.rl p (by simp)
  have mp : upd m p () (p.1, p.2) ≠ none := by rw [show (p.1, p.2) = p from rfl, upd_same]; simp
  refine ⟨fun q hq => I.rl q (by simp [hq]), fun q hq => ?_, ?_, fun q hq => ?_, fun q hq i hi he => ?_, fun q hq hfq => ?_, fun a b e => ?_, fun b a e => ?_⟩
  · rcases keep q hq with rfl | h1
    · exact rp
    · exact I.rm q h1
  · rcases I.root with h1 | h1
    · rcases List.mem_append.1 h1 with h1 | h1
      · exact .inl h1
      · simp at h1; rw [h1]; exact .inr (by rw [upd_same]; simp)
    · exact .inr (upd_some h1)
  · rcases keep q hq with rfl | h1
    · exact ha
    · exact I.alike q h1
  · rcases keep q hq with rfl | h1
    · exact absurd rfl he
    · rcases I.kids q h1 i hi (fun e => e) with h2 | h2
      · rcases List.mem_append.1 h2 with h2 | h2
        · exact .inl h2
        · simp at h2; rw [h2]; exact .inr (by rw [upd_same]; simp)
      · exact .inr (upd_some h2)
  · rcases keep q hq with rfl | h1
    · exact ⟨upd_same _ _ _, upd_same _ _ _⟩
    · obtain ⟨e1, e2⟩ := I.fr q h1 hfq
      constructor
      · by_cases e : q.1 = p.1
        · rw [e, upd_same, ← hf q.2 (by rw [← e]; exact e1)]
        · rw [upd_ne _ _ e, e1]
      · by_cases e : q.2 = p.2
        · rw [e, upd_same, ← hb q.1 (by rw [← e]; exact e2)]
        · rw [upd_ne _ _ e, e2]
  · by_cases ea : a = p.1
    · subst ea
      rw [upd_same] at e
      cases e
      exact ⟨mp, hfr⟩
    · rw [upd_ne _ _ ea] at e
      exact ⟨upd_some (I.fo a b e).1, (I.fo a b e).2⟩
  · by_cases ea : b = p.2
    · subst ea
      rw [upd_same] at e
      cases e
      exact ⟨mp, hfr⟩
    · rw [upd_ne _ _ ea] at e
      exact ⟨upd_some (I.ba b a e).1, (I.ba b a e).2⟩

/-- its parts are laid, one by one -/
theorem Inv.more {j : Nat} (I : Inv g h (fun q i => q = p ∧ j ≤ i) l m f bk) (hp : m p ≠ none) (h1 : j < g.deg p.1) (h2 : j < h.deg p.2) :
    Inv g h (fun q i => q = p ∧ j + 1 ≤ i) (l ++ [(g.kid p.1 j, h.kid p.2 j)]) m f bk := by
  refine ⟨fun q hq => ?_, I.rm, ?_, I.alike, fun q hq i hi he => ?_, I.fr, I.fo, I.ba⟩
  · rcases List.mem_append.1 hq with hq | hq
    · exact I.rl q hq
    · simp at hq; subst hq; exact .kid (I.rm p hp) h1 h2
  · rcases I.root with h1 | h1
    · exact .inl (by simp [h1])
    · exact .inr h1
  · by_cases hj : q = p ∧ i = j
    · obtain ⟨rfl, rfl⟩ := hj
      exact .inl (by simp)
    · rcases I.kids q hq i hi (fun e => he ⟨e.1, by have := e.2; have : i ≠ j := fun e' => hj ⟨e.1, e'⟩; omega⟩) with h3 | h3
      · exact .inl (by simp [h3])
      · exact .inr h3
theorem Inv.first (I : Inv g h (fun q _ => q = p) l m f bk) : Inv g h (fun q i => q = p ∧ 0 ≤ i) l m f bk :=
  { I with kids := fun q hq i hi he => I.kids q hq i hi (fun e => he ⟨e, Nat.zero_le _⟩) }
theorem Inv.last {j : Nat} (I : Inv g h (fun q i => q = p ∧ j ≤ i) l m f bk) (hj : g.deg p.1 ≤ j) : Inv g h noEx l m f bk :=
  { I with kids := fun q hq i hi _ => I.kids q hq i hi (fun e => by have := e.2; rw [e.1] at hi; omega) }

theorem Inv.done (I : Inv g h noEx [] m f bk) (c0 : g.checkC = 0) (c1 : h.checkC = 0) : SameG g h := by
  have all : ∀ a b, RP g h a b → m (a, b) ≠ none := fun a b r => by
    induction r with
    | root => exact I.root.resolve_left (by simp)
    | kid _ h1 _ ih => exact (I.kids _ ih _ h1 (fun e => e)).resolve_left (by simp)
  refine ⟨c0, c1, fun a b r => I.alike _ (all a b r), fun a b a' b' r r' hf => ⟨fun e => ?_, fun e => ?_⟩⟩
  · subst e
    have e1 := (I.fr _ (all a b r) hf).1
    have e2 := (I.fr _ (all a b' r') hf).1
    simp only at e1 e2
    rw [e1] at e2
    exact Option.some.inj e2
  · subst e
    have ha := I.alike _ (all a b r)
    have ha' := I.alike _ (all a' b r')
    have hf' : freeB (g.nd a') = true := by
      have h1 := alike_free ha
      have h2 := alike_free ha'
      simp only at h1 h2
      rw [h2, ← h1, hf]
    have e1 := (I.fr _ (all a b r) hf).2
    have e2 := (I.fr _ (all a' b r') hf').2
    simp only at e1 e2
    rw [e1] at e2
    exact Option.some.inj e2
theorem not_same_alike {a b : Nat} (r : RP g h a b) (ha : alikeB (g.nd a) (h.nd b) = false) : ¬ SameG g h := fun s => by
  rw [s.alike a b r] at ha; cases ha
theorem Inv.not_forth {b : Nat} (I : Inv g h noEx (l ++ [p]) m f bk) (hf : f p.1 = some b) (hne : b ≠ p.2) : ¬ SameG g h := fun s => by
  obtain ⟨h1, h2⟩ := I.fo _ _ hf
  exact hne ((s.one _ _ _ _ (I.rm _ h1) (I.rl p (by simp)) h2).1 rfl)
theorem Inv.not_back {a : Nat} (I : Inv g h noEx (l ++ [p]) m f bk) (hb : bk p.2 = some a) (hne : a ≠ p.1) : ¬ SameG g h := fun s => by
  obtain ⟨h1, h2⟩ := I.ba _ _ hb
  exact hne ((s.one _ _ _ _ (I.rm _ h1) (I.rl p (by simp)) h2).2 rfl)
end

/-! how many rounds at the most -/
def univ (n k : Nat) : List (Nat × Nat) := (List.range n).flatMap fun a => (List.range k).map fun b => (a, b)
theorem mem_univ {n k : Nat} {p : Nat × Nat} : p ∈ univ n k ↔ p.1 < n ∧ p.2 < k := by
  obtain ⟨a, b⟩ := p
  simp [univ]
theorem univ_nodup (n k : Nat) : (univ n k).Nodup := by
  unfold univ
  refine List.pairwise_flatMap.2 ⟨fun a _ => ?_, ?_⟩
  · exact List.Pairwise.map _ (fun x y hxy e => hxy (by simpa using e)) List.nodup_range
  · refine List.Pairwise.imp ?_ (List.nodup_range (n := n))
    intro a b hab x hx y hy e
    obtain ⟨_, _, rfl⟩ := List.mem_map.1 hx
    obtain ⟨_, _, rfl⟩ := List.mem_map.1 hy
    exact hab (by simpa using congrArg Prod.fst e)
def wgt (g : Tre.Graph) (m : Nat × Nat → Option Unit) (q : Nat × Nat) : Nat := if m q = none then g.deg q.1 else 0
def left (g h : Tre.Graph) (m : Nat × Nat → Option Unit) : Nat := ((univ g.ns.length h.ns.length).map (wgt g m)).sum
theorem sum_upd {α : Type} (F G : α → Nat) (p : α) : ∀ L : List α, L.Nodup → p ∈ L → (∀ q, q ≠ p → F q = G q) → (L.map F).sum + G p = (L.map G).sum + F p
  | [], _, h, _ => by cases h
  | x :: r, hn, h, he => by
    have hx := List.nodup_cons.1 hn
    simp only [List.map_cons, List.sum_cons]
    rcases List.mem_cons.1 h with rfl | h
    · have : r.map F = r.map G := List.map_congr_left (fun q hq => he q (fun e => hx.1 (e ▸ hq)))
      rw [this]; omega
    · have := sum_upd F G p r hx.2 h he
      have hxp : x ≠ p := fun e => hx.1 (e ▸ h)
      rw [he x hxp]; omega
theorem left_mark {g h : Tre.Graph} {m : Nat × Nat → Option Unit} {p : Nat × Nat} (h1 : p.1 < g.ns.length) (h2 : p.2 < h.ns.length) (hm : m p = none) :
    left g h (upd m p ()) + g.deg p.1 = left g h m := by
  have := sum_upd (wgt g (upd m p ())) (wgt g m) p _ (univ_nodup g.ns.length h.ns.length) (mem_univ.2 ⟨h1, h2⟩) (fun q hq => by unfold wgt; rw [upd_ne m () hq])
  have e1 : wgt g m p = g.deg p.1 := by unfold wgt; rw [if_pos hm]
  have e2 : wgt g (upd m p ()) p = 0 := by unfold wgt; rw [upd_same]; simp
  unfold left
  omega
end Go.Tre
