/- Layer 13: plain. What is marked, fixed, generic; the fresh copy. -/
import Derived.Test.YtlkfhbmjemjohaaFreep
namespace Go.Tre
/-- one leads to the other -/
inductive Rch (g : Tre.Graph) (a : Nat) : Nat → Prop where
  | refl : Rch g a a
  | step {b c : Nat} : Rch g a b → c ∈ g.kids b → Rch g a c
theorem Rch.trans {g : Tre.Graph} {a b c : Nat} (h : Rch g a b) (k : Rch g b c) : Rch g a c := by
  induction k with
  | refl => exact h
  | step _ hc ih => exact ih.step hc
theorem Rch.head {g : Tre.Graph} {a b c : Nat} (h : b ∈ g.kids a) (k : Rch g b c) : Rch g a c := (Rch.refl.step h).trans k
theorem Rch.lt {g : Tre.Graph} (og : g.Ok) {a b : Nat} (h : Rch g a b) (ha : a < g.ns.length) : b < g.ns.length := by
  induction h with
  | refl => exact ha
  | step _ hc ih => exact og.kids_lt ih _ hc
theorem Graph.dfs_within {g : Tre.Graph} (og : g.Ok) (C : Nat → Prop) (hC : ∀ a, C a → ∀ b ∈ g.kids a, C b) : ∀ (k : Nat) (s out : List Nat), g.budget out + s.length ≤ k → (∀ a ∈ s, a < g.ns.length) → (∀ a ∈ s, C a) → (∀ a ∈ out, C a) → ∀ a ∈ g.dfs s out, C a := by
  intro k
  induction k with
  | zero =>
    intro s out hk _ _ h3
    have : s = [] := List.length_eq_zero_iff.1 (by omega)
    subst this
    rw [g.dfs_nil]; exact h3
  | succ k ih =>
    intro s out hk h1 h2 h3
    cases s with
    | nil => rw [g.dfs_nil]; exact h3
    | cons a s =>
      have hal := h1 a (by simp)
      by_cases hm : a ∈ out
      · rw [Graph.dfs_skip hm]; exact ih s out (by simp at hk; omega) (fun b hb => h1 b (by simp [hb])) (fun b hb => h2 b (by simp [hb])) h3
      · rw [Graph.dfs_take hm hal]
        have hb := Graph.budget_step hal hm
        refine ih (g.kids a ++ s) (out ++ [a]) (by simp only [List.length_append, List.length_cons, g.kids_len] at hk ⊢; omega) (fun b hb => ?_) (fun b hb => ?_) (fun b hb => ?_)
        · rcases List.mem_append.1 hb with hb | hb
          · exact og.kids_lt hal b hb
          · exact h1 b (by simp [hb])
        · rcases List.mem_append.1 hb with hb | hb
          · exact hC a (h2 a (by simp)) b hb
          · exact h2 b (by simp [hb])
        · rcases List.mem_append.1 hb with hb | hb
          · exact h3 b hb
          · simp at hb; rw [hb]; exact h2 a (by simp)
theorem Graph.mem_dfs {g : Tre.Graph} (og : g.Ok) {l : List Nat} (hl : ∀ a ∈ l, a < g.ns.length) {a : Nat} : a ∈ g.dfs l [] ↔ ∃ m ∈ l, Rch g m a := by
  constructor
  · intro h
    exact Graph.dfs_within og (fun a => ∃ m ∈ l, Rch g m a) (fun a ⟨m, hm, r⟩ b hb => ⟨m, hm, r.step hb⟩) _ l [] (Nat.le_refl _) hl (fun a ha => ⟨a, ha, .refl⟩) (by simp) a h
  · rintro ⟨m, hm, r⟩
    obtain ⟨_, _, r3, _, r5⟩ := g.dfs_spec og _ l [] (Nat.le_refl _) (by simp) (by simp) hl (by simp)
    induction r with
    | refl => exact r5 m hm
    | step _ hc ih => exact r3 _ ih _ hc
theorem Graph.mem_reach {g : Tre.Graph} (h : g.checkC = 0) {a : Nat} : a ∈ g.reachL ↔ Rch g g.root.toNat a := by
  have og := Graph.ok_of h
  unfold Graph.reachL
  rw [if_pos h, Graph.mem_dfs og (fun a ha => by simp at ha; rw [ha]; exact og.root1)]
  simp
/-- what is marked -/
def Graph.markB (g : Tre.Graph) (l : List Nat) (i : Nat) : Bool := decide (i ∈ g.dfs l [])
def Graph.fixedL (g : Tre.Graph) (mono : List Nat) : List Nat := (List.range g.ns.length).filter fun i => freeB (g.nd i) && g.markB mono i
def Graph.genericL (g : Tre.Graph) (mono : List Nat) : List Nat := (List.range g.ns.length).filter fun i => freeB (g.nd i) && (!g.markB mono i && g.markB [g.root.toNat] i)
def Graph.leadB (g : Tre.Graph) (gen : List Nat) (i : Nat) : Bool := gen.any fun k => decide (k ∈ g.dfs [i] [])
def Graph.copiesL (g : Tre.Graph) (mono : List Nat) : List Nat := g.reachL.filter (g.leadB (g.genericL mono))
def nowF (n : Nat) (C : List Nat) (x : Nat) : Nat := if x ∈ C then n + C.idxOf x else x
def copyN (n : Nat) (C : List Nat) (x : Tre.Node) : Tre.Node := { x with args := x.args.map fun a => ((nowF n C a.toNat : Nat) : Int) }
def Graph.freshG (g : Tre.Graph) (mono : List Nat) : Tre.Graph := ⟨g.ns ++ (g.copiesL mono).map fun i => copyN g.ns.length (g.copiesL mono) (g.nd i), ((nowF g.ns.length (g.copiesL mono) g.root.toNat : Nat) : Int)⟩
section
variable {g : Tre.Graph} {mono : List Nat}
theorem Graph.markB_iff (og : g.Ok) {l : List Nat} (hl : ∀ a ∈ l, a < g.ns.length) {i : Nat} : g.markB l i = true ↔ ∃ m ∈ l, Rch g m i := by
  unfold Graph.markB; rw [decide_eq_true_eq]; exact Graph.mem_dfs og hl
theorem Graph.mem_fixed (og : g.Ok) (hl : ∀ a ∈ mono, a < g.ns.length) {i : Nat} : i ∈ g.fixedL mono ↔ i < g.ns.length ∧ freeB (g.nd i) = true ∧ ∃ m ∈ mono, Rch g m i := by
  unfold Graph.fixedL
  rw [List.mem_filter, List.mem_range, Bool.and_eq_true, Graph.markB_iff og hl]
theorem Graph.mem_generic (og : g.Ok) (hl : ∀ a ∈ mono, a < g.ns.length) {i : Nat} : i ∈ g.genericL mono ↔ freeB (g.nd i) = true ∧ (¬ ∃ m ∈ mono, Rch g m i) ∧ Rch g g.root.toNat i := by
  unfold Graph.genericL
  have h1 := Graph.markB_iff og hl (i := i)
  have h2 := Graph.markB_iff og (l := [g.root.toNat]) (fun a ha => by simp at ha; rw [ha]; exact og.root1) (i := i)
  rw [List.mem_filter, List.mem_range, Bool.and_eq_true, Bool.and_eq_true, Bool.not_eq_true', ← Bool.not_eq_true, h1, h2]
  simp only [List.mem_singleton, exists_eq_left]
  exact ⟨fun h => h.2, fun h => ⟨h.2.2.lt og og.root1, h⟩⟩
theorem Graph.leadB_iff (og : g.Ok) {gen : List Nat} {i : Nat} (hi : i < g.ns.length) : g.leadB gen i = true ↔ ∃ k ∈ gen, Rch g i k := by
  unfold Graph.leadB
  rw [List.any_eq_true]
  constructor
  · rintro ⟨k, hk, h⟩
    rw [decide_eq_true_eq, Graph.mem_dfs og (fun a ha => by simp at ha; rw [ha]; exact hi)] at h
    obtain ⟨m, hm, r⟩ := h
    simp at hm; subst hm
    exact ⟨k, hk, r⟩
  · rintro ⟨k, hk, r⟩
    refine ⟨k, hk, ?_⟩
    rw [decide_eq_true_eq, Graph.mem_dfs og (fun a ha => by simp at ha; rw [ha]; exact hi)]
    exact ⟨i, by simp, r⟩
theorem Graph.mem_copies (h : g.checkC = 0) (hl : ∀ a ∈ mono, a < g.ns.length) {i : Nat} : i ∈ g.copiesL mono ↔ Rch g g.root.toNat i ∧ ∃ k, Rch g i k ∧ freeB (g.nd k) = true ∧ ¬ ∃ m ∈ mono, Rch g m k := by
  have og := Graph.ok_of h
  unfold Graph.copiesL
  rw [List.mem_filter, Graph.mem_reach h]
  constructor
  · rintro ⟨h1, h2⟩
    rw [Graph.leadB_iff og (h1.lt og og.root1)] at h2
    obtain ⟨k, hk, r⟩ := h2
    have h3 := (Graph.mem_generic og hl).1 hk
    exact ⟨h1, k, r, h3.1, h3.2.1⟩
  · rintro ⟨h1, k, r, h3, h4⟩
    refine ⟨h1, ?_⟩
    rw [Graph.leadB_iff og (h1.lt og og.root1)]
    exact ⟨k, (Graph.mem_generic og hl).2 ⟨h3, h4, h1.trans r⟩, r⟩
theorem Graph.copies_nodup : (g.copiesL mono).Nodup := List.Nodup.sublist (List.filter_sublist) g.reach_nodup
theorem Graph.copies_lt {i : Nat} (h : i ∈ g.copiesL mono) : i < g.ns.length := g.reach_lt i (List.mem_filter.1 h).1
theorem nowF_lt {n m : Nat} {C : List Nat} {x : Nat} (hx : x < n) (hm : n + C.length ≤ m) : nowF n C x < m := by
  unfold nowF
  split
  · rename_i h
    have := List.idxOf_lt_length_of_mem h
    omega
  · omega
theorem nowF_inj {n : Nat} {C : List Nat} {x y : Nat} (hx : x < n) (hy : y < n) (h : nowF n C x = nowF n C y) : x = y := by
  unfold nowF at h
  by_cases h1 : x ∈ C
  · by_cases h2 : y ∈ C
    · rw [if_pos h1, if_pos h2] at h
      have e : C.idxOf x = C.idxOf y := by omega
      have h3 := List.getElem_idxOf (List.idxOf_lt_length_of_mem h1)
      have h4 := List.getElem_idxOf (List.idxOf_lt_length_of_mem h2)
      rw [← h3, ← h4]
      simp only [e]
    · rw [if_pos h1, if_neg h2] at h; omega
  · by_cases h2 : y ∈ C
    · rw [if_neg h1, if_pos h2] at h; omega
    · rw [if_neg h1, if_neg h2] at h; exact h
theorem Graph.fresh_len : (g.freshG mono).ns.length = g.ns.length + (g.copiesL mono).length := by simp [Graph.freshG]
theorem Graph.fresh_old {i : Nat} (hi : i < g.ns.length) : (g.freshG mono).nd i = g.nd i := by
  rw [Graph.nd_eq (by rw [Graph.fresh_len]; omega), Graph.nd_eq hi]
  exact List.getElem_append_left hi
theorem Graph.fresh_new {i : Nat} (hi : i ∈ g.copiesL mono) : (g.freshG mono).nd (nowF g.ns.length (g.copiesL mono) i) = copyN g.ns.length (g.copiesL mono) (g.nd i) := by
  have hk := List.idxOf_lt_length_of_mem hi
  have e : nowF g.ns.length (g.copiesL mono) i = g.ns.length + (g.copiesL mono).idxOf i := by unfold nowF; rw [if_pos hi]
  rw [e, Graph.nd_eq (by rw [Graph.fresh_len]; omega)]
  unfold Graph.freshG
  simp only
  rw [List.getElem_append_right (by omega)]
  simp only [List.getElem_map, Nat.add_sub_cancel_left]
  rw [List.getElem_idxOf hk]
/-- a copy's look -/
theorem Graph.now_nd (og : g.Ok) (h : g.checkC = 0) (hl : ∀ a ∈ mono, a < g.ns.length) {x : Nat} (hx : Rch g g.root.toNat x) :
    (g.freshG mono).nd (nowF g.ns.length (g.copiesL mono) x) = copyN g.ns.length (g.copiesL mono) (g.nd x) := by
  by_cases hc : x ∈ g.copiesL mono
  · exact Graph.fresh_new hc
  · have hxl := hx.lt og og.root1
    have e : nowF g.ns.length (g.copiesL mono) x = x := by unfold nowF; rw [if_neg hc]
    rw [e, Graph.fresh_old hxl]
    have ea : (g.nd x).args = (g.nd x).args.map fun a => ((nowF g.ns.length (g.copiesL mono) a.toNat : Nat) : Int) := by
      rw [og.kids_eq hxl, List.map_map]
      refine List.map_congr_left (fun y hy => ?_)
      have hyn : y ∉ g.copiesL mono := fun hy' => hc (by
        rw [Graph.mem_copies h hl] at hy' ⊢
        obtain ⟨_, k, r, r2⟩ := hy'
        exact ⟨hx, k, r.head hy, r2⟩)
      simp only [Function.comp, Int.toNat_natCast]
      unfold nowF
      rw [if_neg hyn]
    unfold copyN
    rw [← ea]
theorem copyN_kids (n : Nat) (C : List Nat) (x : Tre.Node) : (copyN n C x).args.map Int.toNat = (x.args.map Int.toNat).map (nowF n C) := by
  unfold copyN
  rw [List.map_map, List.map_map]
  rfl
theorem Graph.now_kids (og : g.Ok) (h : g.checkC = 0) (hl : ∀ a ∈ mono, a < g.ns.length) {x : Nat} (hx : Rch g g.root.toNat x) :
    (g.freshG mono).kids (nowF g.ns.length (g.copiesL mono) x) = (g.kids x).map (nowF g.ns.length (g.copiesL mono)) := by
  unfold Graph.kids
  rw [Graph.now_nd og h hl hx, copyN_kids]
theorem Graph.old_kids {i : Nat} (hi : i < g.ns.length) : (g.freshG mono).kids i = g.kids i := by unfold Graph.kids; rw [Graph.fresh_old hi]
theorem freeB_copy (n : Nat) (C : List Nat) (x : Tre.Node) : freeB (copyN n C x) = freeB x := rfl
theorem Graph.fresh_check (h : g.checkC = 0) (hs : g.ns.length + (g.copiesL mono).length ≤ 1048576) : (g.freshG mono).checkC = 0 := by
  have og := Graph.ok_of h
  refine check_mk (by rw [Graph.fresh_len]; exact hs) (by show (0 : Int) ≤ ((_ : Nat) : Int); omega) (by rw [Graph.fresh_len]; show ((_ : Nat) : Int) < _; have := nowF_lt (C := g.copiesL mono) og.root1 (Nat.le_refl _); omega) (fun n hn => ?_)
  rw [Graph.fresh_len]
  unfold Graph.freshG at hn
  rcases List.mem_append.1 hn with hn | hn
  · exact mayB_mono (by omega) (og.mays n hn)
  · obtain ⟨i, hi, rfl⟩ := List.mem_map.1 hn
    have hil := Graph.copies_lt hi
    have hm := og.may i hil
    unfold mayB at hm ⊢
    have e : (copyN g.ns.length (g.copiesL mono) (g.nd i)).args.length = (g.nd i).args.length := by simp [copyN]
    rw [show (copyN g.ns.length (g.copiesL mono) (g.nd i)).kind = (g.nd i).kind from rfl, show (copyN g.ns.length (g.copiesL mono) (g.nd i)).name = (g.nd i).name from rfl, show (copyN g.ns.length (g.copiesL mono) (g.nd i)).labels = (g.nd i).labels from rfl, show (copyN g.ns.length (g.copiesL mono) (g.nd i)).isOpen = (g.nd i).isOpen from rfl, e]
    rw [Bool.and_eq_true] at hm ⊢
    refine ⟨?_, hm.2⟩
    cases hy : (copyN g.ns.length (g.copiesL mono) (g.nd i)).args.any (outside (g.ns.length + (g.copiesL mono).length))
    · rfl
    · obtain ⟨z, hz, hzz⟩ := List.any_eq_true.1 hy
      have hz' : z ∈ (g.nd i).args.map fun a => ((nowF g.ns.length (g.copiesL mono) a.toNat : Nat) : Int) := hz
      rw [og.kids_eq hil, List.map_map] at hz'
      obtain ⟨y, hy', rfl⟩ := List.mem_map.1 hz'
      have hyl := og.kids_lt hil y hy'
      have := nowF_lt (C := g.copiesL mono) hyl (Nat.le_refl _)
      unfold outside at hzz
      simp only [Function.comp, Int.toNat_natCast, Bool.or_eq_true, decide_eq_true_eq] at hzz
      omega
theorem Graph.fresh_root : (g.freshG mono).root.toNat = nowF g.ns.length (g.copiesL mono) g.root.toNat := by show ((_ : Nat) : Int).toNat = _; simp
/-- what is reached in the copy -/
theorem Graph.fresh_reach (h : g.checkC = 0) (hl : ∀ a ∈ mono, a < g.ns.length) {z : Nat} : Rch (g.freshG mono) (g.freshG mono).root.toNat z ↔ ∃ x, Rch g g.root.toNat x ∧ z = nowF g.ns.length (g.copiesL mono) x := by
  have og := Graph.ok_of h
  rw [Graph.fresh_root]
  constructor
  · intro r
    induction r with
    | refl => exact ⟨_, .refl, rfl⟩
    | step _ hc ih =>
      obtain ⟨x, hx, rfl⟩ := ih
      rw [Graph.now_kids og h hl hx] at hc
      obtain ⟨y, hy, rfl⟩ := List.mem_map.1 hc
      exact ⟨y, hx.step hy, rfl⟩
  · rintro ⟨x, hx, rfl⟩
    induction hx with
    | refl => exact .refl
    | step hb hc ih => exact ih.step (by rw [Graph.now_kids og h hl hb]; exact List.mem_map.2 ⟨_, hc, rfl⟩)
end
end Go.Tre
