/- What is reached, bit by bit: plain. -/
import Derived.Test.YtgngnkajjldnlaaTrimp
namespace Go.Tre
theorem Graph.budget_mono {g : Tre.Graph} {o o' : List Nat} (h : ∀ a ∈ o, a ∈ o') : g.budget o' ≤ g.budget o := by
  unfold Graph.budget
  generalize List.range g.ns.length = R
  induction R with
  | nil => simp
  | cons x R ih =>
    simp only [List.map_cons, List.sum_cons]
    by_cases h1 : x ∈ o
    · rw [if_pos (h x h1), if_pos h1]; omega
    · rw [if_neg h1]; split <;> omega
theorem Graph.dfs_grow {g : Tre.Graph} : ∀ (k : Nat) (s out : List Nat), g.budget out + s.length ≤ k → ∀ a ∈ out, a ∈ g.dfs s out := by
  intro k
  induction k with
  | zero =>
    intro s out hk a ha
    have : s = [] := List.length_eq_zero_iff.1 (by omega)
    subst this
    rw [g.dfs_nil]; exact ha
  | succ k ih =>
    intro s out hk a ha
    cases s with
    | nil => rw [g.dfs_nil]; exact ha
    | cons b s =>
      by_cases hm : b ∈ out ∨ g.ns.length ≤ b
      · rw [Graph.dfs, dif_pos hm]
        exact ih s out (by simp at hk; omega) a ha
      · rw [Graph.dfs, dif_neg hm]
        have hb := Graph.budget_step (g := g) (out := out) (a := b) (by omega) (fun e => hm (.inl e))
        exact ih _ _ (by simp only [List.length_append, List.length_cons, g.kids_len] at hk ⊢; omega) a (by simp [ha])
theorem Graph.dfs_append {g : Tre.Graph} : ∀ (k : Nat) (s t out : List Nat), g.budget out + s.length ≤ k → g.dfs (s ++ t) out = g.dfs t (g.dfs s out) := by
  intro k
  induction k with
  | zero =>
    intro s t out hk
    have : s = [] := List.length_eq_zero_iff.1 (by omega)
    subst this
    rw [g.dfs_nil, List.nil_append]
  | succ k ih =>
    intro s t out hk
    cases s with
    | nil => rw [g.dfs_nil, List.nil_append]
    | cons b s =>
      rw [List.cons_append]
      by_cases hm : b ∈ out ∨ g.ns.length ≤ b
      · rw [Graph.dfs, dif_pos hm, Graph.dfs.eq_def g (b :: s), ]
        simp only [dif_pos hm]
        exact ih s t out (by simp at hk; omega)
      · have hb := Graph.budget_step (g := g) (out := out) (a := b) (by omega) (fun e => hm (.inl e))
        rw [Graph.dfs_take (fun e => hm (.inl e)) (by omega), Graph.dfs_take (fun e => hm (.inl e)) (by omega), ← List.append_assoc]
        exact ih (g.kids b ++ s) t (out ++ [b]) (by simp only [List.length_append, List.length_cons, g.kids_len] at hk ⊢; omega)
/-- one by one -/
theorem Graph.dfs_snoc {g : Tre.Graph} (s : List Nat) (b : Nat) (out : List Nat) : g.dfs (s ++ [b]) out = g.dfs [b] (g.dfs s out) := Graph.dfs_append _ s [b] out (Nat.le_refl _)
theorem Graph.dfs_in {g : Tre.Graph} (og : g.Ok) {s out : List Nat} (hn : out.Nodup) (ho : ∀ a ∈ out, a < g.ns.length) (hs : ∀ a ∈ s, a < g.ns.length) : (g.dfs s out).Nodup ∧ ∀ a ∈ g.dfs s out, a < g.ns.length := by
  have gen : ∀ (k : Nat) (s out : List Nat), g.budget out + s.length ≤ k → out.Nodup → (∀ a ∈ out, a < g.ns.length) → (∀ a ∈ s, a < g.ns.length) → (g.dfs s out).Nodup ∧ ∀ a ∈ g.dfs s out, a < g.ns.length := by
    intro k
    induction k with
    | zero =>
      intro s out hk h1 h2 _
      have : s = [] := List.length_eq_zero_iff.1 (by omega)
      subst this
      rw [g.dfs_nil]; exact ⟨h1, h2⟩
    | succ k ih =>
      intro s out hk h1 h2 h3
      cases s with
      | nil => rw [g.dfs_nil]; exact ⟨h1, h2⟩
      | cons a s =>
        have hal := h3 a (by simp)
        by_cases hm : a ∈ out
        · rw [Graph.dfs_skip hm]; exact ih s out (by simp at hk; omega) h1 h2 (fun b hb => h3 b (by simp [hb]))
        · rw [Graph.dfs_take hm hal]
          have hb := Graph.budget_step hal hm
          refine ih (g.kids a ++ s) (out ++ [a]) (by simp only [List.length_append, List.length_cons, g.kids_len] at hk ⊢; omega) (List.nodup_append.2 ⟨h1, by simp, fun x hx y hy e => by simp at hy; subst hy; subst e; exact hm hx⟩) (fun b hb => ?_) (fun b hb => ?_)
          · rcases List.mem_append.1 hb with hb | hb
            · exact h2 b hb
            · simp at hb; rw [hb]; exact hal
          · rcases List.mem_append.1 hb with hb | hb
            · exact og.kids_lt hal b hb
            · exact h3 b (by simp [hb])
  exact gen _ s out (Nat.le_refl _) hn ho hs
end Go.Tre
