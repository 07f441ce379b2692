/- What is marked: what the going keeps; plain. -/
import Derived.Test.YtlkfhbmjemjohaaGreatDoorB06
set_option linter.unusedVariables false
namespace Go.Tre
structure MI (g : Tre.Graph) (l V s : List Nat) : Prop where
 from_ : ∀ x, x ∈ V ∨ x ∈ s → ∃ m ∈ l, Rch g m x
 all : ∀ m ∈ l, m ∈ V ∨ m ∈ s
 kids : ∀ v ∈ V, ∀ b ∈ g.kids v, b ∈ V ∨ b ∈ s
 nod : V.Nodup
 vlt : ∀ x ∈ V, x < g.ns.length
 slt : ∀ x ∈ s, x < g.ns.length
 le : g.budget V + s.length ≤ g.budget [] + l.length
section
variable {g : Tre.Graph} {l V s : List Nat} {x : Nat}
theorem MI.start (hl : ∀ m ∈ l, m < g.ns.length) : MI g l [] l :=
 ⟨fun x hx => ⟨x, by simpa using hx, .refl⟩, fun m hm => .inr hm, by simp, by simp, by simp, hl, Nat.le_refl _⟩
theorem MI.skip (h : MI g l V (s ++ [x])) (hx : x ∈ V) : MI g l V s := by
 have pass : ∀ y, y ∈ V ∨ y ∈ s ++ [x] → y ∈ V ∨ y ∈ s := fun y hy => by
  rcases hy with hy | hy
  ·exact .inl hy
  ·rcases List.mem_append.1 hy with hy | hy
   ·exact .inr hy
   ·simp at hy; rw [hy]; exact .inl hx
 refine ⟨fun y hy => h.from_ y (hy.imp id (fun e => by simp [e])), fun m hm => pass m (h.all m hm), fun v hv b hb => pass b (h.kids v hv b hb), h.nod, h.vlt, fun y hy => h.slt y (by simp [hy]), ?_⟩
 have := h.le
 simp only [List.length_append, List.length_singleton] at this
 omega
theorem MI.mark (og : g.Ok) (h : MI g l V (s ++ [x])) (hx : x ∉ V) : MI g l (V ++ [x]) (s ++ g.kids x) := by
 have hxl : x < g.ns.length := h.slt x (by simp)
 have pass : ∀ y, y ∈ V ∨ y ∈ s ++ [x] → y ∈ V ++ [x] ∨ y ∈ s ++ g.kids x := fun y hy => by
  rcases hy with hy | hy
  ·exact .inl (by simp [hy])
  ·rcases List.mem_append.1 hy with hy | hy
   ·exact .inr (by simp [hy])
   ·exact .inl (by simp at hy; simp [hy])
 refine ⟨fun y hy => ?_, fun m hm => pass m (h.all m hm), fun v hv b hb => ?_, ?_, fun y hy => ?_, fun y hy => ?_, ?_⟩
 ·rcases hy with hy | hy
  ·rcases List.mem_append.1 hy with hy | hy
   ·exact h.from_ y (.inl hy)
   ·simp at hy; rw [hy]; exact h.from_ x (.inr (by simp))
  ·rcases List.mem_append.1 hy with hy | hy
   ·exact h.from_ y (.inr (by simp [hy]))
   ·obtain ⟨m, hm, r⟩ := h.from_ x (.inr (by simp))
    exact ⟨m, hm, r.step hy⟩
 ·rcases List.mem_append.1 hv with hv | hv
  ·exact pass b (h.kids v hv b hb)
  ·simp at hv; subst hv; exact .inr (by simp [hb])
 ·exact List.nodup_append.2 ⟨h.nod, by simp, fun p hp q hq e => by simp at hq; subst hq; subst e; exact hx hp⟩
 ·rcases List.mem_append.1 hy with hy | hy
  ·exact h.vlt y hy
  ·simp at hy; rw [hy]; exact hxl
 ·rcases List.mem_append.1 hy with hy | hy
  ·exact h.slt y (by simp [hy])
  ·exact og.kids_lt hxl y hy
 ·have h1 := Graph.budget_step (g := g) hxl hx
  have h2 := h.le
  simp only [List.length_append, List.length_singleton, g.kids_len] at h2 ⊢
  omega
theorem MI.done (og : g.Ok) (hl : ∀ m ∈ l, m < g.ns.length) (h : MI g l V []) (i : Nat) : i ∈ V ↔ i ∈ g.dfs l [] := by
 rw [Graph.mem_dfs og hl]
 constructor
 ·intro hi; exact h.from_ i (.inl hi)
 ·rintro ⟨m, hm, r⟩
  induction r with
  | refl => exact (h.all m hm).resolve_right (by simp)
  | step _ hc ih => exact (h.kids _ ih _ hc).resolve_right (by simp)
end
end Go.Tre
