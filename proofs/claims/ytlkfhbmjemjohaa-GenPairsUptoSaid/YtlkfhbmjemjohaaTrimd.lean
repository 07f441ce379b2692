/- graph.Trim: plain. -/
import Derived.Test.YtlkfhbmjemjohaaNods
namespace Go.Tre
/-- which place a node has among those that are reached -/
def placeOf (L : List Nat) (a : Int) : Int := ((L.idxOf a.toNat : Nat) : Int)
def trimNode (L : List Nat) (n : Tre.Node) : Tre.Node := { n with args := n.args.map (placeOf L) }
def Graph.trim (g : Tre.Graph) : Tre.Graph := ⟨g.reachL.map fun i => trimNode g.reachL (g.nd i), 0⟩
def idxMap (L : List Nat) (k : Nat) : Nat → Option Nat := fun x => if x ∈ L.take k then some (L.idxOf x) else none
theorem idxOf_nodup {L : List Nat} (hn : L.Nodup) {k : Nat} (h : k < L.length) : L.idxOf L[k] = k := by
  have h1 : L.idxOf L[k] < L.length := List.idxOf_lt_length_of_mem (List.getElem_mem h)
  have h2 : L[L.idxOf L[k]] = L[k] := List.getElem_idxOf h1
  exact (List.getElem?_inj h1 hn).1 (by rw [List.getElem?_eq_getElem h1, List.getElem?_eq_getElem h, h2])
theorem idxMap_succ {L : List Nat} (hn : L.Nodup) {k : Nat} (h : k < L.length) : upd (idxMap L k) L[k] k = idxMap L (k + 1) := by
  funext x
  unfold upd idxMap
  have e : L.take (k + 1) = L.take k ++ [L[k]] := by rw [List.take_add_one, List.getElem?_eq_getElem h]; rfl
  rw [e]
  by_cases hx : x = L[k]
  · subst hx
    rw [if_pos rfl, if_pos (List.mem_append.2 (.inr (List.mem_singleton.2 rfl))), idxOf_nodup hn h]
  · rw [if_neg hx]
    have : (x ∈ L.take k ++ [L[k]]) = (x ∈ L.take k) := by rw [List.mem_append, List.mem_singleton]; simp only [hx, or_false]
    simp only [this]
theorem idxMap_all (L : List Nat) {x : Nat} (h : x ∈ L) : idxMap L L.length x = some (L.idxOf x) := by
  unfold idxMap; rw [List.take_length, if_pos h]
/-- the first j are turned -/
def half {α : Type} (f : α → α) (l : List α) (j : Nat) : List α := (l.take j).map f ++ l.drop j
theorem half_zero {α : Type} (f : α → α) (l : List α) : half f l 0 = l := by simp [half]
theorem half_all {α : Type} (f : α → α) (l : List α) : half f l l.length = l.map f := by simp [half]
theorem half_at {α : Type} (f : α → α) (l : List α) {j : Nat} (h : j < l.length) : (half f l j)[j]? = some l[j] := by
  unfold half
  rw [List.getElem?_append_right (by rw [List.length_map, List.length_take]; omega), List.length_map, List.length_take, Nat.min_eq_left (by omega), Nat.sub_self, List.getElem?_drop, Nat.add_zero, List.getElem?_eq_getElem h]
theorem half_set {α : Type} (f : α → α) (l : List α) {j : Nat} (h : j < l.length) : (half f l j).set j (f l[j]) = half f l (j + 1) := by
  unfold half
  have e : ((l.take j).map f).length = j := by rw [List.length_map, List.length_take]; omega
  rw [List.set_append_right _ _ (by omega), e, Nat.sub_self, List.drop_eq_getElem_cons h, List.set_cons_zero, List.take_add_one, List.getElem?_eq_getElem h, List.map_append]
  simp
theorem half_len {α : Type} (f : α → α) (l : List α) (j : Nat) : (half f l j).length = l.length := by
  unfold half
  rw [List.length_append, List.length_map, List.length_take, List.length_drop]; omega
theorem Graph.reach_kids (g : Tre.Graph) {a : Nat} (ha : a ∈ g.reachL) : ∀ b ∈ g.kids a, b ∈ g.reachL := by
  unfold Graph.reachL at ha ⊢
  by_cases h : g.checkC = 0
  · rw [if_pos h] at ha ⊢
    have og := Graph.ok_of h
    exact (g.dfs_spec og _ [g.root.toNat] [] (Nat.le_refl _) (by simp) (by simp) (fun a ha => by simp at ha; rw [ha]; exact og.root1) (by simp)).2.2.1 a ha
  · rw [if_neg h] at ha; simp at ha
theorem Graph.reach_ok {g : Tre.Graph} {a : Nat} (ha : a ∈ g.reachL) : g.Ok := by
  unfold Graph.reachL at ha
  by_cases h : g.checkC = 0
  · exact Graph.ok_of h
  · rw [if_neg h] at ha; simp at ha
end Go.Tre
