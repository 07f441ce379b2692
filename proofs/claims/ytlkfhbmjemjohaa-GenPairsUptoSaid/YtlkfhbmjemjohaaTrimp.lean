/- What is trimmed is the same type, and trimmed again it is itself: plain. -/
import Derived.Test.YtlkfhbmjemjohaaFreep
import Derived.Test.YtlkfhbmjemjohaaSama
namespace Go.Tre
theorem sum_mem (f : Nat → Nat) (n : Nat) : ∀ L : List Nat, L.Nodup → (∀ a ∈ L, a < n) → (L.map f).sum = ((List.range n).map fun i => if i ∈ L then f i else 0).sum
  | [], _, _ => by
    have := sum_const (α := Nat) 0 (List.range n)
    simp only [List.map_nil, List.sum_nil, List.not_mem_nil, if_false]
    omega
  | a :: L, hn, hl => by
    have h1 := List.nodup_cons.1 hn
    have ih := sum_mem f n L h1.2 (fun b hb => hl b (by simp [hb]))
    have := sum_upd (fun i => if i ∈ a :: L then f i else 0) (fun i => if i ∈ L then f i else 0) a (List.range n) List.nodup_range (List.mem_range.2 (hl a (by simp))) (fun q hq => by
      have : (q ∈ a :: L) = (q ∈ L) := by simp [hq]
      simp only [this])
    simp only [List.mem_cons, true_or, if_true, if_neg h1.1, Nat.add_zero] at this
    simp only [List.map_cons, List.sum_cons, List.mem_cons]
    omega
theorem sum_le_all (f : Nat → Nat) {n : Nat} {L : List Nat} (hn : L.Nodup) (hl : ∀ a ∈ L, a < n) : (L.map f).sum ≤ ((List.range n).map f).sum := by
  rw [sum_mem f n L hn hl]
  generalize List.range n = R
  induction R with
  | nil => simp
  | cons x R ih =>
    simp only [List.map_cons, List.sum_cons]
    split <;> omega
theorem nodup_len {n : Nat} {L : List Nat} (hn : L.Nodup) (hl : ∀ a ∈ L, a < n) : L.length ≤ n := by
  have h := sum_le_all (fun _ => 1) hn hl
  rw [sum_const, sum_const, List.length_range] at h
  omega
theorem Graph.weight_range (g : Tre.Graph) : g.weight = ((List.range g.ns.length).map fun i => (g.nd i).weight).sum := by
  unfold Graph.weight
  congr 1
  apply List.ext_getElem
  · simp
  · intro i h1 h2
    have hi : i < g.ns.length := by simpa using h1
    simp [Graph.nd_eq hi]
theorem trimNode_weight (L : List Nat) (n : Tre.Node) : (trimNode L n).weight = n.weight := by unfold Node.weight trimNode; simp
theorem Graph.trim_weight (g : Tre.Graph) : g.trim.weight ≤ g.weight := by
  have e : g.trim.weight = (g.reachL.map fun i => (g.nd i).weight).sum := by
    unfold Graph.weight Graph.trim
    simp only [List.map_map]
    congr 1
    apply List.map_congr_left
    intro i _
    exact trimNode_weight _ _
  rw [e, g.weight_range]
  exact sum_le_all _ g.reach_nodup g.reach_lt
theorem trim_len (g : Tre.Graph) : g.trim.ns.length = g.reachL.length := by simp [Graph.trim]
theorem reach_len_le (g : Tre.Graph) : g.reachL.length ≤ g.ns.length := nodup_len g.reach_nodup g.reach_lt
theorem trim_nd {g : Tre.Graph} {a : Nat} (ha : a ∈ g.reachL) : g.trim.nd (g.reachL.idxOf a) = trimNode g.reachL (g.nd a) := by
  have hl := List.idxOf_lt_length_of_mem ha
  rw [Graph.nd_eq (by rw [trim_len]; exact hl)]
  simp only [Graph.trim, List.getElem_map, List.getElem_idxOf]
theorem trim_kids {g : Tre.Graph} {a : Nat} (ha : a ∈ g.reachL) : g.trim.kids (g.reachL.idxOf a) = (g.kids a).map g.reachL.idxOf := by
  unfold Graph.kids
  rw [trim_nd ha]
  simp only [trimNode, List.map_map]
  apply List.map_congr_left
  intro x _
  simp [placeOf]
theorem mem_root {g : Tre.Graph} (h : g.checkC = 0) : g.root.toNat ∈ g.reachL := List.mem_of_getElem? (Graph.reach_head h)
theorem idx_root {g : Tre.Graph} (h : g.checkC = 0) : g.reachL.idxOf g.root.toNat = 0 := by
  have h1 := Graph.reach_head h
  have hl := (List.getElem?_eq_some_iff.1 h1).1
  have := idxOf_nodup g.reach_nodup hl
  rw [List.getElem?_eq_getElem hl] at h1
  rwa [Option.some.inj h1] at this
theorem mayB_trim {g : Tre.Graph} {a : Nat} (ha : a ∈ g.reachL) : mayB (trimNode g.reachL (g.nd a)) g.reachL.length = true := by
  have og := Graph.reach_ok ha
  have h := og.may a (g.reach_lt a ha)
  have hk := g.reach_kids ha
  unfold mayB at *
  simp only [Bool.and_eq_true, Bool.not_eq_true', List.any_eq_false] at *
  refine ⟨fun x hx => ?_, ?_⟩
  · simp only [trimNode, List.mem_map] at hx
    obtain ⟨y, hy, rfl⟩ := hx
    have hm : y.toNat ∈ g.reachL := hk _ (by unfold Graph.kids; exact List.mem_map.2 ⟨y, hy, rfl⟩)
    have := List.idxOf_lt_length_of_mem hm
    unfold outside placeOf
    simp
    omega
  · have := h.2
    simpa [trimNode] using this
theorem trim_ok {g : Tre.Graph} (h : g.checkC = 0) : g.trim.checkC = 0 := by
  have og := Graph.ok_of h
  have hr := mem_root h
  have hl := List.idxOf_lt_length_of_mem hr
  refine check_mk ?_ (Int.le_refl 0) ?_ (fun n hn => ?_)
  · rw [trim_len]; have := reach_len_le g; have := og.len; omega
  · rw [trim_len]; show (0 : Int) < _; omega
  · rw [trim_len]
    simp only [Graph.trim, List.mem_map] at hn
    obtain ⟨a, ha, rfl⟩ := hn
    exact mayB_trim ha
theorem idxOf_inj {L : List Nat} {a b : Nat} (ha : a ∈ L) (hb : b ∈ L) (h : L.idxOf a = L.idxOf b) : a = b := by
  have h1 := List.getElem_idxOf (List.idxOf_lt_length_of_mem ha)
  have h2 := List.getElem_idxOf (List.idxOf_lt_length_of_mem hb)
  rw [← h1, ← h2]
  congr 1
theorem kid_mem {g : Tre.Graph} {a i : Nat} (ha : a ∈ g.reachL) (hi : i < g.deg a) : g.kid a i ∈ g.reachL := by
  refine g.reach_kids ha _ ?_
  unfold Graph.kids Graph.kid
  unfold Graph.deg at hi
  rw [List.getD_eq_getElem?_getD, List.getElem?_eq_getElem hi]
  exact List.mem_map.2 ⟨_, List.getElem_mem hi, rfl⟩
theorem trim_rp {g : Tre.Graph} (h : g.checkC = 0) {a b : Nat} (r : RP g g.trim a b) : a ∈ g.reachL ∧ b = g.reachL.idxOf a := by
  induction r with
  | root => exact ⟨mem_root h, (idx_root h).symm⟩
  | kid _ h1 h2 ih =>
    obtain ⟨ha, rfl⟩ := ih
    refine ⟨kid_mem ha h1, ?_⟩
    unfold Graph.kid
    unfold Graph.deg at h1
    rw [trim_nd ha]
    simp only [trimNode, List.getD_eq_getElem?_getD, List.getElem?_map, List.getElem?_eq_getElem h1, Option.map_some, Option.getD_some]
    simp [placeOf]
theorem trim_same {g : Tre.Graph} (h : g.checkC = 0) : SameG g g.trim := by
  refine ⟨h, trim_ok h, fun a b r => ?_, fun a b a' b' r r' _ => ?_⟩
  · obtain ⟨ha, rfl⟩ := trim_rp h r
    rw [trim_nd ha]
    simp [alikeB, trimNode]
  · obtain ⟨ha, rfl⟩ := trim_rp h r
    obtain ⟨ha', rfl⟩ := trim_rp h r'
    exact ⟨fun e => by rw [e], idxOf_inj ha ha'⟩
theorem mem_map_idx {L out : List Nat} (ho : ∀ a ∈ out, a ∈ L) {a : Nat} (ha : a ∈ L) : L.idxOf a ∈ out.map L.idxOf ↔ a ∈ out := by
  rw [List.mem_map]
  constructor
  · rintro ⟨b, hb, e⟩
    rw [← idxOf_inj (ho b hb) ha e]; exact hb
  · intro h; exact ⟨a, h, rfl⟩
theorem trim_dfs {g : Tre.Graph} : ∀ (k : Nat) (s out : List Nat), g.budget out + s.length ≤ k → (∀ a ∈ s, a ∈ g.reachL) → (∀ a ∈ out, a ∈ g.reachL) →
    g.trim.dfs (s.map g.reachL.idxOf) (out.map g.reachL.idxOf) = (g.dfs s out).map g.reachL.idxOf := by
  intro k
  induction k with
  | zero =>
    intro s out hk _ _
    have : s = [] := List.length_eq_zero_iff.1 (by omega)
    subst this
    rw [List.map_nil, Graph.dfs_nil, Graph.dfs_nil]
  | succ k ih =>
    intro s out hk hs ho
    cases s with
    | nil => rw [List.map_nil, Graph.dfs_nil, Graph.dfs_nil]
    | cons a s =>
      have ha := hs a (by simp)
      rw [List.map_cons]
      by_cases hm : a ∈ out
      · rw [Graph.dfs_skip ((mem_map_idx ho ha).2 hm), Graph.dfs_skip hm]
        exact ih s out (by simp at hk; omega) (fun b hb => hs b (by simp [hb])) ho
      · have hal := g.reach_lt a ha
        have hb := Graph.budget_step hal hm
        rw [Graph.dfs_take (fun e => hm ((mem_map_idx ho ha).1 e)) (by rw [trim_len]; exact List.idxOf_lt_length_of_mem ha), Graph.dfs_take hm hal, trim_kids ha]
        have := ih (g.kids a ++ s) (out ++ [a]) (by simp only [List.length_append, List.length_cons, g.kids_len] at hk ⊢; omega)
          (fun b hb' => by
            rcases List.mem_append.1 hb' with h | h
            · exact g.reach_kids ha b h
            · exact hs b (by simp [h]))
          (fun b hb' => by
            rcases List.mem_append.1 hb' with h | h
            · exact ho b h
            · simp at h; subst h; exact ha)
        rw [List.map_append, List.map_append] at this
        exact this
theorem trim_reach {g : Tre.Graph} (h : g.checkC = 0) : g.trim.reachL = List.range g.reachL.length := by
  have e1 : g.reachL.map g.reachL.idxOf = List.range g.reachL.length := by
    apply List.ext_getElem
    · simp
    · intro i h1 h2
      have hi : i < g.reachL.length := by simpa using h1
      rw [List.getElem_map, List.getElem_range]
      exact idxOf_nodup g.reach_nodup hi
  have e2 : g.reachL = g.dfs [g.root.toNat] [] := by
    show (if g.checkC = 0 then _ else _) = _
    rw [if_pos h]
  have e3 : g.trim.reachL = g.trim.dfs [0] [] := by
    show (if g.trim.checkC = 0 then _ else _) = _
    rw [if_pos (trim_ok h)]; rfl
  have := trim_dfs (g := g) _ [g.root.toNat] [] (Nat.le_refl _) (fun a ha => by simp at ha; rw [ha]; exact mem_root h) (by simp)
  rw [List.map_cons, List.map_nil, idx_root h] at this
  rw [e3, this, ← e2, e1]
theorem range_idx {m a : Nat} (h : a < m) : (List.range m).idxOf a = a := by
  have := idxOf_nodup (L := List.range m) List.nodup_range (k := a) (by simpa using h)
  simpa using this
theorem trim_trim {g : Tre.Graph} (h : g.checkC = 0) : g.trim.trim = g.trim := by
  have og := Graph.ok_of (trim_ok h)
  have hr := trim_reach h
  have hl := trim_len g
  have e : g.trim.trim.ns = g.trim.ns := by
    show g.trim.reachL.map _ = _
    rw [hr]
    apply List.ext_getElem
    · simp [hl]
    · intro i h1 h2
      have hi : i < g.reachL.length := by simpa using h1
      rw [List.getElem_map, List.getElem_range, ← Graph.nd_eq h2]
      have ok := og.kids_eq h2
      generalize hn : g.trim.nd i = n at *
      have ea : n.args.map (placeOf (List.range g.reachL.length)) = n.args := by
        conv => rhs; rw [← List.map_id n.args]
        apply List.map_congr_left
        intro x hx
        rw [ok] at hx
        obtain ⟨y, hy, rfl⟩ := List.mem_map.1 hx
        have hlt := og.kids_lt h2 y hy
        rw [hl] at hlt
        simp [placeOf, range_idx hlt]
      show ({ n with args := n.args.map (placeOf (List.range g.reachL.length)) } : Tre.Node) = n
      rw [ea]
  show (⟨g.trim.trim.ns, 0⟩ : Tre.Graph) = ⟨g.trim.ns, 0⟩
  rw [e]
end Go.Tre
