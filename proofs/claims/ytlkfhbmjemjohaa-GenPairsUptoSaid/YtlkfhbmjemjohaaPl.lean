/- Plain laws on being the same. -/
import Derived.Test.YtlkfhbmjemjohaaTrimd
namespace Go.Tre
def setMap (L : List Nat) (k : Nat) : Nat → Option Unit := fun x => if x ∈ L.take k then some () else none
theorem setMap_zero (L : List Nat) : setMap L 0 = fun _ => none := by funext x; simp [setMap]
theorem take_snoc_n {α : Type} {L : List α} {k : Nat} (h : k < L.length) : L.take (k + 1) = L.take k ++ [L[k]] := by rw [List.take_add_one, List.getElem?_eq_getElem h]; rfl
theorem setMap_succ {L : List Nat} {k : Nat} (h : k < L.length) : upd (setMap L k) L[k] () = setMap L (k + 1) := by
  funext x
  unfold upd setMap
  rw [take_snoc_n h]
  by_cases hx : x = L[k]
  · subst hx
    rw [if_pos rfl, if_pos (List.mem_append.2 (.inr (List.mem_singleton.2 rfl)))]
  · rw [if_neg hx]
    have : (x ∈ L.take k ++ [L[k]]) = (x ∈ L.take k) := by rw [List.mem_append, List.mem_singleton]; simp only [hx, or_false]
    simp only [this]
theorem setMap_new {L : List Nat} (hn : L.Nodup) {k : Nat} (h : k < L.length) : setMap L k L[k] = none := by
  unfold setMap
  rw [if_neg]
  intro hm
  obtain ⟨i, hi, e⟩ := List.getElem_of_mem hm
  rw [List.getElem_take] at e
  have hi' : i < k := by rw [List.length_take] at hi; omega
  have := (List.getElem?_inj (by omega) hn).1 (show L[i]? = L[k]? by rw [List.getElem?_eq_getElem (by omega), List.getElem?_eq_getElem h, e])
  omega
theorem setMap_all {L : List Nat} {x : Nat} (h : x ∈ L) : setMap L L.length x = some () := by unfold setMap; rw [List.take_length, if_pos h]
theorem setMap_no {L : List Nat} {x : Nat} (h : x ∉ L) : setMap L L.length x = none := by unfold setMap; rw [List.take_length, if_neg h]

theorem Graph.reach_head {g : Tre.Graph} (h : g.checkC = 0) : g.reachL[0]? = some g.root.toNat := by
  have og := Graph.ok_of h
  unfold Graph.reachL
  rw [if_pos h, Graph.dfs_take (by simp) og.root1, List.append_nil, List.nil_append]
  obtain ⟨_, _, _, ⟨t, ht⟩, _⟩ := g.dfs_spec og _ (g.kids g.root.toNat) [g.root.toNat] (Nat.le_refl _) (by simp) (fun a ha => by simp at ha; rw [ha]; exact og.root1) (og.kids_lt og.root1) (fun a ha b hb => by simp at ha; subst ha; exact .inr hb)
  rw [ht]; rfl
theorem alike_refl (x : Tre.Node) : alikeB x x = true := by simp [alikeB]
theorem alike_symm {x y : Tre.Node} (h : alikeB x y = true) : alikeB y x = true := by
  unfold alikeB at *
  simp only [Bool.and_eq_true, decide_eq_true_eq] at *
  obtain ⟨⟨⟨⟨h1, h2⟩, h3⟩, h4⟩, h5⟩ := h
  exact ⟨⟨⟨⟨h1.symm, h2.symm⟩, h3.symm⟩, h4.symm⟩, h5.symm⟩
theorem alike_trans {x y z : Tre.Node} (h : alikeB x y = true) (k : alikeB y z = true) : alikeB x z = true := by
  unfold alikeB at *
  simp only [Bool.and_eq_true, decide_eq_true_eq] at *
  obtain ⟨⟨⟨⟨h1, h2⟩, h3⟩, h4⟩, h5⟩ := h
  obtain ⟨⟨⟨⟨k1, k2⟩, k3⟩, k4⟩, k5⟩ := k
  exact ⟨⟨⟨⟨h1.trans k1, h2.trans k2⟩, h3.trans k3⟩, h4.trans k4⟩, h5.trans k5⟩
theorem RP.symm {g h : Tre.Graph} {a b : Nat} (r : RP g h a b) : RP h g b a := by
  induction r with
  | root => exact .root
  | kid _ h1 h2 ih => exact .kid ih h2 h1
theorem SameG.symm {g h : Tre.Graph} (s : SameG g h) : SameG h g :=
  ⟨s.okh, s.okg, fun a b r => alike_symm (s.alike b a r.symm), fun a b a' b' r r' hf => (s.one b a b' a' r.symm r'.symm (by rw [alike_free (s.alike b a r.symm)]; exact hf)).symm⟩
theorem RP.refl_eq {g : Tre.Graph} {a b : Nat} (r : RP g g a b) : a = b := by
  induction r with
  | root => rfl
  | kid _ _ _ ih => rw [ih]
theorem SameG.refl {g : Tre.Graph} (h : g.checkC = 0) : SameG g g :=
  ⟨h, h, fun a b r => by rw [r.refl_eq]; exact alike_refl _, fun a b a' b' r r' _ => by rw [r.refl_eq, r'.refl_eq]⟩
theorem RP.comp {g h k : Tre.Graph} (s : SameG g h) (_t : SameG h k) {a c : Nat} (r : RP g k a c) : ∃ b, RP g h a b ∧ RP h k b c := by
  induction r with
  | root => exact ⟨_, .root, .root⟩
  | kid _ h1 h2 ih =>
    obtain ⟨b, r1, r2⟩ := ih
    have e1 := alike_deg (s.alike _ _ r1)
    refine ⟨h.kid b _, .kid r1 h1 ?_, .kid r2 ?_ h2⟩ <;> (unfold Graph.deg at *; omega)
theorem SameG.trans {g h k : Tre.Graph} (s : SameG g h) (t : SameG h k) : SameG g k := by
  refine ⟨s.okg, t.okh, fun a c r => ?_, fun a c a' c' r r' hf => ?_⟩
  · obtain ⟨b, r1, r2⟩ := r.comp s t
    exact alike_trans (s.alike _ _ r1) (t.alike _ _ r2)
  · obtain ⟨b, r1, r2⟩ := r.comp s t
    obtain ⟨b', r1', r2'⟩ := r'.comp s t
    exact (s.one _ _ _ _ r1 r1' hf).trans (t.one _ _ _ _ r2 r2' (by rw [← alike_free (s.alike _ _ r1)]; exact hf))
theorem sameB_iff {g h : Tre.Graph} : sameB g h = true ↔ SameG g h := by unfold sameB; simp
theorem sameB_symm (g h : Tre.Graph) : sameB g h = sameB h g := by
  rw [Bool.eq_iff_iff, sameB_iff, sameB_iff]; exact ⟨SameG.symm, SameG.symm⟩
end Go.Tre
