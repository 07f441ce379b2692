/- Nodes of whatever memory, as values; slices of them that are copied. -/
import Derived.Test.YtlkfhbmjemjohaaNods
namespace Go.Proofs.Ytlkfhbmjemjohaa.gr
open Go.RowKit Go.Shelf Go.Maps Go.Tre lex
/-- a node's two slices read as its arguments and labels -/
def NodeVal (w : World) (d : NodeV) : Prop :=
  ∃ aa ca al cl, d.va = .slice aa d.n.args.length ca ∧ d.vl = .slice al d.n.labels.length cl ∧ IntsAt w aa d.n.args ∧ StrsAt w al d.n.labels ∧ d.n.args.length ≤ ca ∧ d.n.labels.length ≤ cl
theorem NodeVal.below {w w' : World} {d : NodeV} (h : NodeVal w d) (b : Below w.heap.size w w') : NodeVal w' d := by
  obtain ⟨aa, ca, al, cl, h1, h2, h3, h4, h5, h6⟩ := h
  exact ⟨aa, ca, al, cl, h1, h2, h3.below b, h4.below b, h5, h6⟩
theorem NodeVal.kids {w : World} {d : NodeV} (h : ∀ r ∈ kids d, r.P w) : NodeVal w d := by
  obtain ⟨aa, ca, ea, la, ra⟩ := row_read (h _ (by simp [gr.kids]) : (rowR 3 1 d.va d.n.args.length (d.n.args.map (Value.int .i64))).P w)
  obtain ⟨al, cl, el, ll, rl⟩ := row_read (h _ (by simp [gr.kids]) : (rowR 9 1 d.vl d.n.labels.length (d.n.labels.map Value.string)).P w)
  exact ⟨aa, ca, al, cl, ea, el, ra, rl, la, ll⟩
theorem nodeAt_of {w : World} {b p : Nat} {d : NodeV} (hv : NodeVal w d) (hc : ∀ j, j < 5 → w.cell? ⟨b, p + j, none⟩ = d.cells[j]?) : NodeAt w b p d.n := by
  obtain ⟨aa, ca, al, cl, ea, el, ra, rl, la, ll⟩ := hv
  refine ⟨aa, ca, al, cl, (hc 0 (by omega)).trans rfl, (hc 1 (by omega)).trans rfl, ?_, ?_, (hc 4 (by omega)).trans rfl, ra, rl, la, ll⟩
  · rw [← ea]; exact (hc 2 (by omega)).trans rfl
  · rw [← el]; exact (hc 3 (by omega)).trans rfl
theorem nodesAt_of {w : World} {a : Option Addr} {c : Nat} {ds : List NodeV} (h : (nodesR (.slice a ds.length c) ds).P w) (hv : ∀ d ∈ ds, NodeVal w d) : NodesAt w a (ds.map NodeV.n) := by
  refine ⟨fun k n hn => ?_⟩
  rw [List.getElem?_map] at hn
  obtain ⟨d, hd, rfl⟩ := Option.map_eq_some_iff.1 hn
  obtain ⟨a', c', e, _, hrow⟩ := row_read (show w.ownsRow 0 _ 5 (.slice a _ c) _ _ from h)
  cases e
  obtain ⟨b, off, e0, _⟩ := hrow.at_ (k * 5 + 0) _ ((cells_at ds k 0 d hd (by omega)).trans rfl)
  refine ⟨b, off, e0, nodeAt_of (hv d (List.mem_of_getElem? hd)) (fun j hj => ?_)⟩
  have hl : j < d.cells.length := hj
  obtain ⟨b', off', e', c'⟩ := hrow.at_ (k * 5 + j) d.cells[j] ((cells_at ds k j d hd hj).trans (List.getElem?_eq_getElem hl))
  rw [e0] at e'
  cases e'
  rw [Nat.add_assoc, c', List.getElem?_eq_getElem hl]
/-- whatever nodes there are: their values -/
theorem nodes_vals {w : World} {b off : Nat} {ns : List Tre.Node} (h : NodesAt w (some ⟨b, off, none⟩) ns) :
    ∃ ds : List NodeV, ds.map NodeV.n = ns ∧ (∀ j u, (ds.flatMap NodeV.cells)[j]? = some u → w.cell? ⟨b, off + j, none⟩ = some u) ∧ ∀ d ∈ ds, NodeVal w d := by
  have step : ∀ (k : Nat) (n : Tre.Node), ns[k]? = some n → ∃ d : NodeV, d.n = n ∧ NodeVal w d ∧ ∀ j, j < 5 → w.cell? ⟨b, off + k * 5 + j, none⟩ = d.cells[j]? := by
    intro k n hn
    obtain ⟨b', off', e, aa, ca, al, cl, h0, h1, h2, h3, h4, h5, h6, h7, h8⟩ := h.at_ k n hn
    cases e
    refine ⟨⟨n, .slice aa n.args.length ca, .slice al n.labels.length cl⟩, rfl, ⟨aa, ca, al, cl, rfl, rfl, h5, h6, h7, h8⟩, fun j hj => ?_⟩
    match j, hj with
    | 0, _ => exact h0
    | 1, _ => exact h1
    | 2, _ => exact h2
    | 3, _ => exact h3
    | 4, _ => exact h4
  have all : ∀ m, m ≤ ns.length → ∃ ds : List NodeV, ds.map NodeV.n = ns.take m ∧ (∀ k d, ds[k]? = some d → ∀ j, j < 5 → w.cell? ⟨b, off + k * 5 + j, none⟩ = d.cells[j]?) ∧ ∀ d ∈ ds, NodeVal w d := by
    intro m
    induction m with
    | zero => intro _; exact ⟨[], by simp, by simp, by simp⟩
    | succ m ih =>
      intro hm
      obtain ⟨ds, h1, h2, h3⟩ := ih (by omega)
      obtain ⟨d, e, hv, hc⟩ := step m ns[m] (List.getElem?_eq_getElem (by omega))
      have hl : ds.length = m := by have := congrArg List.length h1; simp at this; omega
      refine ⟨ds ++ [d], ?_, fun k d' hk j hj => ?_, fun d' hd' => ?_⟩
      · rw [List.map_append, h1, List.take_add_one, List.getElem?_eq_getElem (by omega), List.map_singleton, e]; rfl
      · by_cases hkl : k < ds.length
        · rw [List.getElem?_append_left hkl] at hk
          exact h2 k d' hk j hj
        · have hkm : k = m := by
            have := (List.getElem?_eq_some_iff.1 hk).1
            simp at this
            omega
          subst hkm
          rw [List.getElem?_append_right (by omega), hl, Nat.sub_self] at hk
          cases hk
          exact hc j hj
      · rcases List.mem_append.1 hd' with h | h
        · exact h3 d' h
        · simp at h; subst h; exact hv
  obtain ⟨ds, h1, h2, h3⟩ := all ns.length (Nat.le_refl _)
  refine ⟨ds, by rw [h1, List.take_length], fun j u hu => ?_, h3⟩
  have hj := (List.getElem?_eq_some_iff.1 hu).1
  rw [cells_len] at hj
  have hk : j / 5 < ds.length := by omega
  have hd : ds[j / 5]? = some ds[j / 5] := List.getElem?_eq_getElem hk
  have e : j = j / 5 * 5 + j % 5 := by omega
  rw [e] at hu ⊢
  rw [cells_at ds (j / 5) (j % 5) _ hd (by omega)] at hu
  rw [← Nat.add_assoc]
  exact (h2 _ _ hd _ (by omega)).trans hu
theorem cells_one (ds : List NodeV) : (∀ d ∈ ds, ∃ w, NodeVal w d) → ∀ u ∈ ds.flatMap NodeV.cells, u.oneCell' = true := by
  intro h u hu
  obtain ⟨d, hd, hu⟩ := List.mem_flatMap.1 hu
  obtain ⟨w, aa, ca, al, cl, e1, e2, _⟩ := h d hd
  simp only [NodeV.cells, List.mem_cons, List.not_mem_nil, or_false] at hu
  rcases hu with rfl | rfl | rfl | rfl | rfl
  · rfl
  · rfl
  · rw [e1]; rfl
  · rw [e2]; rfl
  · rfl
theorem add_plain (b off j : Nat) : (⟨b, off, none⟩ : Addr).add j = ⟨b, off + j, none⟩ := by
  unfold Addr.add
  by_cases h : j = 0 <;> simp [h]
end Go.Proofs.Ytlkfhbmjemjohaa.gr
