/- Nodes that a call makes: a row of them, their rows of arguments and labels. -/
import Derived.Test.YtlkfhbmjemjohaaFree
namespace Go.Tre
open Go.RowKit
/-- a node, and the two values that are its slices -/
structure NodeV where
  n : Tre.Node
  va : Value
  vl : Value
def NodeV.cells (d : NodeV) : List Value := [.int .i64 d.n.kind, .string d.n.name, d.va, d.vl, .bool d.n.isOpen]
end Go.Tre
namespace Go.Proofs.Ytlkfhbmjemjohaa.gr
open Go.RowKit Go.Shelf Go.Maps Go.Tre lex
def kids (d : NodeV) : List Res := [rowR 3 1 d.va d.n.args.length (d.n.args.map (Value.int .i64)), rowR 9 1 d.vl d.n.labels.length (d.n.labels.map Value.string)]
def nodesR (v : Value) (ds : List NodeV) : Res := rowR 38 5 v ds.length (ds.flatMap NodeV.cells)
def kidsR (ds : List NodeV) : Res := manyR (ds.flatMap kids)
theorem cells_len (ds : List NodeV) : (ds.flatMap NodeV.cells).length = ds.length * 5 := by
  induction ds with
  | nil => rfl
  | cons d r ih => simp only [List.flatMap_cons, List.length_append, ih, List.length_cons]; simp only [NodeV.cells, List.length_cons, List.length_nil]; omega
theorem cells_at : ∀ (ds : List NodeV) (k j : Nat) (d : NodeV), ds[k]? = some d → j < 5 → (ds.flatMap NodeV.cells)[k * 5 + j]? = d.cells[j]? := by
  intro ds
  induction ds with
  | nil => intro k j d h; simp at h
  | cons x r ih =>
    intro k j d h hj
    have hl : x.cells.length = 5 := rfl
    rw [List.flatMap_cons]
    cases k with
    | zero =>
      simp at h; subst h
      rw [Nat.zero_mul, Nat.zero_add, List.getElem?_append_left (by rw [hl]; exact hj)]
    | succ k =>
      simp at h
      rw [List.getElem?_append_right (by rw [hl]; omega), hl, show (k + 1) * 5 + j - 5 = k * 5 + j by omega]
      exact ih k j d h hj
theorem kidsR_snoc (ds : List NodeV) (d : NodeV) : kidsR (ds ++ [d]) = manyR (ds.flatMap kids ++ kids d) := by unfold kidsR; rw [List.flatMap_append]; simp
theorem nodesR_snoc (v : Value) (ds : List NodeV) (d : NodeV) : nodesR v (ds ++ [d]) = rowR 38 5 v (ds.length + 1) (ds.flatMap NodeV.cells ++ d.cells) := by unfold nodesR; rw [List.flatMap_append, List.length_append]; simp
theorem row_read {w : World} {e : TypeId} {size n : Nat} {v : Value} {xs : List Value} (h : w.ownsRow 0 e size v n xs) : ∃ a c, v = .slice a n c ∧ n ≤ c ∧ Row w size a n xs := by
  rcases h.2 with ⟨rfl, rfl⟩ | ⟨g, cap, cur, rfl, _, hg, hc, _⟩
  · refine ⟨_, _, rfl, Nat.le_refl _, h.1, fun j u hu => ?_⟩
    have : xs = [] := List.eq_nil_of_length_eq_zero (by simpa using h.1)
    subst this
    simp at hu
  · refine ⟨_, _, rfl, hc, h.1, fun j u hu => ⟨g, 0, rfl, ?_⟩⟩
    rw [Nat.zero_add, h.cellAt j (by have := (List.getElem?_eq_some_iff.1 hu).1; rw [← h.1]; exact this), hu]
/-- what was made reads as nodes -/
theorem nodes_read {w : World} {a : Option Addr} {n c : Nat} {ds : List NodeV} (h : (nodesR (.slice a n c) ds).P w) (hk : (kidsR ds).P w) : NodesAt w a (ds.map NodeV.n) := by
  refine ⟨fun k n hn => ?_⟩
  rw [List.getElem?_map] at hn
  obtain ⟨d, hd, rfl⟩ := Option.map_eq_some_iff.1 hn
  have hr : w.ownsRow 0 _ 5 (.slice a _ c) _ _ := h
  obtain ⟨a', c', e, _, hrow⟩ := row_read hr
  cases e
  have hmem := List.mem_of_getElem? hd
  have ha := hk (rowR 3 1 d.va d.n.args.length (d.n.args.map (Value.int .i64))) (List.mem_flatMap.2 ⟨d, hmem, by simp [kids]⟩)
  have hl := hk (rowR 9 1 d.vl d.n.labels.length (d.n.labels.map Value.string)) (List.mem_flatMap.2 ⟨d, hmem, by simp [kids]⟩)
  obtain ⟨aa, ca, ea, la, ra⟩ := row_read ha
  obtain ⟨al, cl, el, ll, rl⟩ := row_read hl
  obtain ⟨b, off, e0, c0⟩ := hrow.at_ (k * 5 + 0) _ ((cells_at ds k 0 d hd (by omega)).trans rfl)
  have rest : ∀ j u, j < 5 → d.cells[j]? = some u → w.cell? ⟨b, off + (k * 5 + j), none⟩ = some u := fun j u hj hu => by
    obtain ⟨b', off', e', c'⟩ := hrow.at_ (k * 5 + j) u ((cells_at ds k j d hd hj).trans hu)
    rw [e0] at e'; cases e'; exact c'
  refine ⟨b, off, e0, aa, ca, al, cl, ?_, ?_, ?_, ?_, ?_, ra, rl, la, ll⟩
  · have := rest 0 _ (by omega) rfl; rwa [Nat.add_zero] at this
  · have := rest 1 _ (by omega) rfl; rwa [← Nat.add_assoc] at this
  · have := rest 2 d.va (by omega) rfl; rw [← Nat.add_assoc, ea] at this; exact this
  · have := rest 3 d.vl (by omega) rfl; rw [← Nat.add_assoc, el] at this; exact this
  · have := rest 4 _ (by omega) rfl; rwa [← Nat.add_assoc] at this

theorem ownsRow_up {w w0 : World} {e : TypeId} {size n : Nat} {v : Value} {xs : List Value} (h : w.ownsRow w0.heap.size e size v n xs) (b : Below w0.heap.size w0 w) : Mem w0 w [rowR e size v n xs] := Mem.of_own h b
theorem cloneInts (a : Option Addr) (cap : Nat) (xs : List Int) (w : World) (hx : IntsAt w a xs) (hl : xs.length ≤ 8388608) :
    Calls Try.prog 30 #[.slice a xs.length cap] w fun e w' => ∃ v, e = .returned v ∧ Mem w w' [rowR 3 1 v xs.length (xs.map (Value.int .i64))] := by
  cases a with
  | none =>
    have h0 : xs = [] := by
      cases xs with
      | nil => rfl
      | cons x r => obtain ⟨_, _, e, _⟩ := hx.at_ 0 (.int .i64 x) rfl; cases e
    subst h0
    exact (Try.slices_Clone_int_nil _ _ _).mono fun e w' ⟨h1, h2⟩ => ⟨_, h1, by subst h2; exact (Mem.nil w').addNil _ _⟩
  | some ad =>
    by_cases h0 : xs = []
    · subst h0
      exact (Try.slices_Clone_int_zero ad cap w).mono fun e w' ⟨v, h1, h2, _, h4⟩ => ⟨v, h1, Mem.of_own h2 h4⟩
    · obtain ⟨x, r, rfl⟩ := List.exists_cons_of_ne_nil h0
      obtain ⟨b, off, e, _⟩ := hx.at_ 0 (.int .i64 x) rfl
      cases e
      refine (Try.slices_Clone_int b off (x :: r).length cap (x :: r) w (Nat.le_refl _) (by omega) (fun j hj => ?_)).mono fun e w' ⟨v, h1, h2, _, h4⟩ => ⟨v, h1, Mem.of_own (by rw [List.take_of_length_le (Nat.le_refl _)] at h2; exact h2) h4⟩
      obtain ⟨b', off', e', c'⟩ := hx.at_ j (.int .i64 ((x :: r).getD j 0)) (by rw [List.getElem?_map, List.getD_eq_getElem?_getD, List.getElem?_eq_getElem hj]; rfl)
      cases e'; exact c'
theorem cloneStrs (a : Option Addr) (cap : Nat) (xs : List ByteArray) (w : World) (hx : StrsAt w a xs) (hl : xs.length ≤ 8388608) :
    Calls Try.prog 31 #[.slice a xs.length cap] w fun e w' => ∃ v, e = .returned v ∧ Mem w w' [rowR 9 1 v xs.length (xs.map Value.string)] := by
  cases a with
  | none =>
    have h0 : xs = [] := by
      cases xs with
      | nil => rfl
      | cons x r => obtain ⟨_, _, e, _⟩ := hx.at_ 0 (.string x) rfl; cases e
    subst h0
    exact (Try.slices_Clone_string_nil _ _ _).mono fun e w' ⟨h1, h2⟩ => ⟨_, h1, by subst h2; exact (Mem.nil w').addNil _ _⟩
  | some ad =>
    by_cases h0 : xs = []
    · subst h0
      exact (Try.slices_Clone_string_zero ad cap w).mono fun e w' ⟨v, h1, h2, _, h4⟩ => ⟨v, h1, Mem.of_own h2 h4⟩
    · obtain ⟨x, r, rfl⟩ := List.exists_cons_of_ne_nil h0
      obtain ⟨b, off, e, _⟩ := hx.at_ 0 (.string x) rfl
      cases e
      refine (Try.slices_Clone_string b off (x :: r).length cap (x :: r) w (Nat.le_refl _) (by omega) (fun j hj => ?_)).mono fun e w' ⟨v, h1, h2, _, h4⟩ => ⟨v, h1, Mem.of_own (by rw [List.take_of_length_le (Nat.le_refl _)] at h2; exact h2) h4⟩
      obtain ⟨b', off', e', c'⟩ := hx.at_ j (.string ((x :: r).getD j ByteArray.empty)) (by rw [List.getElem?_map, List.getD_eq_getElem?_getD, List.getElem?_eq_getElem hj]; rfl)
      cases e'; exact c'
end Go.Proofs.Ytlkfhbmjemjohaa.gr
