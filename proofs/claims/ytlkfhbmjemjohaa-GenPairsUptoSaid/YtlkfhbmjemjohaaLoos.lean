/- Rows of numbers whose contents are left open: what is written there changes nothing that is said. -/
import Derived.Test.YtlkfhbmjemjohaaNodv
import Derived.Test.YtlkfhbmjemjohaaRegw
import Derived.Test.YtlkfhbmjemjohaaApp
namespace Go.Tre
theorem set_same {α : Type} {l : List α} {i : Nat} {x : α} (h : l[i]? = some x) : l.set i x = l := by
  apply List.ext_getElem?
  intro m
  rw [List.getElem?_set]
  split
  · rename_i e
    subst e
    rw [if_pos (List.getElem?_eq_some_iff.1 h).1, h]
  · rfl
end Go.Tre
namespace Go.Proofs.Ytlkfhbmjemjohaa.gr
open Go.RowKit Go.Shelf Go.Maps Go.Tre lex
def loosR (l : List (Value × Nat)) : Res where
  own b := ∃ p ∈ l, p.1.ownBlock = some b
  P w := ∀ p ∈ l, ∃ xs, w.ownsRow 0 3 1 p.1 p.2 xs
  stable w w' h hs := fun p hp => by
    obtain ⟨xs, hx⟩ := h p hp
    exact ⟨xs, (rowR 3 1 p.1 p.2 xs).stable w w' hx (fun b hb => hs b ⟨p, hp, hb⟩)⟩
  has w h b hb := by
    obtain ⟨p, hp, hb⟩ := hb
    obtain ⟨xs, hx⟩ := h p hp
    exact (rowR 3 1 p.1 p.2 xs).has w hx b hb
def argsL (ds : List NodeV) : List (Value × Nat) := ds.map fun d => (d.va, d.n.args.length)
theorem _root_.Go.Tre.Mem.loosen {w0 w : World} {rs : List Res} {ds : List NodeV} (h : Mem w0 w rs) (i : Nat) (hi : rs[i]? = some (kidsR ds)) : Mem w0 w (rs.set i (loosR (argsL ds))) :=
  h.as_ i hi _ (fun hp p hp' => by
    obtain ⟨d, hd, rfl⟩ := List.mem_map.1 hp'
    exact ⟨_, hp (rowR 3 1 d.va d.n.args.length (d.n.args.map (Value.int .i64))) (List.mem_flatMap.2 ⟨d, hd, by simp [kids]⟩)⟩) (fun b hb => by
    obtain ⟨p, hp', hb⟩ := hb
    obtain ⟨d, hd, rfl⟩ := List.mem_map.1 hp'
    exact ⟨rowR 3 1 d.va d.n.args.length (d.n.args.map (Value.int .i64)), List.mem_flatMap.2 ⟨d, hd, by simp [kids]⟩, hb⟩)
theorem _root_.Go.Tre.Mem.loosAt {w0 w : World} {rs : List Res} {l : List (Value × Nat)} {v : Value} {n j : Nat} (h : Mem w0 w rs) (i : Nat) (hi : rs[i]? = some (loosR l)) (hp : (v, n) ∈ l) (hj : j < n) :
    ∃ g cap u, v = .slice (some ⟨g, 0, none⟩) n cap ∧ w.cell? ⟨g, j, none⟩ = some u ∧ w.frozen? ⟨g, j, none⟩ = false := by
  obtain ⟨xs, hx⟩ := h.at_ i hi (v, n) hp
  simp only at hx
  cases n with
  | zero => omega
  | succ n =>
    obtain ⟨g, cap, rfl⟩ := ownsRow_succ hx
    have hl := hx.1
    exact ⟨g, cap, xs[j]'(by omega), rfl, by rw [hx.cellAt j (by omega), List.getElem?_eq_getElem], hx.frozenAt j⟩
theorem _root_.Go.Tre.Mem.loosVal {w0 w : World} {rs : List Res} {l : List (Value × Nat)} {v : Value} {n : Nat} (h : Mem w0 w rs) (i : Nat) (hi : rs[i]? = some (loosR l)) (hp : (v, n) ∈ l) : ∃ a cap, v = .slice a n cap ∧ n ≤ cap := by
  obtain ⟨xs, hx⟩ := h.at_ i hi (v, n) hp
  obtain ⟨a, c, e, hc, _⟩ := row_read hx
  exact ⟨a, c, e, hc⟩
theorem _root_.Go.Tre.Mem.loosSet {w0 w : World} {rs : List Res} {l : List (Value × Nat)} {n g cap : Nat} (h : Mem w0 w rs) (i : Nat) (hi : rs[i]? = some (loosR l)) (hp : (.slice (some ⟨g, 0, none⟩) n cap, n) ∈ l) (j : Nat) (u : Value) : Mem w0 (w.setCell ⟨g, j, none⟩ u) rs := by
  have hP := h.at_ i hi
  have := h.set_row i hi (grown_set w g j u) (fun k e => ⟨_, hp, by cases e; rfl⟩) (loosR l) (fun p hp' => by
    obtain ⟨xs, hx⟩ := hP p hp'
    by_cases e : p.1.ownBlock = some g
    · obtain ⟨v, m⟩ := p
      rcases hx.2 with ⟨e2, _⟩ | ⟨g', cap', cur, e2, _⟩
      · simp only at e2 e; subst e2; cases e
      · simp only at e2 e hx; subst e2; cases e
        exact ⟨_, (hx.stored j u).1⟩
    · exact ⟨xs, (rowR 3 1 p.1 p.2 xs).stable w _ hx (fun b hb => Below.heap_setCell w ⟨g, j, none⟩ u b (fun e' => e (by
        have hb' : p.1.ownBlock = some b := hb
        rw [hb', e'])))⟩) (fun b hb => .inl hb)
  rwa [set_same hi] at this
/-- nodes of whatever memory, as a row -/
theorem nodes_row {w : World} {a : Option Addr} {ns : List Tre.Node} (h : NodesAt w a ns) : ∃ ds : List NodeV, ds.map NodeV.n = ns ∧ Row w 5 a ns.length (ds.flatMap NodeV.cells) ∧ ∀ d ∈ ds, NodeVal w d := by
  cases hl : ns with
  | nil => subst hl; exact ⟨[], rfl, ⟨rfl, fun j u hu => by simp at hu⟩, by simp⟩
  | cons n r =>
    obtain ⟨b, off, rfl, _⟩ := h.at_ 0 n (by rw [hl]; rfl)
    obtain ⟨ds, h1, h2, h3⟩ := nodes_vals h
    rw [hl] at h1
    exact ⟨ds, h1, ⟨by rw [cells_len, ← h1, List.length_map], fun j u hu => ⟨b, off, rfl, h2 j u hu⟩⟩, h3⟩
end Go.Proofs.Ytlkfhbmjemjohaa.gr
