/- A function that goes through loops over functions in a plain loop leaves with many marks. -/
import Derived.Test.YtlkfhbmjemjohaaBack
namespace Go.Tre
open Go.RowKit Go.Shelf
def mark (D : Nat) : Deferred := { target := .collected D, args := #[] }
/-- the blocks of the rounds' deferred calls: there are none -/
def Marks (base : Nat) (w : World) (Ds : List Nat) : Prop := Ds.Nodup ∧ ∀ D ∈ Ds, base ≤ D ∧ w.heap[D]? = some (.deferred (some []))
def CellsKept (w w' : World) : Prop := ∀ (b : Nat) (cs : Array Value) (t : TypeId) (z : Nat × Nat), w.heap[b]? = some (.cells cs t z) → w'.heap[b]? = some (.cells cs t z)
theorem heap_putObj {w : World} {l : Nat} {o o' : Obj} (h : w.heap[l]? = some o) : (w.putObj l o').heap[l]? = some o' := by
  have hlt := (Array.getElem?_eq_some_iff.1 h).1
  simp [World.putObj, hlt]
theorem leaves_marks {F : Fence} {n : Nat} {P : Program} {fn : Func} {tmps : Array Value} {R : Ending → World → Prop} {u : FrameMode} (hu : u ≠ .run) (base : Nat) : ∀ (Ds : List Nat) (w : World), Marks base w Ds →
    (∀ w', Below base w w' → CellsKept w w' → LeavesInM F n P fn tmps R [] u w') → LeavesInM F n P fn tmps R (Ds.map mark) u w
  | [], w, _, h => h w (Below.refl _ _) (fun _ _ _ _ e => e)
  | D :: Ds, w, hm, h => by
    obtain ⟨hn, hd⟩ := hm
    have hK := (hd D (by simp)).2
    have hg := grownBy_putObj' w D (.deferred none)
    refine ⟨hu, .inl ⟨D, _, rfl, run_takeDeferred hK, ?_⟩⟩
    refine leaves_marks hu base Ds _ ⟨(List.nodup_cons.1 hn).2, fun E hE => ⟨(hd E (by simp [hE])).1, ?_⟩⟩ (fun w' hb hc => h w' ?_ ?_)
    · have hne : E ≠ D := fun e => (List.nodup_cons.1 hn).1 (e ▸ hE)
      have hk := (hd E (by simp [hE])).2
      exact (hg.block E (Array.getElem?_eq_some_iff.1 hk).1 (by simpa using hne)).trans hk
    · have hlt := (Array.getElem?_eq_some_iff.1 hK).1
      exact Below.trans (Below.mk hg.os hg.tape hg.output hg.size (fun k hk => hg.block k (by have := (hd D (by simp)).1; omega) (by have := (hd D (by simp)).1; simp; omega))) hb
    · intro b cs t z e
      refine hc b cs t z ((hg.block b (Array.getElem?_eq_some_iff.1 e).1 ?_).trans e)
      intro e'
      cases e'
      rw [hK] at e; cases e
end Go.Tre
