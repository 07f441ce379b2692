/- Steps through a drawn region, by hand: the slot that an operation writes is typed. -/
import Derived.Deep.RegionHeld3
namespace Go.Tre
section
variable {P : Program} {ops : Array Oper} {Q : Exit → Act → World → Prop} {md : Region.Mode} {S : World → Prop}
theorem hTake {i : Nat} (d : Option Tmp) {v : Value} {fuel : Nat} {listed : Array Bool} {a : Act} {w : World} (hd : (ops[i]?).map (·.dst) = some d) (hs : Region.noSelect ops = true) (hf : Region.free md ops listed i = true)
    (hr : (Region.ready md ops listed).contains i = true) (hQ : ∀ c a w, Q (.panic c) (a.put d v) w → Q (.panic c) a w) (hw : (ops[i]?).map (fun o => Region.wanted o (yielded ops a.tmps)) = some true)
    (hy : ∀ w, S w → (ops[i]?).map (fun o => (execOp a.eval o).run P w) = some (.ok (.value v) w)) (hS : S w) (h : wpAnyH P md ops Q S fuel (listed.setIfInBounds i true) (a.put d v) w) :
    wpAnyH P md ops Q S (fuel + 1) listed a w := by
  obtain ⟨o, ho, rfl⟩ := Option.map_eq_some_iff.1 hd
  rw [ho, Option.map_some, Option.some.injEq] at hw
  refine wpAnyH_take ho hs hf hr hQ (Or.inl ⟨hw, fun w hSw => ?_⟩) hS h
  have := hy w hSw
  rw [ho, Option.map_some, Option.some.injEq] at this
  exact this
theorem hTakeNo {i : Nat} (d : Option Tmp) {fuel : Nat} {listed : Array Bool} {a : Act} {w : World} (hd : (ops[i]?).map (·.dst) = some d) (hs : Region.noSelect ops = true) (hf : Region.free md ops listed i = true)
    (hr : (Region.ready md ops listed).contains i = true) (hQ : ∀ c a w, Q (.panic c) (a.put d undef) w → Q (.panic c) a w) (hw : (ops[i]?).map (fun o => Region.wanted o (yielded ops a.tmps)) = some false)
    (hS : S w) (h : wpAnyH P md ops Q S fuel (listed.setIfInBounds i true) (a.put d undef) w) : wpAnyH P md ops Q S (fuel + 1) listed a w := by
  obtain ⟨o, ho, rfl⟩ := Option.map_eq_some_iff.1 hd
  rw [ho, Option.map_some, Option.some.injEq] at hw
  exact wpAnyH_take ho hs hf hr hQ (Or.inr ⟨hw, rfl⟩) hS h
theorem hOne (i : Nat) {fuel : Nat} {listed : Array Bool} {a : Act} {w : World} (hr : Region.ready md ops listed = [i])
    (h : ∀ K' : Act → World → Prop, Shut (∀ a w, S w → (S w → wpAnyH P md ops Q S fuel (listed.setIfInBounds i true) a w) → K' a w) →
      match ops[i]? with | some o => if Region.wanted o (yielded ops a.tmps) = true then Oper.wp P o a w K' Q else K' (a.put o.dst undef) w | none => K' a w) : wpAnyH P md ops Q S (fuel + 1) listed a w := by
  refine wpAnyH_ready hr (by simp) ?_
  cases ho : ops[i]? with
  | none =>
    rw [ho] at h
    intro j hj
    rw [List.mem_singleton.1 hj]
    have h' := h (fun a' w' => S w' ∧ wpAnyH P md ops Q S fuel (listed.setIfInBounds i true) a' w') (fun a w hS hW => ⟨hS, hW hS⟩)
    unfold wpOp
    rw [ho]
    exact h'
  | some o =>
    rw [ho] at h
    exact AllReadyH.cons ho h AllReadyH.nil
end
end Go.Tre
