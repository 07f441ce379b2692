/- Where several operations of a drawn region may come up: each of them. -/
import Derived.Test.YtgngnkajjldnlaaRegl
namespace Go.Tre
section
variable {P : Program} {ops : Array Oper} {Q : Exit → Act → World → Prop} {md : Region.Mode} {S : World → Prop} {fuel : Nat} {listed : Array Bool} {a : Act} {w : World}
def HStep (P : Program) (md : Region.Mode) (ops : Array Oper) (Q : Exit → Act → World → Prop) (S : World → Prop) (fuel : Nat) (listed : Array Bool) (a : Act) (w : World) (i : Nat) : Prop :=
  ∀ K' : Act → World → Prop, Shut (∀ a w, S w → (S w → wpAnyH P md ops Q S fuel (listed.setIfInBounds i true) a w) → K' a w) →
      match ops[i]? with | some o => if Region.wanted o (yielded ops a.tmps) = true then Oper.wp P o a w K' Q else K' (a.put o.dst undef) w | none => K' a w
theorem HStep.op {i : Nat} (h : HStep P md ops Q S fuel listed a w i) : wpOp P ops Q i (fun a' w' => S w' ∧ wpAnyH P md ops Q S fuel (listed.setIfInBounds i true) a' w') a w := by
  unfold HStep at h
  cases ho : ops[i]? with
  | none =>
    rw [ho] at h
    have h' := h (fun a' w' => S w' ∧ wpAnyH P md ops Q S fuel (listed.setIfInBounds i true) a' w') (fun a w hS hW => ⟨hS, hW hS⟩)
    unfold wpOp
    rw [ho]
    exact h'
  | some o =>
    rw [ho] at h
    exact wpOp_step ho (fun K' hK => h K' (fun a w hS hW => hK a w ⟨hS, hW hS⟩))
theorem hTwo (i j : Nat) (hr : Region.ready md ops listed = [i, j]) (h1 : HStep P md ops Q S fuel listed a w i) (h2 : HStep P md ops Q S fuel listed a w j) : wpAnyH P md ops Q S (fuel + 1) listed a w :=
  wpAnyH_ready hr (by simp) (fun k hk => by
    simp at hk
    rcases hk with rfl | rfl
    · exact h1.op
    · exact h2.op)
theorem hThree (i j k : Nat) (hr : Region.ready md ops listed = [i, j, k]) (h1 : HStep P md ops Q S fuel listed a w i) (h2 : HStep P md ops Q S fuel listed a w j) (h3 : HStep P md ops Q S fuel listed a w k) : wpAnyH P md ops Q S (fuel + 1) listed a w :=
  wpAnyH_ready hr (by simp) (fun m hm => by
    simp at hm
    rcases hm with rfl | rfl | rfl
    · exact h1.op
    · exact h2.op
    · exact h3.op)
end
end Go.Tre
