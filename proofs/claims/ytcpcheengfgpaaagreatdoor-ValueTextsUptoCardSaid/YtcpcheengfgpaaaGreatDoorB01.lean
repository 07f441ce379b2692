/- Steps through a drawn region, by hand: the slot that an operation writes is typed. Drawn regions: what is read is read first; behind an operation that waits for all reads, the condition on the world may fall. -/
import Derived.Deep.RegionHeld3
set_option linter.unusedVariables false
namespace Go.Tre
section
variable {P : Program} {ops : Array Oper} {Q : Exit → Act → World → Prop} {md : Region.Mode} {S : World → Prop}
theorem hTake {i : Nat} (d : Option Tmp) {v : Value} {fuel : Nat} {listed : Array Bool} {a : Act} {w : World} (hd : (ops[i]?).map (·.dst) = some d) (hs : Region.noSelect ops = true) (hf : Region.free md ops listed i = true)
    (hr : (Region.ready md ops listed).contains i = true) (hQ : ∀ c a w, Q (.panic c) (a.put d v) w → Q (.panic c) a w) (hw : (ops[i]?).map (fun o => Region.wanted o (yielded ops a.tmps)) = some true)
    (hy : ∀ w, S w → (ops[i]?).map (fun o => (execOp a.eval o).run P w) = some (.ok (.value v) w)) (hS : S w) (h : wpAnyH P md ops Q S fuel (listed.setIfInBounds i true) (a.put d v) w) :
    wpAnyH P md ops Q S (fuel + 1) listed a w := by
  obtain ⟨o, ho, rfl⟩ := Option.map_eq_some_iff.1 hd
  rw [ho, Option.map_some, Option.some.injEq] at hw
  refine wpAnyH_take ho hs hf hr hQ (Or.inl ⟨hw, fun w hSw => ?_⟩) hS h
  have := hy w hSw
  rw [ho, Option.map_some, Option.some.injEq] at this
  exact this
theorem hTakeNo {i : Nat} (d : Option Tmp) {fuel : Nat} {listed : Array Bool} {a : Act} {w : World} (hd : (ops[i]?).map (·.dst) = some d) (hs : Region.noSelect ops = true) (hf : Region.free md ops listed i = true)
    (hr : (Region.ready md ops listed).contains i = true) (hQ : ∀ c a w, Q (.panic c) (a.put d undef) w → Q (.panic c) a w) (hw : (ops[i]?).map (fun o => Region.wanted o (yielded ops a.tmps)) = some false)
    (hS : S w) (h : wpAnyH P md ops Q S fuel (listed.setIfInBounds i true) (a.put d undef) w) : wpAnyH P md ops Q S (fuel + 1) listed a w := by
  obtain ⟨o, ho, rfl⟩ := Option.map_eq_some_iff.1 hd
  rw [ho, Option.map_some, Option.some.injEq] at hw
  exact wpAnyH_take ho hs hf hr hQ (Or.inr ⟨hw, rfl⟩) hS h
theorem hOne (i : Nat) {fuel : Nat} {listed : Array Bool} {a : Act} {w : World} (hr : Region.ready md ops listed = [i])
    (h : ∀ K' : Act → World → Prop, Shut (∀ a w, S w → (S w → wpAnyH P md ops Q S fuel (listed.setIfInBounds i true) a w) → K' a w) →
      match ops[i]? with | some o => if Region.wanted o (yielded ops a.tmps) = true then Oper.wp P o a w K' Q else K' (a.put o.dst undef) w | none => K' a w) : wpAnyH P md ops Q S (fuel + 1) listed a w := by
  refine wpAnyH_ready hr (by simp) ?_
  cases ho : ops[i]? with
  | none =>
    rw [ho] at h
    intro j hj
    rw [List.mem_singleton.1 hj]
    have h' := h (fun a' w' => S w' ∧ wpAnyH P md ops Q S fuel (listed.setIfInBounds i true) a' w') (fun a w hS hW => ⟨hS, hW hS⟩)
    unfold wpOp
    rw [ho]
    exact h'
  | some o =>
    rw [ho] at h
    exact AllReadyH.cons ho h AllReadyH.nil
end
end Go.Tre
namespace Go.Tre
section
variable {P : Program} {ops : Array Oper} {Q : Exit → Act → World → Prop} {md : Region.Mode} {S : World → Prop} {F : List Nat}
/-- f waits for i -/
def waits (md : Region.Mode) (ops : Array Oper) : Nat → Nat → Nat → Bool
  | 0, _, _ => false
  | n + 1, f, i => match ops[f]? with
    | some o => o.after.any fun e => Region.binds md e && (e.on == i || waits md ops n e.on i)
    | none => false
/-- what has come up had all that it waits for -/
def Closed (md : Region.Mode) (ops : Array Oper) (listed : Array Bool) : Prop :=
  ∀ (j : Nat) (oj : Oper), ops[j]? = some oj → listed.getD j true = true → ∀ e ∈ oj.after, Region.binds md e = true → listed.getD e.on false = true
theorem getD_up {listed : Array Bool} {i : Nat} (h : listed.getD i false = true) : listed.getD i true = true := by
  rw [Array.getD_eq_getD_getElem?] at h ⊢
  cases hx : listed[i]? with
  | none => rfl
  | some x => rw [hx] at h; exact h
theorem Closed.waits {listed : Array Bool} (h : Closed md ops listed) : ∀ {n f i : Nat}, waits md ops n f i = true → listed.getD f true = true → listed.getD i true = true := by
  intro n
  induction n with
  | zero => intro f i hw; cases hw
  | succ n ih =>
    intro f i hw hf
    unfold Tre.waits at hw
    cases ho : ops[f]? with
    | none => rw [ho] at hw; cases hw
    | some o =>
      rw [ho] at hw
      obtain ⟨e, he, hb⟩ := Array.any_eq_true'.1 hw
      simp only [Bool.and_eq_true, Bool.or_eq_true, beq_iff_eq] at hb
      have h1 := h f o ho hf e he hb.1
      rcases hb.2 with rfl | h2
      · exact getD_up h1
      · exact ih h2 (getD_up h1)
theorem Closed.step {listed : Array Bool} (h : Closed md ops listed) {i : Nat} (hr : i ∈ Region.ready md ops listed) : Closed md ops (listed.setIfInBounds i true) := by
  intro j oj ho hj e he hb
  refine getD_set_true ?_
  by_cases hji : j = i
  · subst hji
    obtain ⟨_, o, ho', hall⟩ := mem_ready.1 hr
    rw [ho] at ho'
    cases ho'
    exact hall e he hb
  · rw [getD_set_ne true (Ne.symm hji)] at hj
    exact h j oj ho hj e he hb
def closedB (md : Region.Mode) (ops : Array Oper) (listed : Array Bool) : Bool :=
  (List.range ops.size).all fun j => !listed.getD j true || match ops[j]? with
    | some oj => oj.after.all fun e => !Region.binds md e || listed.getD e.on false
    | none => true
theorem closed_of {listed : Array Bool} (h : closedB md ops listed = true) : Closed md ops listed := by
  intro j oj ho hj e he hb
  unfold closedB at h
  rw [List.all_eq_true] at h
  have h1 := h j (List.mem_range.2 (Array.getElem?_eq_some_iff.1 ho).1)
  rw [hj, ho] at h1
  simp only [Bool.not_true, Bool.false_or] at h1
  have h2 := Array.all_eq_true'.1 h1 e he
  rw [hb] at h2
  simpa using h2

/-- the condition, while none of F has come up -/
def Keep (F : List Nat) (S : World → Prop) (listed : Array Bool) (w : World) : Prop := (∀ f ∈ F, listed.getD f true = false) → S w
def wpAnyL (P : Program) (md : Region.Mode) (ops : Array Oper) (Q : Exit → Act → World → Prop) (F : List Nat) (S : World → Prop) : Nat → Array Bool → Act → World → Prop
  | 0, listed, a, w => Region.ready md ops listed = [] ∧ Q .normal a w
  | fuel + 1, listed, a, w =>
    (Region.ready md ops listed = [] → Q .normal a w) ∧
    ∀ i ∈ Region.ready md ops listed, wpOp P ops Q i (fun a' w' => Keep F S (listed.setIfInBounds i true) w' ∧ wpAnyL P md ops Q F S fuel (listed.setIfInBounds i true) a' w') a w
theorem wpAny_of_keep : ∀ (fuel : Nat) (listed : Array Bool) (a : Act) (w : World), wpAnyL P md ops Q F S fuel listed a w → wpAny P md ops Q fuel listed a w
  | 0, _, _, _, h => h
  | fuel + 1, _, _, _, h => ⟨h.1, fun i hi => wpOp_mono (fun a' w' h' => wpAny_of_keep fuel _ a' w' h'.2) (h.2 i hi)⟩
theorem wpAnyL_first {i : Nat} {oi : Oper} {v : Value} (hi : ops[i]? = some oi) (hsel : ∀ (j : Nat) (o : Oper) cs b, ops[j]? = some o → o.op ≠ .select cs b)
    (hQ : ∀ c a w, Q (.panic c) (a.put oi.dst v) w → Q (.panic c) a w) (hF : ∀ f ∈ F, f ≠ i ∧ waits md ops ops.size f i = true) :
    ∀ (fuel : Nat) (listed : Array Bool) (a : Act) (w : World),
      (∀ j oj, ops[j]? = some oj → j ≠ i → listed.getD j true = false → (∀ e ∈ oj.after, Region.binds md e = true → e.on ≠ i) → oi.apart ops oj = true) →
      Closed md ops listed → i ∈ Region.ready md ops listed → YieldsIf P ops S oi v a → S w →
      wpAnyL P md ops Q F S fuel (listed.setIfInBounds i true) (a.put oi.dst v) w → wpAnyL P md ops Q F S (fuel + 1) listed a w := by
  intro fuel
  induction fuel with
  | zero =>
    intro listed a w _ _ hr hy hS H
    refine ⟨fun h => (by rw [h] at hr; cases hr), fun j hj => ?_⟩
    by_cases hji : j = i
    · subst hji; exact hy.wpOp hi hS ⟨fun _ => hS, H⟩
    · have := ready_mono hj hji
      rw [H.1] at this
      cases this
  | succ fuel ih =>
    intro listed a w hfree hc hr hy hS H
    refine ⟨fun h => (by rw [h] at hr; cases hr), fun j hj => ?_⟩
    by_cases hji : j = i
    · subst hji; exact hy.wpOp hi hS ⟨fun _ => hS, H⟩
    · have hun0 := (mem_ready.1 hr).1
      have h1 := H.2 j (ready_mono hj hji)
      obtain ⟨hjun, oj, hoj, hall⟩ := mem_ready.1 hj
      have hnot : ∀ e ∈ oj.after, Region.binds md e = true → e.on ≠ i := fun e he hb heq => by
        have h1 := hall e he hb
        rw [heq] at h1
        rw [getD_up h1] at hun0
        cases hun0
      have h2 := wpOp_putIf hoj (hfree j oj hoj hji hjun hnot) (fun cs b => hsel i oi cs b hi) (fun cs b => hsel j oj cs b hoj) hQ hy h1
      have hfree' : ∀ k ok, ops[k]? = some ok → k ≠ i → (listed.setIfInBounds j true).getD k true = false →
          (∀ e ∈ ok.after, Region.binds md e = true → e.on ≠ i) → oi.apart ops ok = true := fun k ok hk hki hun hno => by
        refine hfree k ok hk hki ?_ hno
        by_cases hjk : j = k
        · subst hjk; exact hjun
        · rw [getD_set_ne true hjk] at hun; exact hun
      have hc' := hc.step hj
      have hui : (listed.setIfInBounds j true).getD i true = false := by rw [getD_set_ne true hji]; exact hun0
      have hnoF : ∀ f ∈ F, (listed.setIfInBounds j true).getD f true = false := fun f hf => by
        cases hx : (listed.setIfInBounds j true).getD f true
        · rfl
        · have := hc'.waits (hF f hf).2 hx
          rw [hui] at this
          cases this
      refine wpOp_mono (fun a' w' h3 => ?_) h2
      have hSw : S w' := h3.2.1 (fun f hf => by
        rw [Array.setIfInBounds_comm _ _ (Ne.symm hji), getD_set_ne true (Ne.symm (hF f hf).1)]
        exact hnoF f hf)
      refine ⟨fun _ => hSw, ih (listed.setIfInBounds j true) a' w' hfree' hc' (ready_mono hr (Ne.symm hji)) h3.1 hSw ?_⟩
      rw [Array.setIfInBounds_comm _ _ hji]
      exact h3.2.2
theorem wpAnyL_pure {i : Nat} {oi : Oper} {v : Value} (hi : ops[i]? = some oi) (hsel : ∀ (j : Nat) (o : Oper) cs b, ops[j]? = some o → o.op ≠ .select cs b)
    (hQ : ∀ c a w, Q (.panic c) (a.put oi.dst v) w → Q (.panic c) a w) (hF : ∀ f ∈ F, f ≠ i) :
    ∀ (fuel : Nat) (listed : Array Bool) (a : Act) (w : World),
      (∀ j oj, ops[j]? = some oj → j ≠ i → listed.getD j true = false → (∀ e ∈ oj.after, Region.binds md e = true → e.on ≠ i) → oi.apart ops oj = true) →
      i ∈ Region.ready md ops listed → YieldsIf P ops (fun _ => True) oi v a → Keep F S listed w →
      wpAnyL P md ops Q F S fuel (listed.setIfInBounds i true) (a.put oi.dst v) w → wpAnyL P md ops Q F S (fuel + 1) listed a w := by
  have keep : ∀ (listed : Array Bool) (w : World), Keep F S (listed.setIfInBounds i true) w ↔ Keep F S listed w := fun listed w => by
    unfold Keep
    constructor
    · intro h h2
      exact h (fun f hf => by rw [getD_set_ne true (Ne.symm (hF f hf))]; exact h2 f hf)
    · intro h h2
      exact h (fun f hf => by have := h2 f hf; rw [getD_set_ne true (Ne.symm (hF f hf))] at this; exact this)
  intro fuel
  induction fuel with
  | zero =>
    intro listed a w _ hr hy hk H
    refine ⟨fun h => (by rw [h] at hr; cases hr), fun j hj => ?_⟩
    by_cases hji : j = i
    · subst hji; exact hy.wpOp hi trivial ⟨(keep _ _).2 hk, H⟩
    · have := ready_mono hj hji
      rw [H.1] at this
      cases this
  | succ fuel ih =>
    intro listed a w hfree hr hy hk H
    refine ⟨fun h => (by rw [h] at hr; cases hr), fun j hj => ?_⟩
    by_cases hji : j = i
    · subst hji; exact hy.wpOp hi trivial ⟨(keep _ _).2 hk, H⟩
    · have hun0 := (mem_ready.1 hr).1
      have h1 := H.2 j (ready_mono hj hji)
      obtain ⟨hjun, oj, hoj, hall⟩ := mem_ready.1 hj
      have hnot : ∀ e ∈ oj.after, Region.binds md e = true → e.on ≠ i := fun e he hb heq => by
        have h1 := hall e he hb
        rw [heq] at h1
        rw [getD_up h1] at hun0
        cases hun0
      have h2 := wpOp_putIf hoj (hfree j oj hoj hji hjun hnot) (fun cs b => hsel i oi cs b hi) (fun cs b => hsel j oj cs b hoj) hQ hy h1
      have hfree' : ∀ k ok, ops[k]? = some ok → k ≠ i → (listed.setIfInBounds j true).getD k true = false →
          (∀ e ∈ ok.after, Region.binds md e = true → e.on ≠ i) → oi.apart ops ok = true := fun k ok hk hki hun hno => by
        refine hfree k ok hk hki ?_ hno
        by_cases hjk : j = k
        · subst hjk; exact hjun
        · rw [getD_set_ne true hjk] at hun; exact hun
      refine wpOp_mono (fun a' w' h3 => ?_) h2
      have hk' : Keep F S (listed.setIfInBounds j true) w' := by
        have := h3.2.1
        rw [Array.setIfInBounds_comm _ _ (Ne.symm hji)] at this
        exact (keep _ _).1 this
      refine ⟨hk', ih (listed.setIfInBounds j true) a' w' hfree' (ready_mono hr (Ne.symm hji)) h3.1 hk' ?_⟩
      rw [Array.setIfInBounds_comm _ _ hji]
      exact h3.2.2
theorem lPure {i : Nat} (d : Option Tmp) {v : Value} {fuel : Nat} {listed : Array Bool} {a : Act} {w : World} (hd : (ops[i]?).map (·.dst) = some d) (hs : Region.noSelect ops = true) (hf : Region.free md ops listed i = true)
    (hr : (Region.ready md ops listed).contains i = true) (hF : F.contains i = false) (hQ : ∀ c a w, Q (.panic c) (a.put d v) w → Q (.panic c) a w) (hw : (ops[i]?).map (fun o => Region.wanted o (yielded ops a.tmps)) = some true)
    (hy : ∀ w, (ops[i]?).map (fun o => (execOp a.eval o).run P w) = some (.ok (.value v) w)) (hk : Keep F S listed w) (h : wpAnyL P md ops Q F S fuel (listed.setIfInBounds i true) (a.put d v) w) :
    wpAnyL P md ops Q F S (fuel + 1) listed a w := by
  obtain ⟨o, ho, rfl⟩ := Option.map_eq_some_iff.1 hd
  rw [ho, Option.map_some, Option.some.injEq] at hw
  have hF' : ∀ f ∈ F, f ≠ i := fun f hfm e => by
    subst e
    rw [List.contains_iff_mem.2 hfm] at hF
    cases hF
  refine wpAnyL_pure ho (Region.noSelect_spec hs) hQ hF' fuel listed a w (Region.free_spec ho hf) (by simpa using hr) (Or.inl ⟨hw, fun w _ => ?_⟩) hk h
  have := hy w
  rw [ho, Option.map_some, Option.some.injEq] at this
  exact this
theorem lPureNo {i : Nat} (d : Option Tmp) {fuel : Nat} {listed : Array Bool} {a : Act} {w : World} (hd : (ops[i]?).map (·.dst) = some d) (hs : Region.noSelect ops = true) (hf : Region.free md ops listed i = true)
    (hr : (Region.ready md ops listed).contains i = true) (hF : F.contains i = false) (hQ : ∀ c a w, Q (.panic c) (a.put d undef) w → Q (.panic c) a w) (hw : (ops[i]?).map (fun o => Region.wanted o (yielded ops a.tmps)) = some false)
    (hk : Keep F S listed w) (h : wpAnyL P md ops Q F S fuel (listed.setIfInBounds i true) (a.put d undef) w) : wpAnyL P md ops Q F S (fuel + 1) listed a w := by
  obtain ⟨o, ho, rfl⟩ := Option.map_eq_some_iff.1 hd
  rw [ho, Option.map_some, Option.some.injEq] at hw
  have hF' : ∀ f ∈ F, f ≠ i := fun f hfm e => by
    subst e
    rw [List.contains_iff_mem.2 hfm] at hF
    cases hF
  exact wpAnyL_pure ho (Region.noSelect_spec hs) hQ hF' fuel listed a w (Region.free_spec ho hf) (by simpa using hr) (Or.inr ⟨hw, rfl⟩) hk h
theorem keep_of {listed : Array Bool} {w : World} (h : S w) : Keep F S listed w := fun _ => h
theorem keep_fell {listed : Array Bool} {w : World} (h : F.any (fun f => listed.getD f true) = true) : Keep F S listed w := fun hn => by
  obtain ⟨f, hf, hx⟩ := List.any_eq_true.1 h
  rw [hn f hf] at hx
  cases hx
theorem wp_region_keep {id : Nat} {a : Act} {w : World} (F : List Nat) (hm : P.follows .mixedOrders = true) (hS : S w.drew)
    (h : S w.drew → wpAnyL P .any ops Q F S ops.size (Array.replicate ops.size false) a w.drew) : (Code.region id ops true).wp P Q a w :=
  wp_region_any hm (wpAny_of_keep _ _ _ _ (h hS))
theorem lTake {i : Nat} (d : Option Tmp) {v : Value} {fuel : Nat} {listed : Array Bool} {a : Act} {w : World} (hd : (ops[i]?).map (·.dst) = some d) (hs : Region.noSelect ops = true) (hf : Region.free md ops listed i = true)
    (hr : (Region.ready md ops listed).contains i = true) (hc : closedB md ops listed = true) (hF : (F.all fun f => f != i && waits md ops ops.size f i) = true) (hQ : ∀ c a w, Q (.panic c) (a.put d v) w → Q (.panic c) a w) (hw : (ops[i]?).map (fun o => Region.wanted o (yielded ops a.tmps)) = some true)
    (hy : ∀ w, S w → (ops[i]?).map (fun o => (execOp a.eval o).run P w) = some (.ok (.value v) w)) (hS : S w) (h : wpAnyL P md ops Q F S fuel (listed.setIfInBounds i true) (a.put d v) w) :
    wpAnyL P md ops Q F S (fuel + 1) listed a w := by
  obtain ⟨o, ho, rfl⟩ := Option.map_eq_some_iff.1 hd
  rw [ho, Option.map_some, Option.some.injEq] at hw
  have hF' : ∀ f ∈ F, f ≠ i ∧ waits md ops ops.size f i = true := fun f hf => by simpa using List.all_eq_true.1 hF f hf
  refine wpAnyL_first ho (Region.noSelect_spec hs) hQ hF' fuel listed a w (Region.free_spec ho hf) (closed_of hc) (by simpa using hr) (Or.inl ⟨hw, fun w hSw => ?_⟩) hS h
  have := hy w hSw
  rw [ho, Option.map_some, Option.some.injEq] at this
  exact this
theorem lTakeNo {i : Nat} (d : Option Tmp) {fuel : Nat} {listed : Array Bool} {a : Act} {w : World} (hd : (ops[i]?).map (·.dst) = some d) (hs : Region.noSelect ops = true) (hf : Region.free md ops listed i = true)
    (hr : (Region.ready md ops listed).contains i = true) (hc : closedB md ops listed = true) (hF : (F.all fun f => f != i && waits md ops ops.size f i) = true) (hQ : ∀ c a w, Q (.panic c) (a.put d undef) w → Q (.panic c) a w) (hw : (ops[i]?).map (fun o => Region.wanted o (yielded ops a.tmps)) = some false)
    (hS : S w) (h : wpAnyL P md ops Q F S fuel (listed.setIfInBounds i true) (a.put d undef) w) : wpAnyL P md ops Q F S (fuel + 1) listed a w := by
  obtain ⟨o, ho, rfl⟩ := Option.map_eq_some_iff.1 hd
  rw [ho, Option.map_some, Option.some.injEq] at hw
  have hF' : ∀ f ∈ F, f ≠ i ∧ waits md ops ops.size f i = true := fun f hf => by simpa using List.all_eq_true.1 hF f hf
  exact wpAnyL_first ho (Region.noSelect_spec hs) hQ hF' fuel listed a w (Region.free_spec ho hf) (closed_of hc) (by simpa using hr) (Or.inr ⟨hw, rfl⟩) hS h
/-- the next operation, K' the rest: S is to be shown anew -/
def LStep (P : Program) (md : Region.Mode) (ops : Array Oper) (Q : Exit → Act → World → Prop) (F : List Nat) (S : World → Prop) (fuel : Nat) (listed : Array Bool) (a : Act) (w : World) (i : Nat) : Prop :=
  ∀ K' : Act → World → Prop, Shut (∀ a w, S w → (S w → wpAnyL P md ops Q F S fuel (listed.setIfInBounds i true) a w) → K' a w) →
      match ops[i]? with | some o => if Region.wanted o (yielded ops a.tmps) = true then Oper.wp P o a w K' Q else K' (a.put o.dst undef) w | none => K' a w
/-- the same, where the condition falls -/
def LFall (P : Program) (md : Region.Mode) (ops : Array Oper) (Q : Exit → Act → World → Prop) (F : List Nat) (S : World → Prop) (fuel : Nat) (listed : Array Bool) (a : Act) (w : World) (i : Nat) : Prop :=
  ∀ K' : Act → World → Prop, Shut (∀ a w, wpAnyL P md ops Q F S fuel (listed.setIfInBounds i true) a w → K' a w) →
      match ops[i]? with | some o => if Region.wanted o (yielded ops a.tmps) = true then Oper.wp P o a w K' Q else K' (a.put o.dst undef) w | none => K' a w
variable {fuel : Nat} {listed : Array Bool} {a : Act} {w : World}
theorem LStep.op {i : Nat} (h : LStep P md ops Q F S fuel listed a w i) : wpOp P ops Q i (fun a' w' => Keep F S (listed.setIfInBounds i true) w' ∧ wpAnyL P md ops Q F S fuel (listed.setIfInBounds i true) a' w') a w := by
  unfold LStep at h
  cases ho : ops[i]? with
  | none =>
    rw [ho] at h
    have h' := h (fun a' w' => Keep F S (listed.setIfInBounds i true) w' ∧ wpAnyL P md ops Q F S fuel (listed.setIfInBounds i true) a' w') (fun a w hS hW => ⟨fun _ => hS, hW hS⟩)
    unfold wpOp
    rw [ho]
    exact h'
  | some o =>
    rw [ho] at h
    exact wpOp_step ho (fun K' hK => h K' (fun a w hS hW => hK a w ⟨fun _ => hS, hW hS⟩))
theorem LFall.op {i : Nat} (hi : F.any (fun f => (listed.setIfInBounds i true).getD f true) = true) (h : LFall P md ops Q F S fuel listed a w i) : wpOp P ops Q i (fun a' w' => Keep F S (listed.setIfInBounds i true) w' ∧ wpAnyL P md ops Q F S fuel (listed.setIfInBounds i true) a' w') a w := by
  have hk : ∀ w, Keep F S (listed.setIfInBounds i true) w := fun w hn => by
    obtain ⟨f, hf, hx⟩ := List.any_eq_true.1 hi
    rw [hn f hf] at hx
    cases hx
  unfold LFall at h
  cases ho : ops[i]? with
  | none =>
    rw [ho] at h
    have h' := h (fun a' w' => Keep F S (listed.setIfInBounds i true) w' ∧ wpAnyL P md ops Q F S fuel (listed.setIfInBounds i true) a' w') (fun a w hW => ⟨hk w, hW⟩)
    unfold wpOp
    rw [ho]
    exact h'
  | some o =>
    rw [ho] at h
    exact wpOp_step ho (fun K' hK => h K' (fun a w hW => hK a w ⟨hk w, hW⟩))
abbrev LOp (P : Program) (md : Region.Mode) (ops : Array Oper) (Q : Exit → Act → World → Prop) (F : List Nat) (S : World → Prop) (fuel : Nat) (listed : Array Bool) (a : Act) (w : World) (i : Nat) : Prop :=
  wpOp P ops Q i (fun a' w' => Keep F S (listed.setIfInBounds i true) w' ∧ wpAnyL P md ops Q F S fuel (listed.setIfInBounds i true) a' w') a w
theorem lNext {rs : List Nat} (hr : Region.ready md ops listed = rs) (hne : rs ≠ []) (h : ∀ i ∈ rs, LOp P md ops Q F S fuel listed a w i) : wpAnyL P md ops Q F S (fuel + 1) listed a w :=
  ⟨fun h0 => absurd (hr ▸ h0) hne, hr ▸ h⟩
theorem lOne (i : Nat) (hr : Region.ready md ops listed = [i]) (h1 : LOp P md ops Q F S fuel listed a w i) : wpAnyL P md ops Q F S (fuel + 1) listed a w :=
  lNext hr (by simp) (fun k hk => by simp at hk; subst hk; exact h1)
theorem lTwo (i j : Nat) (hr : Region.ready md ops listed = [i, j]) (h1 : LOp P md ops Q F S fuel listed a w i) (h2 : LOp P md ops Q F S fuel listed a w j) : wpAnyL P md ops Q F S (fuel + 1) listed a w :=
  lNext hr (by simp) (fun k hk => by
    simp at hk
    rcases hk with rfl | rfl
    · exact h1
    · exact h2)
theorem lThree (i j k : Nat) (hr : Region.ready md ops listed = [i, j, k]) (h1 : LOp P md ops Q F S fuel listed a w i) (h2 : LOp P md ops Q F S fuel listed a w j) (h3 : LOp P md ops Q F S fuel listed a w k) : wpAnyL P md ops Q F S (fuel + 1) listed a w :=
  lNext hr (by simp) (fun m hm => by
    simp at hm
    rcases hm with rfl | rfl | rfl
    · exact h1
    · exact h2
    · exact h3)
theorem lDone (hr : Region.ready md ops listed = []) (h : Q .normal a w) : wpAnyL P md ops Q F S fuel listed a w := by
  cases fuel with
  | zero => exact ⟨hr, h⟩
  | succ n => exact ⟨fun _ => h, by rw [hr]; simp⟩
end
end Go.Tre
namespace Go.Tre
section
variable {P : Program} {ops : Array Oper} {Q : Exit → Act → World → Prop} {md : Region.Mode} {S : World → Prop} {F : List Nat}
variable {fuel : Nat} {listed : Array Bool} {a : Act} {w : World}
def takeB (md : Region.Mode) (ops : Array Oper) (F : List Nat) (listed : Array Bool) (i : Nat) (d : Option Tmp) : Bool :=
  decide ((ops[i]?).map (·.dst) = some d) && (Region.noSelect ops && (Region.free md ops listed i && ((Region.ready md ops listed).contains i && (closedB md ops listed && (F.all fun f => f != i && waits md ops ops.size f i)))))
def plainB (md : Region.Mode) (ops : Array Oper) (F : List Nat) (listed : Array Bool) (i : Nat) (d : Option Tmp) : Bool :=
  decide ((ops[i]?).map (·.dst) = some d) && (Region.noSelect ops && (Region.free md ops listed i && ((Region.ready md ops listed).contains i && !(F.contains i))))
/-- lTake, its plain conditions at once -/
theorem lTk (i : Nat) (d : Option Tmp) {v : Value} (hy : ∀ w, S w → (ops[i]?).map (fun o => (execOp a.eval o).run P w) = some (.ok (.value v) w)) (hS : S w) (h : wpAnyL P md ops Q F S fuel (listed.setIfInBounds i true) (a.put d v) w)
    (hc : takeB md ops F listed i d = true := by kernel_rfl) (hQ : ∀ c a w, Q (.panic c) (a.put d v) w → Q (.panic c) a w := by exact fun _ _ _ h => h) (hw : (ops[i]?).map (fun o => Region.wanted o (yielded ops a.tmps)) = some true := by rfl) : wpAnyL P md ops Q F S (fuel + 1) listed a w := by
  unfold takeB at hc
  simp only [Bool.and_eq_true, decide_eq_true_eq] at hc
  obtain ⟨h1, h2, h3, h4, h5, h6⟩ := hc
  exact lTake d h1 h2 h3 h4 h5 h6 hQ hw hy hS h
/-- lPure, its plain conditions at once -/
theorem lPk (i : Nat) (d : Option Tmp) {v : Value} (hy : ∀ w, (ops[i]?).map (fun o => (execOp a.eval o).run P w) = some (.ok (.value v) w)) (hk : Keep F S listed w) (h : wpAnyL P md ops Q F S fuel (listed.setIfInBounds i true) (a.put d v) w)
    (hc : plainB md ops F listed i d = true := by kernel_rfl) (hQ : ∀ c a w, Q (.panic c) (a.put d v) w → Q (.panic c) a w := by exact fun _ _ _ h => h) (hw : (ops[i]?).map (fun o => Region.wanted o (yielded ops a.tmps)) = some true := by rfl) : wpAnyL P md ops Q F S (fuel + 1) listed a w := by
  unfold plainB at hc
  simp only [Bool.and_eq_true, decide_eq_true_eq, Bool.not_eq_true'] at hc
  obtain ⟨h1, h2, h3, h4, h5⟩ := hc
  exact lPure d h1 h2 h3 h4 h5 hQ hw hy hk h
/-- a condition's own name -/
structure Cond (S : World → Prop) : Type where
theorem Cond.is {S : World → Prop} {w : World} (_ : Cond S) (h : S w) : S w := h
end
end Go.Tre
