/- Drawn regions: what is read is read first; behind an operation that waits for all reads, the condition on the world may fall. gen.marks, gen.check. -/
import Derived.Test.YtlkfhbmjemjohaaDoorB09
import Derived.Test.YtlkfhbmjemjohaaDoorB08
import Derived.Deep.LoopGhost
namespace Go.Tre
section
variable {P : Program} {ops : Array Oper} {Q : Exit → Act → World → Prop} {md : Region.Mode} {S : World → Prop} {F : List Nat}
/-- f waits for i -/
def waits (md : Region.Mode) (ops : Array Oper) : Nat → Nat → Nat → Bool
  | 0, _, _ => false
  | n + 1, f, i => match ops[f]? with
    | some o => o.after.any fun e => Region.binds md e && (e.on == i || waits md ops n e.on i)
    | none => false
/-- what has come up had all that it waits for -/
def Closed (md : Region.Mode) (ops : Array Oper) (listed : Array Bool) : Prop :=
  ∀ (j : Nat) (oj : Oper), ops[j]? = some oj → listed.getD j true = true → ∀ e ∈ oj.after, Region.binds md e = true → listed.getD e.on false = true
theorem getD_up {listed : Array Bool} {i : Nat} (h : listed.getD i false = true) : listed.getD i true = true := by
  rw [Array.getD_eq_getD_getElem?] at h ⊢
  cases hx : listed[i]? with
  | none => rfl
  | some x => rw [hx] at h; exact h
theorem Closed.waits {listed : Array Bool} (h : Closed md ops listed) : ∀ {n f i : Nat}, waits md ops n f i = true → listed.getD f true = true → listed.getD i true = true := by
  intro n
  induction n with
  | zero => intro f i hw; cases hw
  | succ n ih =>
    intro f i hw hf
    unfold Tre.waits at hw
    cases ho : ops[f]? with
    | none => rw [ho] at hw; cases hw
    | some o =>
      rw [ho] at hw
      obtain ⟨e, he, hb⟩ := Array.any_eq_true'.1 hw
      simp only [Bool.and_eq_true, Bool.or_eq_true, beq_iff_eq] at hb
      have h1 := h f o ho hf e he hb.1
      rcases hb.2 with rfl | h2
      · exact getD_up h1
      · exact ih h2 (getD_up h1)
theorem Closed.step {listed : Array Bool} (h : Closed md ops listed) {i : Nat} (hr : i ∈ Region.ready md ops listed) : Closed md ops (listed.setIfInBounds i true) := by
  intro j oj ho hj e he hb
  refine getD_set_true ?_
  by_cases hji : j = i
  · subst hji
    obtain ⟨_, o, ho', hall⟩ := mem_ready.1 hr
    rw [ho] at ho'
    cases ho'
    exact hall e he hb
  · rw [getD_set_ne true (Ne.symm hji)] at hj
    exact h j oj ho hj e he hb
def closedB (md : Region.Mode) (ops : Array Oper) (listed : Array Bool) : Bool :=
  (List.range ops.size).all fun j => !listed.getD j true || match ops[j]? with
    | some oj => oj.after.all fun e => !Region.binds md e || listed.getD e.on false
    | none => true
theorem closed_of {listed : Array Bool} (h : closedB md ops listed = true) : Closed md ops listed := by
  intro j oj ho hj e he hb
  unfold closedB at h
  rw [List.all_eq_true] at h
  have h1 := h j (List.mem_range.2 (Array.getElem?_eq_some_iff.1 ho).1)
  rw [hj, ho] at h1
  simp only [Bool.not_true, Bool.false_or] at h1
  have h2 := Array.all_eq_true'.1 h1 e he
  rw [hb] at h2
  simpa using h2

/-- the condition, while none of F has come up -/
def Keep (F : List Nat) (S : World → Prop) (listed : Array Bool) (w : World) : Prop := (∀ f ∈ F, listed.getD f true = false) → S w
def wpAnyL (P : Program) (md : Region.Mode) (ops : Array Oper) (Q : Exit → Act → World → Prop) (F : List Nat) (S : World → Prop) : Nat → Array Bool → Act → World → Prop
  | 0, listed, a, w => Region.ready md ops listed = [] ∧ Q .normal a w
  | fuel + 1, listed, a, w =>
    (Region.ready md ops listed = [] → Q .normal a w) ∧
    ∀ i ∈ Region.ready md ops listed, wpOp P ops Q i (fun a' w' => Keep F S (listed.setIfInBounds i true) w' ∧ wpAnyL P md ops Q F S fuel (listed.setIfInBounds i true) a' w') a w
theorem wpAny_of_keep : ∀ (fuel : Nat) (listed : Array Bool) (a : Act) (w : World), wpAnyL P md ops Q F S fuel listed a w → wpAny P md ops Q fuel listed a w
  | 0, _, _, _, h => h
  | fuel + 1, _, _, _, h => ⟨h.1, fun i hi => wpOp_mono (fun a' w' h' => wpAny_of_keep fuel _ a' w' h'.2) (h.2 i hi)⟩
theorem wpAnyL_first {i : Nat} {oi : Oper} {v : Value} (hi : ops[i]? = some oi) (hsel : ∀ (j : Nat) (o : Oper) cs b, ops[j]? = some o → o.op ≠ .select cs b)
    (hQ : ∀ c a w, Q (.panic c) (a.put oi.dst v) w → Q (.panic c) a w) (hF : ∀ f ∈ F, f ≠ i ∧ waits md ops ops.size f i = true) :
    ∀ (fuel : Nat) (listed : Array Bool) (a : Act) (w : World),
      (∀ j oj, ops[j]? = some oj → j ≠ i → listed.getD j true = false → (∀ e ∈ oj.after, Region.binds md e = true → e.on ≠ i) → oi.apart ops oj = true) →
      Closed md ops listed → i ∈ Region.ready md ops listed → YieldsIf P ops S oi v a → S w →
      wpAnyL P md ops Q F S fuel (listed.setIfInBounds i true) (a.put oi.dst v) w → wpAnyL P md ops Q F S (fuel + 1) listed a w := by
  intro fuel
  induction fuel with
  | zero =>
    intro listed a w _ _ hr hy hS H
    refine ⟨fun h => (by rw [h] at hr; cases hr), fun j hj => ?_⟩
    by_cases hji : j = i
    · subst hji; exact hy.wpOp hi hS ⟨fun _ => hS, H⟩
    · have := ready_mono hj hji
      rw [H.1] at this
      cases this
  | succ fuel ih =>
    intro listed a w hfree hc hr hy hS H
    refine ⟨fun h => (by rw [h] at hr; cases hr), fun j hj => ?_⟩
    by_cases hji : j = i
    · subst hji; exact hy.wpOp hi hS ⟨fun _ => hS, H⟩
    · have hun0 := (mem_ready.1 hr).1
      have h1 := H.2 j (ready_mono hj hji)
      obtain ⟨hjun, oj, hoj, hall⟩ := mem_ready.1 hj
      have hnot : ∀ e ∈ oj.after, Region.binds md e = true → e.on ≠ i := fun e he hb heq => by
        have h1 := hall e he hb
        rw [heq] at h1
        rw [getD_up h1] at hun0
        cases hun0
      have h2 := wpOp_putIf hoj (hfree j oj hoj hji hjun hnot) (fun cs b => hsel i oi cs b hi) (fun cs b => hsel j oj cs b hoj) hQ hy h1
      have hfree' : ∀ k ok, ops[k]? = some ok → k ≠ i → (listed.setIfInBounds j true).getD k true = false →
          (∀ e ∈ ok.after, Region.binds md e = true → e.on ≠ i) → oi.apart ops ok = true := fun k ok hk hki hun hno => by
        refine hfree k ok hk hki ?_ hno
        by_cases hjk : j = k
        · subst hjk; exact hjun
        · rw [getD_set_ne true hjk] at hun; exact hun
      have hc' := hc.step hj
      have hui : (listed.setIfInBounds j true).getD i true = false := by rw [getD_set_ne true hji]; exact hun0
      have hnoF : ∀ f ∈ F, (listed.setIfInBounds j true).getD f true = false := fun f hf => by
        cases hx : (listed.setIfInBounds j true).getD f true
        · rfl
        · have := hc'.waits (hF f hf).2 hx
          rw [hui] at this
          cases this
      refine wpOp_mono (fun a' w' h3 => ?_) h2
      have hSw : S w' := h3.2.1 (fun f hf => by
        rw [Array.setIfInBounds_comm _ _ (Ne.symm hji), getD_set_ne true (Ne.symm (hF f hf).1)]
        exact hnoF f hf)
      refine ⟨fun _ => hSw, ih (listed.setIfInBounds j true) a' w' hfree' hc' (ready_mono hr (Ne.symm hji)) h3.1 hSw ?_⟩
      rw [Array.setIfInBounds_comm _ _ hji]
      exact h3.2.2
theorem wpAnyL_pure {i : Nat} {oi : Oper} {v : Value} (hi : ops[i]? = some oi) (hsel : ∀ (j : Nat) (o : Oper) cs b, ops[j]? = some o → o.op ≠ .select cs b)
    (hQ : ∀ c a w, Q (.panic c) (a.put oi.dst v) w → Q (.panic c) a w) (hF : ∀ f ∈ F, f ≠ i) :
    ∀ (fuel : Nat) (listed : Array Bool) (a : Act) (w : World),
      (∀ j oj, ops[j]? = some oj → j ≠ i → listed.getD j true = false → (∀ e ∈ oj.after, Region.binds md e = true → e.on ≠ i) → oi.apart ops oj = true) →
      i ∈ Region.ready md ops listed → YieldsIf P ops (fun _ => True) oi v a → Keep F S listed w →
      wpAnyL P md ops Q F S fuel (listed.setIfInBounds i true) (a.put oi.dst v) w → wpAnyL P md ops Q F S (fuel + 1) listed a w := by
  have keep : ∀ (listed : Array Bool) (w : World), Keep F S (listed.setIfInBounds i true) w ↔ Keep F S listed w := fun listed w => by
    unfold Keep
    constructor
    · intro h h2
      exact h (fun f hf => by rw [getD_set_ne true (Ne.symm (hF f hf))]; exact h2 f hf)
    · intro h h2
      exact h (fun f hf => by have := h2 f hf; rw [getD_set_ne true (Ne.symm (hF f hf))] at this; exact this)
  intro fuel
  induction fuel with
  | zero =>
    intro listed a w _ hr hy hk H
    refine ⟨fun h => (by rw [h] at hr; cases hr), fun j hj => ?_⟩
    by_cases hji : j = i
    · subst hji; exact hy.wpOp hi trivial ⟨(keep _ _).2 hk, H⟩
    · have := ready_mono hj hji
      rw [H.1] at this
      cases this
  | succ fuel ih =>
    intro listed a w hfree hr hy hk H
    refine ⟨fun h => (by rw [h] at hr; cases hr), fun j hj => ?_⟩
    by_cases hji : j = i
    · subst hji; exact hy.wpOp hi trivial ⟨(keep _ _).2 hk, H⟩
    · have hun0 := (mem_ready.1 hr).1
      have h1 := H.2 j (ready_mono hj hji)
      obtain ⟨hjun, oj, hoj, hall⟩ := mem_ready.1 hj
      have hnot : ∀ e ∈ oj.after, Region.binds md e = true → e.on ≠ i := fun e he hb heq => by
        have h1 := hall e he hb
        rw [heq] at h1
        rw [getD_up h1] at hun0
        cases hun0
      have h2 := wpOp_putIf hoj (hfree j oj hoj hji hjun hnot) (fun cs b => hsel i oi cs b hi) (fun cs b => hsel j oj cs b hoj) hQ hy h1
      have hfree' : ∀ k ok, ops[k]? = some ok → k ≠ i → (listed.setIfInBounds j true).getD k true = false →
          (∀ e ∈ ok.after, Region.binds md e = true → e.on ≠ i) → oi.apart ops ok = true := fun k ok hk hki hun hno => by
        refine hfree k ok hk hki ?_ hno
        by_cases hjk : j = k
        · subst hjk; exact hjun
        · rw [getD_set_ne true hjk] at hun; exact hun
      refine wpOp_mono (fun a' w' h3 => ?_) h2
      have hk' : Keep F S (listed.setIfInBounds j true) w' := by
        have := h3.2.1
        rw [Array.setIfInBounds_comm _ _ (Ne.symm hji)] at this
        exact (keep _ _).1 this
      refine ⟨hk', ih (listed.setIfInBounds j true) a' w' hfree' (ready_mono hr (Ne.symm hji)) h3.1 hk' ?_⟩
      rw [Array.setIfInBounds_comm _ _ hji]
      exact h3.2.2
theorem lPure {i : Nat} (d : Option Tmp) {v : Value} {fuel : Nat} {listed : Array Bool} {a : Act} {w : World} (hd : (ops[i]?).map (·.dst) = some d) (hs : Region.noSelect ops = true) (hf : Region.free md ops listed i = true)
    (hr : (Region.ready md ops listed).contains i = true) (hF : F.contains i = false) (hQ : ∀ c a w, Q (.panic c) (a.put d v) w → Q (.panic c) a w) (hw : (ops[i]?).map (fun o => Region.wanted o (yielded ops a.tmps)) = some true)
    (hy : ∀ w, (ops[i]?).map (fun o => (execOp a.eval o).run P w) = some (.ok (.value v) w)) (hk : Keep F S listed w) (h : wpAnyL P md ops Q F S fuel (listed.setIfInBounds i true) (a.put d v) w) :
    wpAnyL P md ops Q F S (fuel + 1) listed a w := by
  obtain ⟨o, ho, rfl⟩ := Option.map_eq_some_iff.1 hd
  rw [ho, Option.map_some, Option.some.injEq] at hw
  have hF' : ∀ f ∈ F, f ≠ i := fun f hfm e => by
    subst e
    rw [List.contains_iff_mem.2 hfm] at hF
    cases hF
  refine wpAnyL_pure ho (Region.noSelect_spec hs) hQ hF' fuel listed a w (Region.free_spec ho hf) (by simpa using hr) (Or.inl ⟨hw, fun w _ => ?_⟩) hk h
  have := hy w
  rw [ho, Option.map_some, Option.some.injEq] at this
  exact this
theorem lPureNo {i : Nat} (d : Option Tmp) {fuel : Nat} {listed : Array Bool} {a : Act} {w : World} (hd : (ops[i]?).map (·.dst) = some d) (hs : Region.noSelect ops = true) (hf : Region.free md ops listed i = true)
    (hr : (Region.ready md ops listed).contains i = true) (hF : F.contains i = false) (hQ : ∀ c a w, Q (.panic c) (a.put d undef) w → Q (.panic c) a w) (hw : (ops[i]?).map (fun o => Region.wanted o (yielded ops a.tmps)) = some false)
    (hk : Keep F S listed w) (h : wpAnyL P md ops Q F S fuel (listed.setIfInBounds i true) (a.put d undef) w) : wpAnyL P md ops Q F S (fuel + 1) listed a w := by
  obtain ⟨o, ho, rfl⟩ := Option.map_eq_some_iff.1 hd
  rw [ho, Option.map_some, Option.some.injEq] at hw
  have hF' : ∀ f ∈ F, f ≠ i := fun f hfm e => by
    subst e
    rw [List.contains_iff_mem.2 hfm] at hF
    cases hF
  exact wpAnyL_pure ho (Region.noSelect_spec hs) hQ hF' fuel listed a w (Region.free_spec ho hf) (by simpa using hr) (Or.inr ⟨hw, rfl⟩) hk h
theorem keep_of {listed : Array Bool} {w : World} (h : S w) : Keep F S listed w := fun _ => h
theorem keep_fell {listed : Array Bool} {w : World} (h : F.any (fun f => listed.getD f true) = true) : Keep F S listed w := fun hn => by
  obtain ⟨f, hf, hx⟩ := List.any_eq_true.1 h
  rw [hn f hf] at hx
  cases hx
theorem wp_region_keep {id : Nat} {a : Act} {w : World} (F : List Nat) (hm : P.follows .mixedOrders = true) (hS : S w.drew)
    (h : S w.drew → wpAnyL P .any ops Q F S ops.size (Array.replicate ops.size false) a w.drew) : (Code.region id ops true).wp P Q a w :=
  wp_region_any hm (wpAny_of_keep _ _ _ _ (h hS))
theorem lTake {i : Nat} (d : Option Tmp) {v : Value} {fuel : Nat} {listed : Array Bool} {a : Act} {w : World} (hd : (ops[i]?).map (·.dst) = some d) (hs : Region.noSelect ops = true) (hf : Region.free md ops listed i = true)
    (hr : (Region.ready md ops listed).contains i = true) (hc : closedB md ops listed = true) (hF : (F.all fun f => f != i && waits md ops ops.size f i) = true) (hQ : ∀ c a w, Q (.panic c) (a.put d v) w → Q (.panic c) a w) (hw : (ops[i]?).map (fun o => Region.wanted o (yielded ops a.tmps)) = some true)
    (hy : ∀ w, S w → (ops[i]?).map (fun o => (execOp a.eval o).run P w) = some (.ok (.value v) w)) (hS : S w) (h : wpAnyL P md ops Q F S fuel (listed.setIfInBounds i true) (a.put d v) w) :
    wpAnyL P md ops Q F S (fuel + 1) listed a w := by
  obtain ⟨o, ho, rfl⟩ := Option.map_eq_some_iff.1 hd
  rw [ho, Option.map_some, Option.some.injEq] at hw
  have hF' : ∀ f ∈ F, f ≠ i ∧ waits md ops ops.size f i = true := fun f hf => by simpa using List.all_eq_true.1 hF f hf
  refine wpAnyL_first ho (Region.noSelect_spec hs) hQ hF' fuel listed a w (Region.free_spec ho hf) (closed_of hc) (by simpa using hr) (Or.inl ⟨hw, fun w hSw => ?_⟩) hS h
  have := hy w hSw
  rw [ho, Option.map_some, Option.some.injEq] at this
  exact this
theorem lTakeNo {i : Nat} (d : Option Tmp) {fuel : Nat} {listed : Array Bool} {a : Act} {w : World} (hd : (ops[i]?).map (·.dst) = some d) (hs : Region.noSelect ops = true) (hf : Region.free md ops listed i = true)
    (hr : (Region.ready md ops listed).contains i = true) (hc : closedB md ops listed = true) (hF : (F.all fun f => f != i && waits md ops ops.size f i) = true) (hQ : ∀ c a w, Q (.panic c) (a.put d undef) w → Q (.panic c) a w) (hw : (ops[i]?).map (fun o => Region.wanted o (yielded ops a.tmps)) = some false)
    (hS : S w) (h : wpAnyL P md ops Q F S fuel (listed.setIfInBounds i true) (a.put d undef) w) : wpAnyL P md ops Q F S (fuel + 1) listed a w := by
  obtain ⟨o, ho, rfl⟩ := Option.map_eq_some_iff.1 hd
  rw [ho, Option.map_some, Option.some.injEq] at hw
  have hF' : ∀ f ∈ F, f ≠ i ∧ waits md ops ops.size f i = true := fun f hf => by simpa using List.all_eq_true.1 hF f hf
  exact wpAnyL_first ho (Region.noSelect_spec hs) hQ hF' fuel listed a w (Region.free_spec ho hf) (closed_of hc) (by simpa using hr) (Or.inr ⟨hw, rfl⟩) hS h
/-- the next operation, K' the rest: S is to be shown anew -/
def LStep (P : Program) (md : Region.Mode) (ops : Array Oper) (Q : Exit → Act → World → Prop) (F : List Nat) (S : World → Prop) (fuel : Nat) (listed : Array Bool) (a : Act) (w : World) (i : Nat) : Prop :=
  ∀ K' : Act → World → Prop, Shut (∀ a w, S w → (S w → wpAnyL P md ops Q F S fuel (listed.setIfInBounds i true) a w) → K' a w) →
      match ops[i]? with | some o => if Region.wanted o (yielded ops a.tmps) = true then Oper.wp P o a w K' Q else K' (a.put o.dst undef) w | none => K' a w
/-- the same, where the condition falls -/
def LFall (P : Program) (md : Region.Mode) (ops : Array Oper) (Q : Exit → Act → World → Prop) (F : List Nat) (S : World → Prop) (fuel : Nat) (listed : Array Bool) (a : Act) (w : World) (i : Nat) : Prop :=
  ∀ K' : Act → World → Prop, Shut (∀ a w, wpAnyL P md ops Q F S fuel (listed.setIfInBounds i true) a w → K' a w) →
      match ops[i]? with | some o => if Region.wanted o (yielded ops a.tmps) = true then Oper.wp P o a w K' Q else K' (a.put o.dst undef) w | none => K' a w
variable {fuel : Nat} {listed : Array Bool} {a : Act} {w : World}
theorem LStep.op {i : Nat} (h : LStep P md ops Q F S fuel listed a w i) : wpOp P ops Q i (fun a' w' => Keep F S (listed.setIfInBounds i true) w' ∧ wpAnyL P md ops Q F S fuel (listed.setIfInBounds i true) a' w') a w := by
  unfold LStep at h
  cases ho : ops[i]? with
  | none =>
    rw [ho] at h
    have h' := h (fun a' w' => Keep F S (listed.setIfInBounds i true) w' ∧ wpAnyL P md ops Q F S fuel (listed.setIfInBounds i true) a' w') (fun a w hS hW => ⟨fun _ => hS, hW hS⟩)
    unfold wpOp
    rw [ho]
    exact h'
  | some o =>
    rw [ho] at h
    exact wpOp_step ho (fun K' hK => h K' (fun a w hS hW => hK a w ⟨fun _ => hS, hW hS⟩))
theorem LFall.op {i : Nat} (hi : F.any (fun f => (listed.setIfInBounds i true).getD f true) = true) (h : LFall P md ops Q F S fuel listed a w i) : wpOp P ops Q i (fun a' w' => Keep F S (listed.setIfInBounds i true) w' ∧ wpAnyL P md ops Q F S fuel (listed.setIfInBounds i true) a' w') a w := by
  have hk : ∀ w, Keep F S (listed.setIfInBounds i true) w := fun w hn => by
    obtain ⟨f, hf, hx⟩ := List.any_eq_true.1 hi
    rw [hn f hf] at hx
    cases hx
  unfold LFall at h
  cases ho : ops[i]? with
  | none =>
    rw [ho] at h
    have h' := h (fun a' w' => Keep F S (listed.setIfInBounds i true) w' ∧ wpAnyL P md ops Q F S fuel (listed.setIfInBounds i true) a' w') (fun a w hW => ⟨hk w, hW⟩)
    unfold wpOp
    rw [ho]
    exact h'
  | some o =>
    rw [ho] at h
    exact wpOp_step ho (fun K' hK => h K' (fun a w hW => hK a w ⟨hk w, hW⟩))
abbrev LOp (P : Program) (md : Region.Mode) (ops : Array Oper) (Q : Exit → Act → World → Prop) (F : List Nat) (S : World → Prop) (fuel : Nat) (listed : Array Bool) (a : Act) (w : World) (i : Nat) : Prop :=
  wpOp P ops Q i (fun a' w' => Keep F S (listed.setIfInBounds i true) w' ∧ wpAnyL P md ops Q F S fuel (listed.setIfInBounds i true) a' w') a w
theorem lNext {rs : List Nat} (hr : Region.ready md ops listed = rs) (hne : rs ≠ []) (h : ∀ i ∈ rs, LOp P md ops Q F S fuel listed a w i) : wpAnyL P md ops Q F S (fuel + 1) listed a w :=
  ⟨fun h0 => absurd (hr ▸ h0) hne, hr ▸ h⟩
theorem lOne (i : Nat) (hr : Region.ready md ops listed = [i]) (h1 : LOp P md ops Q F S fuel listed a w i) : wpAnyL P md ops Q F S (fuel + 1) listed a w :=
  lNext hr (by simp) (fun k hk => by simp at hk; subst hk; exact h1)
theorem lTwo (i j : Nat) (hr : Region.ready md ops listed = [i, j]) (h1 : LOp P md ops Q F S fuel listed a w i) (h2 : LOp P md ops Q F S fuel listed a w j) : wpAnyL P md ops Q F S (fuel + 1) listed a w :=
  lNext hr (by simp) (fun k hk => by
    simp at hk
    rcases hk with rfl | rfl
    · exact h1
    · exact h2)
theorem lThree (i j k : Nat) (hr : Region.ready md ops listed = [i, j, k]) (h1 : LOp P md ops Q F S fuel listed a w i) (h2 : LOp P md ops Q F S fuel listed a w j) (h3 : LOp P md ops Q F S fuel listed a w k) : wpAnyL P md ops Q F S (fuel + 1) listed a w :=
  lNext hr (by simp) (fun m hm => by
    simp at hm
    rcases hm with rfl | rfl | rfl
    · exact h1
    · exact h2
    · exact h3)
theorem lDone (hr : Region.ready md ops listed = []) (h : Q .normal a w) : wpAnyL P md ops Q F S fuel listed a w := by
  cases fuel with
  | zero => exact ⟨hr, h⟩
  | succ n => exact ⟨fun _ => h, by rw [hr]; simp⟩
end
end Go.Tre
namespace Go.Tre
def Graph.monoC (g : Tre.Graph) (mono : List Int) : Int := if g.checkC ≠ 0 then g.checkC else if mono.any (outside g.ns.length) then 2 else 0
end Go.Tre
namespace Go.Proofs.YtlkfhbmjemjohaaDoor.gr
open Go.RowKit Go.Shelf Go.Maps Go.Tre lex
theorem metL_same {g : Tre.Graph} {V W : List Nat} (h : ∀ i, i ∈ V ↔ i ∈ W) : metL g V = metL g W := by
  unfold metL
  refine List.map_congr_left (fun i _ => ?_)
  simp only [h i]
theorem made_bools (g : Tre.Graph) : (madeCells (Value.bool false).cells (g.ns.length * 1)).toList = metL g [] := by
  rw [show (Value.bool false).cells = #[Value.bool false] from rfl, toList_madeCells_one, Nat.mul_one]
  unfold metL
  apply List.ext_getElem
  · simp
  · intro i h1 h2
    simp
theorem casts_map (l : List Nat) : (l.map fun k : Nat => (k : Int)).map (Value.int .i64) = l.map rk := by rw [List.map_map]; rfl

set_option maxRecDepth 100000 in
set_option maxHeartbeats 4000000 in
theorem marks_any (a : Option Addr) (ca : Nat) (g : Tre.Graph) (al : Option Addr) (cl : Nat) (l : List Nat) (w : World) (hg : NodesAt w a g.ns) (c0 : g.checkC = 0) (wg : g.weight ≤ 2097152) (hl : IntsAt w al (l.map fun k : Nat => (k : Int))) (hm : ∀ m ∈ l, m < g.ns.length) (hll : l.length ≤ 2097152) :
    Calls Tryd.prog 32 #[.agg #[.slice a g.ns.length ca, .int .i64 g.root], .slice al l.length cl] w fun e w' =>
      ∃ v, e = .returned v ∧ Mem w w' [rowR 4 1 v g.ns.length (metL g (g.dfs l []))] := by
  have M := (Mem.nil w).allocR #[.slice a g.ns.length ca, .int .i64 g.root] 24
  have HG := Tre.hid hg
  have HL := Tre.hid hl
  have HM0 := Tre.hid M
  have OG := Tre.hid (Graph.ok_of c0)
  have hgl := OG.out.len
  have hbl := g.budget_le
  have HMI := Tre.hid (MI.start (g := g) hm)
  have HLM := Tre.hid hm
  obtain ⟨ib, hb1, hb2, hb3, hb4⟩ := info_parts infoB
  have B1 := Tre.hid hb1
  have B2 := Tre.hid hb2
  have B3 := Tre.hid hb3
  have B4 := Tre.hid hb4
  obtain ⟨ji, K1, K2, K3, K4⟩ := info_parts infoI
  have L1 := Tre.hid K1
  have L2 := Tre.hid K2
  have L3 := Tre.hid K3
  have L4 := Tre.hid K4
  obtain ⟨wm, hmk, hmo, hmg⟩ := run_make_full (P := Tryd.prog) (w.alloc (.cells #[.slice a g.ns.length ca, .int .i64 g.root] 24)) 0 41 4 ib _ 1 Tryd.underlying41 hb1 hb2 hb3 .i64 .i64 g.ns.length (by rw [hb4]; omega) (by unfold maxLen; omega) (Nat.zero_le _)
  rw [made_bools, heapSize_alloc] at hmo
  have MV : Mem w wm [rowR 4 1 (.slice (some ⟨w.heap.size + 1, 0, none⟩) g.ns.length g.ns.length) g.ns.length (metL g []), cellsR w.heap.size 24 #[.slice a g.ns.length ca, .int .i64 g.root]] :=
    M.add hmg (rowR 4 1 _ g.ns.length (metL g [])) hmo (fun b hb => by have : some (w.heap.size + 1) = some b := hb; cases this; simp)
  have HMV := Tre.hid MV
  have CL := cloneInts al cl (l.map fun k : Nat => (k : Int)) wm (hl.below MV.below) (by rw [List.length_map]; omega)
  rw [List.length_map, casts_map] at CL
  have HCL := Tre.hid CL
  rw [heapSize_alloc] at hmk
  obtain ⟨bm, hbm⟩ : ∃ bm : Nat, w.heap.size + 1 = bm := ⟨_, rfl⟩
  clear hg hl M c0 hm hb1 hb2 hb3 hb4 K1 K2 K3 K4 hmo hmg MV CL
  go_enter Tryd.func32, Tryd.ntmps32
  go_wp2_with fail
  refine HCL.out.mono ?_
  rintro e w2 ⟨v6, rfl, m2⟩
  have HM2 := Tre.hid (HMV.out.call m2)
  rw [hbm] at HM2
  clear m2 hmk hbm HMV HCL HL
  obtain ⟨a6, c6, rfl, _⟩ := HM2.out.val 0 rfl
  go_wp2_with fail
  go_loopg [6] (g.budget [] + l.length) (fun gk v6 wr => ∃ V s : List Nat, Hid (MI g l V s ∧ gk = g.budget V + s.length) ∧ Hid (Mem w wr [rowR 3 1 v6 s.length (s.map rk), rowR 4 1 (.slice (some ⟨bm, 0, none⟩) g.ns.length g.ns.length) g.ns.length (metL g V), cellsR w.heap.size 24 #[.slice a g.ns.length ca, .int .i64 g.root]]))
  case atStart => exact ⟨[], l, ⟨HMI.out, rfl⟩, HM2.out⟩
  case round =>
    obtain ⟨V, s, hI, hM⟩ := hrel
    have hsl : s.length ≤ 4194304 := by have := hI.out.1.le; omega
    rcases List.eq_nil_or_concat s with rfl | ⟨s, x, rfl⟩
    · obtain ⟨a6, c6, rfl, _⟩ := hM.out.val 0 rfl
      go_wp2_with fail
      go_ret
      refine ⟨_, rfl, ?_⟩
      rw [← metL_same (fun i => hI.out.1.done OG.out HLM.out i)]
      exact (hM.out.del 0).del 1
    · rw [List.concat_eq_append] at hI hM hsl
      have hM' := hM.out
      rw [List.length_append, List.length_singleton, List.map_append] at hM'
      obtain ⟨g6, c6, rfl, _, _⟩ := hM'.pos 0 rfl
      have k0 : wr.cell? ⟨g6, s.length, none⟩ = some (.int .i64 (x : Int)) := hM'.cellAt 0 rfl s.length (by rw [List.getElem?_append_right (by simp), List.length_map, Nat.sub_self]; rfl)
      have hcc : s.length + 1 ≤ c6 := by obtain ⟨_, _, e, h⟩ := hM'.val 0 rfl; cases e; exact h
      have MP := hM'.pop 0 rfl (by simp)
      have hxl : x < g.ns.length := hI.out.1.slt x (by simp)
      have m0 : wr.cell? ⟨bm, x, none⟩ = some (.bool (decide (x ∈ V))) := hM'.cellAt 1 rfl x (by rw [metL, List.getElem?_map, List.getElem?_range hxl]; rfl)
      have mf := hM'.freeAt 1 rfl x
      have HMP := Tre.hid MP
      have i1 : (0 : Int) ≤ (x : Int) := by omega
      have i2 : (x : Int) < (g.ns.length : Int) := by omega
      rw [List.length_append, List.length_singleton] at hsl
      clear hM' MP hM
      by_cases hxV : x ∈ V
      · have HI2 := Tre.hid (hI.out.1.skip hxV)
        have em : decide (x ∈ V) = true := by simp [hxV]
        rw [em] at m0
        clear em
        go_wp2_with fail
        go_roundg (g.budget V + s.length)
        case measure => have := hI.out.2; rw [this]; simp
        case rel => exact ⟨V, s, ⟨HI2.out, rfl⟩, HMP.out⟩
      · have HI2 := Tre.hid (hI.out.1.mark OG.out hxV)
        have em : decide (x ∈ V) = false := by simp [hxV]
        rw [em] at m0
        have M2 := HMP.out.setRow 1 rfl x (.bool true)
        have e2 : (metL g V).set x (.bool true) = metL g (V ++ [x]) := (metL_set g V x).symm
        rw [e2] at M2
        obtain ⟨g0, g1⟩ := M2.two 2 rfl
        have HBS := Tre.hid (Graph.budget_step (g := g) hxl hxV)
        obtain ⟨b1, o1, rfl, nx⟩ := HG.out.at_ x (g.nd x) (by rw [Graph.nd_eq hxl]; exact List.getElem?_eq_getElem hxl)
        have hax := OG.out.kids_eq hxl
        have hkl := g.kids_len x
        have hdg : g.deg x ≤ g.weight := by
          have h1 := args_len (g.nd x)
          have h2 : (g.nd x).weight ≤ g.weight := by rw [Graph.nd_eq hxl]; exact node_weight (List.getElem_mem hxl)
          have h3 : g.deg x = (g.nd x).args.length := rfl
          omega
        obtain ⟨ax, cx, lx, dx, x0, x1, x2, x3, x4, xA, xL, _, _⟩ := nx
        have xA := xA.below M2.below
        have x2 := cell_below M2.below x2
        have hdl : (g.nd x).args.length = (g.kids x).length := by rw [hkl]; rfl
        rw [hdl] at x2
        have XA : Hid (IntsAt (wr.setCell ⟨bm, x, none⟩ (.bool true)) ax ((g.kids x).map fun k : Nat => (k : Int))) := by rw [← hax]; exact xA
        have hkl2 : (g.kids x).length ≤ 2097152 := by omega
        have HKL := Tre.hid hkl
        have HM2' := Tre.hid M2
        clear hax hkl hdl xA xL x0 x1 x3 x4 M2 em e2 hdg
        go_wp2_with (at_builtin; refine wpList_append_row _ rfl _ _ 25 rfl 3 ji _ 1 8 Tryd.underlying25 L1.out L2.out L3.out L4.out rfl (by omega) (.slice (some ⟨g6, 0, none⟩) s.length c6) s.length (s.map rk) rfl (HM2'.out.row 0 rfl) ax (g.kids x).length cx ((g.kids x).map rk) rfl (by have h := XA.out; rw [IntsAt, List.length_map, casts_map] at h; exact h) (fun u hu => by obtain ⟨z, _, rfl⟩ := List.mem_map.1 hu; rfl) (by unfold maxLen; omega) (by omega) ?_; intro v' w4 hown4 hgrow4 hat4; have M4 := HM2'.out.grow 0 rfl hgrow4 hown4 hat4; obtain ⟨a4, c4, rfl, _⟩ := M4.val 0 rfl; have HM4 := Tre.hid M4; clear M4 hown4 hgrow4 hat4)
        go_roundg (g.budget (V ++ [x]) + (s ++ g.kids x).length)
        case measure =>
          have h1 := hI.out.2
          have h2 := HBS.out
          have h3 := HKL.out
          rw [h1]
          simp only [List.length_append, List.length_singleton]
          omega
        case rel =>
          refine ⟨V ++ [x], s ++ g.kids x, ⟨HI2.out, rfl⟩, ?_⟩
          rw [List.length_append, List.map_append]
          exact HM4.out

set_option maxHeartbeats 1000000 in
theorem check1g (x : Int) (bg : Nat) (an : Option Addr) (size cap : Nat) (w : World) (hc : w.cell? ⟨bg, 0, none⟩ = some (.slice an size cap)) :
    Calls Tryd.prog 31 #[.int .i64 x, .pointer (some ⟨bg, 0, none⟩)] w fun e w' => e = .returned (.bool (outside size x)) ∧ Below w.heap.size w w' := by
  by_cases h0 : x < 0
  · have H : Hid (outside size x = true) := by show _ = _; unfold outside; simp [h0]
    go_enter Tryd.func31, Tryd.ntmps31
    go_wp2_with fail
    go_ret
    exact ⟨ret_bool H.out.symm, Below.refl _ _⟩
  · have H : Hid (outside size x = decide ((size : Int) ≤ x)) := by show _ = _; unfold outside; simp [h0]
    go_enter Tryd.func31, Tryd.ntmps31
    go_wp2_with fail
    go_ret
    exact ⟨ret_bool H.out.symm, Below.refl _ _⟩
theorem hcfG (args : Array Value) (w : World) : (callFunc 31 args).run Tryd.prog w = .ok (.enter 31 args) w := by kernel_rfl
theorem gcheck_any (a : Option Addr) (ca : Nat) (g : Tre.Graph) (am : Option Addr) (cm : Nat) (mono : List Int) (w : World) (hg : NodesAt w a g.ns) (wg : g.weight ≤ 2097152) (hl : IntsAt w am mono) (hll : mono.length ≤ 8388608) (hm : MaxAt w) :
    Calls Tryd.prog 20 #[.agg #[.slice a g.ns.length ca, .int .i64 g.root], .slice am mono.length cm] w fun e w' => e = .returned (.int .i64 (g.monoC mono)) ∧ Below w.heap.size w w' := by
  have M := (Mem.nil w).allocR #[.slice a g.ns.length ca, .int .i64 g.root] 24
  have HG := Tre.hid hg
  have HL := Tre.hid hl
  have HM := Tre.hid hm
  have HM0 := Tre.hid M
  clear hg hl hm M
  by_cases c0 : g.checkC = 0
  · have u0 : (g.checkC != 0) = false := by rw [c0]; rfl
    have HC : Hid (g.monoC mono = if mono.any (outside g.ns.length) then 2 else 0) := by show _ = _; unfold Graph.monoC; simp [c0]
    clear c0
    go_enter Tryd.func20, Tryd.ntmps20
    go_wp2_with fail
    refine (check_any a ca g _ (HG.out.below HM0.out.below) (by omega) (HM.out.below HM0.out.below)).mono ?_
    rintro e w1 ⟨rfl, b1⟩
    have M1 := HM0.out.quiet b1
    have g0 := (M1.two 0 rfl).1
    have HM1 := Tre.hid M1
    clear M1 b1
    go_wp2_with fail
    refine (containsInts 31 #[.pointer (some ⟨w.heap.size, 0, none⟩)] hcfG (outside g.ns.length) _ _ mono _ (HL.out.below HM1.out.below) hll (fun x wx _ hbx => check1g x _ a g.ns.length ca wx (cell_below hbx g0))).mono ?_
    rintro e w2 ⟨rfl, b2⟩
    have HM2 := Tre.hid (HM1.out.quiet b2)
    clear b2
    cases hx : mono.any (outside g.ns.length)
    all_goals
      have HX := Tre.hid hx
      clear hx
      go_wp2_with fail
      go_ret
      exact ⟨ret_int (by rw [HC.out, HX.out]; rfl), HM2.out.below⟩
  · have u0 := not_ok c0
    have HC : Hid (g.monoC mono = g.checkC) := by show _ = _; unfold Graph.monoC; rw [if_pos c0]
    clear c0
    go_enter Tryd.func20, Tryd.ntmps20
    go_wp2_with fail
    refine (check_any a ca g _ (HG.out.below HM0.out.below) (by omega) (HM.out.below HM0.out.below)).mono ?_
    rintro e w1 ⟨rfl, b1⟩
    have HM1 := Tre.hid (HM0.out.quiet b1)
    clear b1
    go_wp2_with fail
    go_ret
    exact ⟨ret_int (by rw [HC.out]), HM1.out.below⟩
end Go.Proofs.YtlkfhbmjemjohaaDoor.gr
