/- Drawn regions: what is read is read first; behind an operation that waits for all reads, the condition on the world may fall. The lexer's walks: rest, fail. The walks of lex.IsKey, lex.IsName, of the reference's word, IsKey, IsName: one plain function each, the same on both sides. The lexer's contracts of library calls, in the words of the plain lexer; what an error is in memory. -/
import Derived.Test.YtbafalfmgibnfaaGreatDoorB01
import Derived.Test.YtbafalfmgibnfaaGreatDoorB00
import Derived.Deep.DeepCutAuto
import Derived.Deep.RegionHeld3
import Derived.Deep.RegionWith
import Derived.Test.YtbafalfmgibnfaaGreatDoorShelf
import Derived.Shelf.Strings.SlTrimAscii
import Derived.Lib.Index
set_option linter.unusedVariables false
namespace Go.Tre
section
variable {P : Program} {ops : Array Oper} {Q : Exit → Act → World → Prop} {md : Region.Mode} {S : World → Prop} {F : List Nat}
def waits (md : Region.Mode) (ops : Array Oper) : Nat → Nat → Nat → Bool
 | 0, _, _ => false
 | n + 1, f, i => match ops[f]? with
  | some o => o.after.any fun e => Region.binds md e && (e.on == i || waits md ops n e.on i)
  | none => false
def Closed (md : Region.Mode) (ops : Array Oper) (listed : Array Bool) : Prop :=
 ∀ (j : Nat) (oj : Oper), ops[j]? = some oj → listed.getD j true = true → ∀ e ∈ oj.after, Region.binds md e = true → listed.getD e.on false = true
theorem getD_up {listed : Array Bool} {i : Nat} (h : listed.getD i false = true) : listed.getD i true = true := by
 rw [Array.getD_eq_getD_getElem?] at h ⊢
 cases hx : listed[i]? with
 | none => rfl
 | some x => rw [hx] at h; exact h
theorem Closed.waits {listed : Array Bool} (h : Closed md ops listed) : ∀ {n f i : Nat}, waits md ops n f i = true → listed.getD f true = true → listed.getD i true = true := by
 intro n
 induction n with
 | zero => intro f i hw; cases hw
 | succ n ih =>
  intro f i hw hf
  unfold Tre.waits at hw
  cases ho : ops[f]? with
  | none => rw [ho] at hw; cases hw
  | some o =>
   rw [ho] at hw
   obtain ⟨e, he, hb⟩ := Array.any_eq_true'.1 hw
   simp only [Bool.and_eq_true, Bool.or_eq_true, beq_iff_eq] at hb
   have h1 := h f o ho hf e he hb.1
   rcases hb.2 with rfl | h2
   ·exact getD_up h1
   ·exact ih h2 (getD_up h1)
theorem Closed.step {listed : Array Bool} (h : Closed md ops listed) {i : Nat} (hr : i ∈ Region.ready md ops listed) : Closed md ops (listed.setIfInBounds i true) := by
 intro j oj ho hj e he hb
 refine getD_set_true ?_
 by_cases hji : j = i
 ·subst hji
  obtain ⟨_, o, ho', hall⟩ := mem_ready.1 hr
  rw [ho] at ho'
  cases ho'
  exact hall e he hb
 ·rw [getD_set_ne true (Ne.symm hji)] at hj
  exact h j oj ho hj e he hb
def closedB (md : Region.Mode) (ops : Array Oper) (listed : Array Bool) : Bool :=
 (List.range ops.size).all fun j => !listed.getD j true || match ops[j]? with
  | some oj => oj.after.all fun e => !Region.binds md e || listed.getD e.on false
  | none => true
theorem closed_of {listed : Array Bool} (h : closedB md ops listed = true) : Closed md ops listed := by
 intro j oj ho hj e he hb
 unfold closedB at h
 rw [List.all_eq_true] at h
 have h1 := h j (List.mem_range.2 (Array.getElem?_eq_some_iff.1 ho).1)
 rw [hj, ho] at h1
 simp only [Bool.not_true, Bool.false_or] at h1
 have h2 := Array.all_eq_true'.1 h1 e he
 rw [hb] at h2
 simpa using h2

def Keep (F : List Nat) (S : World → Prop) (listed : Array Bool) (w : World) : Prop := (∀ f ∈ F, listed.getD f true = false) → S w
def wpAnyL (P : Program) (md : Region.Mode) (ops : Array Oper) (Q : Exit → Act → World → Prop) (F : List Nat) (S : World → Prop) : Nat → Array Bool → Act → World → Prop
 | 0, listed, a, w => Region.ready md ops listed = [] ∧ Q .normal a w
 | fuel + 1, listed, a, w =>
  (Region.ready md ops listed = [] → Q .normal a w) ∧
  ∀ i ∈ Region.ready md ops listed, wpOp P ops Q i (fun a' w' => Keep F S (listed.setIfInBounds i true) w' ∧ wpAnyL P md ops Q F S fuel (listed.setIfInBounds i true) a' w') a w
theorem wpAny_of_keep : ∀ (fuel : Nat) (listed : Array Bool) (a : Act) (w : World), wpAnyL P md ops Q F S fuel listed a w → wpAny P md ops Q fuel listed a w
 | 0, _, _, _, h => h
 | fuel + 1, _, _, _, h => ⟨h.1, fun i hi => wpOp_mono (fun a' w' h' => wpAny_of_keep fuel _ a' w' h'.2) (h.2 i hi)⟩
theorem wpAnyL_first {i : Nat} {oi : Oper} {v : Value} (hi : ops[i]? = some oi) (hsel : ∀ (j : Nat) (o : Oper) cs b, ops[j]? = some o → o.op ≠ .select cs b)
  (hQ : ∀ c a w, Q (.panic c) (a.put oi.dst v) w → Q (.panic c) a w) (hF : ∀ f ∈ F, f ≠ i ∧ waits md ops ops.size f i = true) :
  ∀ (fuel : Nat) (listed : Array Bool) (a : Act) (w : World),
   (∀ j oj, ops[j]? = some oj → j ≠ i → listed.getD j true = false → (∀ e ∈ oj.after, Region.binds md e = true → e.on ≠ i) → oi.apart ops oj = true) →
   Closed md ops listed → i ∈ Region.ready md ops listed → YieldsIf P ops S oi v a → S w →
   wpAnyL P md ops Q F S fuel (listed.setIfInBounds i true) (a.put oi.dst v) w → wpAnyL P md ops Q F S (fuel + 1) listed a w := by
 intro fuel
 induction fuel with
 | zero =>
  intro listed a w _ _ hr hy hS H
  refine ⟨fun h => (by rw [h] at hr; cases hr), fun j hj => ?_⟩
  by_cases hji : j = i
  ·subst hji; exact hy.wpOp hi hS ⟨fun _ => hS, H⟩
  ·have := ready_mono hj hji
   rw [H.1] at this
   cases this
 | succ fuel ih =>
  intro listed a w hfree hc hr hy hS H
  refine ⟨fun h => (by rw [h] at hr; cases hr), fun j hj => ?_⟩
  by_cases hji : j = i
  ·subst hji; exact hy.wpOp hi hS ⟨fun _ => hS, H⟩
  ·have hun0 := (mem_ready.1 hr).1
   have h1 := H.2 j (ready_mono hj hji)
   obtain ⟨hjun, oj, hoj, hall⟩ := mem_ready.1 hj
   have hnot : ∀ e ∈ oj.after, Region.binds md e = true → e.on ≠ i := fun e he hb heq => by
    have h1 := hall e he hb
    rw [heq] at h1
    rw [getD_up h1] at hun0
    cases hun0
   have h2 := wpOp_putIf hoj (hfree j oj hoj hji hjun hnot) (fun cs b => hsel i oi cs b hi) (fun cs b => hsel j oj cs b hoj) hQ hy h1
   have hfree' : ∀ k ok, ops[k]? = some ok → k ≠ i → (listed.setIfInBounds j true).getD k true = false →
     (∀ e ∈ ok.after, Region.binds md e = true → e.on ≠ i) → oi.apart ops ok = true := fun k ok hk hki hun hno => by
    refine hfree k ok hk hki ?_ hno
    by_cases hjk : j = k
    ·subst hjk; exact hjun
    ·rw [getD_set_ne true hjk] at hun; exact hun
   have hc' := hc.step hj
   have hui : (listed.setIfInBounds j true).getD i true = false := by rw [getD_set_ne true hji]; exact hun0
   have hnoF : ∀ f ∈ F, (listed.setIfInBounds j true).getD f true = false := fun f hf => by
    cases hx : (listed.setIfInBounds j true).getD f true
    ·rfl
    ·have := hc'.waits (hF f hf).2 hx
     rw [hui] at this
     cases this
   refine wpOp_mono (fun a' w' h3 => ?_) h2
   have hSw : S w' := h3.2.1 (fun f hf => by
    rw [Array.setIfInBounds_comm _ _ (Ne.symm hji), getD_set_ne true (Ne.symm (hF f hf).1)]
    exact hnoF f hf)
   refine ⟨fun _ => hSw, ih (listed.setIfInBounds j true) a' w' hfree' hc' (ready_mono hr (Ne.symm hji)) h3.1 hSw ?_⟩
   rw [Array.setIfInBounds_comm _ _ hji]
   exact h3.2.2
theorem wpAnyL_pure {i : Nat} {oi : Oper} {v : Value} (hi : ops[i]? = some oi) (hsel : ∀ (j : Nat) (o : Oper) cs b, ops[j]? = some o → o.op ≠ .select cs b)
  (hQ : ∀ c a w, Q (.panic c) (a.put oi.dst v) w → Q (.panic c) a w) (hF : ∀ f ∈ F, f ≠ i) :
  ∀ (fuel : Nat) (listed : Array Bool) (a : Act) (w : World),
   (∀ j oj, ops[j]? = some oj → j ≠ i → listed.getD j true = false → (∀ e ∈ oj.after, Region.binds md e = true → e.on ≠ i) → oi.apart ops oj = true) →
   i ∈ Region.ready md ops listed → YieldsIf P ops (fun _ => True) oi v a → Keep F S listed w →
   wpAnyL P md ops Q F S fuel (listed.setIfInBounds i true) (a.put oi.dst v) w → wpAnyL P md ops Q F S (fuel + 1) listed a w := by
 have keep : ∀ (listed : Array Bool) (w : World), Keep F S (listed.setIfInBounds i true) w ↔ Keep F S listed w := fun listed w => by
  unfold Keep
  constructor
  ·intro h h2
   exact h (fun f hf => by rw [getD_set_ne true (Ne.symm (hF f hf))]; exact h2 f hf)
  ·intro h h2
   exact h (fun f hf => by have := h2 f hf; rw [getD_set_ne true (Ne.symm (hF f hf))] at this; exact this)
 intro fuel
 induction fuel with
 | zero =>
  intro listed a w _ hr hy hk H
  refine ⟨fun h => (by rw [h] at hr; cases hr), fun j hj => ?_⟩
  by_cases hji : j = i
  ·subst hji; exact hy.wpOp hi trivial ⟨(keep _ _).2 hk, H⟩
  ·have := ready_mono hj hji
   rw [H.1] at this
   cases this
 | succ fuel ih =>
  intro listed a w hfree hr hy hk H
  refine ⟨fun h => (by rw [h] at hr; cases hr), fun j hj => ?_⟩
  by_cases hji : j = i
  ·subst hji; exact hy.wpOp hi trivial ⟨(keep _ _).2 hk, H⟩
  ·have hun0 := (mem_ready.1 hr).1
   have h1 := H.2 j (ready_mono hj hji)
   obtain ⟨hjun, oj, hoj, hall⟩ := mem_ready.1 hj
   have hnot : ∀ e ∈ oj.after, Region.binds md e = true → e.on ≠ i := fun e he hb heq => by
    have h1 := hall e he hb
    rw [heq] at h1
    rw [getD_up h1] at hun0
    cases hun0
   have h2 := wpOp_putIf hoj (hfree j oj hoj hji hjun hnot) (fun cs b => hsel i oi cs b hi) (fun cs b => hsel j oj cs b hoj) hQ hy h1
   have hfree' : ∀ k ok, ops[k]? = some ok → k ≠ i → (listed.setIfInBounds j true).getD k true = false →
     (∀ e ∈ ok.after, Region.binds md e = true → e.on ≠ i) → oi.apart ops ok = true := fun k ok hk hki hun hno => by
    refine hfree k ok hk hki ?_ hno
    by_cases hjk : j = k
    ·subst hjk; exact hjun
    ·rw [getD_set_ne true hjk] at hun; exact hun
   refine wpOp_mono (fun a' w' h3 => ?_) h2
   have hk' : Keep F S (listed.setIfInBounds j true) w' := by
    have := h3.2.1
    rw [Array.setIfInBounds_comm _ _ (Ne.symm hji)] at this
    exact (keep _ _).1 this
   refine ⟨hk', ih (listed.setIfInBounds j true) a' w' hfree' (ready_mono hr (Ne.symm hji)) h3.1 hk' ?_⟩
   rw [Array.setIfInBounds_comm _ _ hji]
   exact h3.2.2
theorem lPure {i : Nat} (d : Option Tmp) {v : Value} {fuel : Nat} {listed : Array Bool} {a : Act} {w : World} (hd : (ops[i]?).map (·.dst) = some d) (hs : Region.noSelect ops = true) (hf : Region.free md ops listed i = true)
  (hr : (Region.ready md ops listed).contains i = true) (hF : F.contains i = false) (hQ : ∀ c a w, Q (.panic c) (a.put d v) w → Q (.panic c) a w) (hw : (ops[i]?).map (fun o => Region.wanted o (yielded ops a.tmps)) = some true)
  (hy : ∀ w, (ops[i]?).map (fun o => (execOp a.eval o).run P w) = some (.ok (.value v) w)) (hk : Keep F S listed w) (h : wpAnyL P md ops Q F S fuel (listed.setIfInBounds i true) (a.put d v) w) :
  wpAnyL P md ops Q F S (fuel + 1) listed a w := by
 obtain ⟨o, ho, rfl⟩ := Option.map_eq_some_iff.1 hd
 rw [ho, zqd, zqe] at hw
 have hF' : ∀ f ∈ F, f ≠ i := fun f hfm e => by
  subst e
  rw [List.contains_iff_mem.2 hfm] at hF
  cases hF
 refine wpAnyL_pure ho (Region.noSelect_spec hs) hQ hF' fuel listed a w (Region.free_spec ho hf) (by simpa using hr) (Or.inl ⟨hw, fun w _ => ?_⟩) hk h
 have := hy w
 rw [ho, zqd, zqe] at this
 exact this
theorem lPureNo {i : Nat} (d : Option Tmp) {fuel : Nat} {listed : Array Bool} {a : Act} {w : World} (hd : (ops[i]?).map (·.dst) = some d) (hs : Region.noSelect ops = true) (hf : Region.free md ops listed i = true)
  (hr : (Region.ready md ops listed).contains i = true) (hF : F.contains i = false) (hQ : ∀ c a w, Q (.panic c) (a.put d undef) w → Q (.panic c) a w) (hw : (ops[i]?).map (fun o => Region.wanted o (yielded ops a.tmps)) = some false)
  (hk : Keep F S listed w) (h : wpAnyL P md ops Q F S fuel (listed.setIfInBounds i true) (a.put d undef) w) : wpAnyL P md ops Q F S (fuel + 1) listed a w := by
 obtain ⟨o, ho, rfl⟩ := Option.map_eq_some_iff.1 hd
 rw [ho, zqd, zqe] at hw
 have hF' : ∀ f ∈ F, f ≠ i := fun f hfm e => by
  subst e
  rw [List.contains_iff_mem.2 hfm] at hF
  cases hF
 exact wpAnyL_pure ho (Region.noSelect_spec hs) hQ hF' fuel listed a w (Region.free_spec ho hf) (by simpa using hr) (Or.inr ⟨hw, rfl⟩) hk h
theorem keep_of {listed : Array Bool} {w : World} (h : S w) : Keep F S listed w := fun _ => h
theorem keep_fell {listed : Array Bool} {w : World} (h : F.any (fun f => listed.getD f true) = true) : Keep F S listed w := fun hn => by
 obtain ⟨f, hf, hx⟩ := List.any_eq_true.1 h
 rw [hn f hf] at hx
 cases hx
theorem wp_region_keep {id : Nat} {a : Act} {w : World} (F : List Nat) (hm : P.follows .mixedOrders = true) (hS : S w.drew)
  (h : S w.drew → wpAnyL P .any ops Q F S ops.size (Array.replicate ops.size false) a w.drew) : (Code.region id ops true).wp P Q a w :=
 wp_region_any hm (wpAny_of_keep _ _ _ _ (h hS))
theorem lTake {i : Nat} (d : Option Tmp) {v : Value} {fuel : Nat} {listed : Array Bool} {a : Act} {w : World} (hd : (ops[i]?).map (·.dst) = some d) (hs : Region.noSelect ops = true) (hf : Region.free md ops listed i = true)
  (hr : (Region.ready md ops listed).contains i = true) (hc : closedB md ops listed = true) (hF : (F.all fun f => f != i && waits md ops ops.size f i) = true) (hQ : ∀ c a w, Q (.panic c) (a.put d v) w → Q (.panic c) a w) (hw : (ops[i]?).map (fun o => Region.wanted o (yielded ops a.tmps)) = some true)
  (hy : ∀ w, S w → (ops[i]?).map (fun o => (execOp a.eval o).run P w) = some (.ok (.value v) w)) (hS : S w) (h : wpAnyL P md ops Q F S fuel (listed.setIfInBounds i true) (a.put d v) w) :
  wpAnyL P md ops Q F S (fuel + 1) listed a w := by
 obtain ⟨o, ho, rfl⟩ := Option.map_eq_some_iff.1 hd
 rw [ho, zqd, zqe] at hw
 have hF' : ∀ f ∈ F, f ≠ i ∧ waits md ops ops.size f i = true := fun f hf => by simpa using List.all_eq_true.1 hF f hf
 refine wpAnyL_first ho (Region.noSelect_spec hs) hQ hF' fuel listed a w (Region.free_spec ho hf) (closed_of hc) (by simpa using hr) (Or.inl ⟨hw, fun w hSw => ?_⟩) hS h
 have := hy w hSw
 rw [ho, zqd, zqe] at this
 exact this
def LStep (P : Program) (md : Region.Mode) (ops : Array Oper) (Q : Exit → Act → World → Prop) (F : List Nat) (S : World → Prop) (fuel : Nat) (listed : Array Bool) (a : Act) (w : World) (i : Nat) : Prop :=
 ∀ K' : Act → World → Prop, Shut (∀ a w, S w → (S w → wpAnyL P md ops Q F S fuel (listed.setIfInBounds i true) a w) → K' a w) →
   match ops[i]? with | some o => if Region.wanted o (yielded ops a.tmps) = true then Oper.wp P o a w K' Q else K' (a.put o.dst undef) w | none => K' a w
def LFall (P : Program) (md : Region.Mode) (ops : Array Oper) (Q : Exit → Act → World → Prop) (F : List Nat) (S : World → Prop) (fuel : Nat) (listed : Array Bool) (a : Act) (w : World) (i : Nat) : Prop :=
 ∀ K' : Act → World → Prop, Shut (∀ a w, wpAnyL P md ops Q F S fuel (listed.setIfInBounds i true) a w → K' a w) →
   match ops[i]? with | some o => if Region.wanted o (yielded ops a.tmps) = true then Oper.wp P o a w K' Q else K' (a.put o.dst undef) w | none => K' a w
variable {fuel : Nat} {listed : Array Bool} {a : Act} {w : World}
theorem LStep.op {i : Nat} (h : LStep P md ops Q F S fuel listed a w i) : wpOp P ops Q i (fun a' w' => Keep F S (listed.setIfInBounds i true) w' ∧ wpAnyL P md ops Q F S fuel (listed.setIfInBounds i true) a' w') a w := by
 unfold LStep at h
 cases ho : ops[i]? with
 | none =>
  rw [ho] at h
  have h' := h (fun a' w' => Keep F S (listed.setIfInBounds i true) w' ∧ wpAnyL P md ops Q F S fuel (listed.setIfInBounds i true) a' w') (fun a w hS hW => ⟨fun _ => hS, hW hS⟩)
  unfold wpOp
  rw [ho]
  exact h'
 | some o =>
  rw [ho] at h
  exact wpOp_step ho (fun K' hK => h K' (fun a w hS hW => hK a w ⟨fun _ => hS, hW hS⟩))
theorem LFall.op {i : Nat} (hi : F.any (fun f => (listed.setIfInBounds i true).getD f true) = true) (h : LFall P md ops Q F S fuel listed a w i) : wpOp P ops Q i (fun a' w' => Keep F S (listed.setIfInBounds i true) w' ∧ wpAnyL P md ops Q F S fuel (listed.setIfInBounds i true) a' w') a w := by
 have hk : ∀ w, Keep F S (listed.setIfInBounds i true) w := fun w hn => by
  obtain ⟨f, hf, hx⟩ := List.any_eq_true.1 hi
  rw [hn f hf] at hx
  cases hx
 unfold LFall at h
 cases ho : ops[i]? with
 | none =>
  rw [ho] at h
  have h' := h (fun a' w' => Keep F S (listed.setIfInBounds i true) w' ∧ wpAnyL P md ops Q F S fuel (listed.setIfInBounds i true) a' w') (fun a w hW => ⟨hk w, hW⟩)
  unfold wpOp
  rw [ho]
  exact h'
 | some o =>
  rw [ho] at h
  exact wpOp_step ho (fun K' hK => h K' (fun a w hW => hK a w ⟨hk w, hW⟩))
abbrev LOp (P : Program) (md : Region.Mode) (ops : Array Oper) (Q : Exit → Act → World → Prop) (F : List Nat) (S : World → Prop) (fuel : Nat) (listed : Array Bool) (a : Act) (w : World) (i : Nat) : Prop :=
 wpOp P ops Q i (fun a' w' => Keep F S (listed.setIfInBounds i true) w' ∧ wpAnyL P md ops Q F S fuel (listed.setIfInBounds i true) a' w') a w
theorem lNext {rs : List Nat} (hr : Region.ready md ops listed = rs) (hne : rs ≠ []) (h : ∀ i ∈ rs, LOp P md ops Q F S fuel listed a w i) : wpAnyL P md ops Q F S (fuel + 1) listed a w :=
 ⟨fun h0 => absurd (hr ▸ h0) hne, hr ▸ h⟩
theorem lOne (i : Nat) (hr : Region.ready md ops listed = [i]) (h1 : LOp P md ops Q F S fuel listed a w i) : wpAnyL P md ops Q F S (fuel + 1) listed a w :=
 lNext hr (by simp) (fun k hk => by simp at hk; subst hk; exact h1)
theorem lTwo (i j : Nat) (hr : Region.ready md ops listed = [i, j]) (h1 : LOp P md ops Q F S fuel listed a w i) (h2 : LOp P md ops Q F S fuel listed a w j) : wpAnyL P md ops Q F S (fuel + 1) listed a w :=
 lNext hr (by simp) (fun k hk => by
  simp at hk
  rcases hk with rfl | rfl
  ·exact h1
  ·exact h2)
theorem lDone (hr : Region.ready md ops listed = []) (h : Q .normal a w) : wpAnyL P md ops Q F S fuel listed a w := by
 cases fuel with
 | zero => exact ⟨hr, h⟩
 | succ n => exact ⟨fun _ => h, by rw [hr]; simp⟩
end
end Go.Tre
namespace Go.Tre
section
variable {P : Program} {ops : Array Oper} {Q : Exit → Act → World → Prop} {md : Region.Mode} {S : World → Prop} {F : List Nat}
variable {fuel : Nat} {listed : Array Bool} {a : Act} {w : World}
def takeB (md : Region.Mode) (ops : Array Oper) (F : List Nat) (listed : Array Bool) (i : Nat) (d : Option Tmp) : Bool :=
 decide ((ops[i]?).map (·.dst) = some d) && (Region.noSelect ops && (Region.free md ops listed i && ((Region.ready md ops listed).contains i && (closedB md ops listed && (F.all fun f => f != i && waits md ops ops.size f i)))))
def plainB (md : Region.Mode) (ops : Array Oper) (F : List Nat) (listed : Array Bool) (i : Nat) (d : Option Tmp) : Bool :=
 decide ((ops[i]?).map (·.dst) = some d) && (Region.noSelect ops && (Region.free md ops listed i && ((Region.ready md ops listed).contains i && !(F.contains i))))
theorem lTk (i : Nat) (d : Option Tmp) {v : Value} (hy : ∀ w, S w → (ops[i]?).map (fun o => (execOp a.eval o).run P w) = some (.ok (.value v) w)) (hS : S w) (h : wpAnyL P md ops Q F S fuel (listed.setIfInBounds i true) (a.put d v) w)
  (hc : takeB md ops F listed i d = true := by kernel_rfl) (hQ : ∀ c a w, Q (.panic c) (a.put d v) w → Q (.panic c) a w := by exact fun _ _ _ h => h) (hw : (ops[i]?).map (fun o => Region.wanted o (yielded ops a.tmps)) = some true := by rfl) : wpAnyL P md ops Q F S (fuel + 1) listed a w := by
 unfold takeB at hc
 simp only [Bool.and_eq_true, decide_eq_true_eq] at hc
 obtain ⟨h1, h2, h3, h4, h5, h6⟩ := hc
 exact lTake d h1 h2 h3 h4 h5 h6 hQ hw hy hS h
theorem lPk (i : Nat) (d : Option Tmp) {v : Value} (hy : ∀ w, (ops[i]?).map (fun o => (execOp a.eval o).run P w) = some (.ok (.value v) w)) (hk : Keep F S listed w) (h : wpAnyL P md ops Q F S fuel (listed.setIfInBounds i true) (a.put d v) w)
  (hc : plainB md ops F listed i d = true := by kernel_rfl) (hQ : ∀ c a w, Q (.panic c) (a.put d v) w → Q (.panic c) a w := by exact fun _ _ _ h => h) (hw : (ops[i]?).map (fun o => Region.wanted o (yielded ops a.tmps)) = some true := by rfl) : wpAnyL P md ops Q F S (fuel + 1) listed a w := by
 unfold plainB at hc
 simp only [Bool.and_eq_true, decide_eq_true_eq, Bool.not_eq_true'] at hc
 obtain ⟨h1, h2, h3, h4, h5⟩ := hc
 exact lPure d h1 h2 h3 h4 h5 hQ hw hy hk h
structure Cond (S : World → Prop) : Type where
theorem Cond.keep {id : Nat} {a : Act} {w : World} (_ : Cond S) (F : List Nat) (hS : S w.drew) (h : S w.drew → wpAnyL P .any ops Q F S ops.size (Array.replicate ops.size false) a w.drew) (hm : P.follows .mixedOrders = true := by kernel_rfl) : (Code.region id ops true).wp P Q a w := wp_region_keep F hm hS h
theorem lTq (i : Nat) (d : Option Tmp) {v : Value} {o : Oper} (ho : ops[i]? = some o) (hy : ∀ w, S w → (execOp a.eval o).run P w = .ok (.value v) w) (hS : S w) (h : wpAnyL P md ops Q F S fuel (listed.setIfInBounds i true) (a.put d v) w)
  (hc : takeB md ops F listed i d = true := by kernel_rfl) (hQ : ∀ c a w, Q (.panic c) (a.put d v) w → Q (.panic c) a w := by exact fun _ _ _ h => h) (hw : (ops[i]?).map (fun o => Region.wanted o (yielded ops a.tmps)) = some true := by rfl) : wpAnyL P md ops Q F S (fuel + 1) listed a w :=
 lTk i d (fun w hSw => by rw [ho, Option.map_some, hy w hSw]) hS h hc hQ hw
theorem lPq (i : Nat) (d : Option Tmp) {v : Value} {o : Oper} (ho : ops[i]? = some o) (hy : ∀ w, (execOp a.eval o).run P w = .ok (.value v) w) (hk : Keep F S listed w) (h : wpAnyL P md ops Q F S fuel (listed.setIfInBounds i true) (a.put d v) w)
  (hc : plainB md ops F listed i d = true := by kernel_rfl) (hQ : ∀ c a w, Q (.panic c) (a.put d v) w → Q (.panic c) a w := by exact fun _ _ _ h => h) (hw : (ops[i]?).map (fun o => Region.wanted o (yielded ops a.tmps)) = some true := by rfl) : wpAnyL P md ops Q F S (fuel + 1) listed a w :=
 lPk i d (fun w => by rw [ho, Option.map_some, hy w]) hk h hc hQ hw
theorem Cond.is {S : World → Prop} {w : World} (_ : Cond S) (h : S w) : S w := h
end
end Go.Tre
namespace Go.Tre
open Go.RowKit
structure LexAt (b : Nat) (s : ByteArray) (k : Nat) (w : World) : Prop where
 text : w.cell? ⟨b, 0, none⟩ = some (.string s)
 place : w.cell? ⟨b, 1, none⟩ = some (.int .i64 (k : Int))
theorem LexAt.below {b : Nat} {s : ByteArray} {k : Nat} {w w' : World} (h : LexAt b s k w) (hb : Below w.heap.size w w') : LexAt b s k w' :=
 ⟨cell_below hb h.text, cell_below hb h.place⟩
end Go.Tre
namespace Go.Proofs.YtbafalfmgibnfaaGreatDoor.lex
open Go.RowKit Go.Tre
set_option maxHeartbeats 1000000 in
theorem rest (b : Nat) (s : ByteArray) (k : Nat) (w : World) (h : LexAt b s k w) (hk : k ≤ s.size) (hs : s.size ≤ 8388608) :
  Calls Tryz.prog 32 #[.pointer (some ⟨b, 0, none⟩)] w fun e w' => e = .returned (.string (s.extract k s.size)) ∧ Below w.heap.size w w' := by
 have hk' : (k : Int) ≤ (s.size : Int) := by omega
 have x0 := h.text
 have x1 := h.place
 clear h
 go_enter Tryz.func32, Tryz.ntmps32
 go_wp2_with fail
 go_region_held3 (fun w' => Below w.heap.size w w' ∧ w'.cell? ⟨b, 0, none⟩ = some (.string s) ∧ w'.cell? ⟨b, 1, none⟩ = some (.int .i64 (k : Int)))
  (first | exact ⟨(Below.refl _ _).drew, x0, x1⟩ | go_keep) (fail)
 have hb := (show Below w.heap.size w w.drew ∧ _ from by assumption).1
 have HB := Tre.hid hb
 clear hb
 go_wp2_with fail
 go_ret
 exact ⟨rfl, HB.out⟩
set_option maxHeartbeats 1000000 in
theorem fail (b : Nat) (s : ByteArray) (k : Nat) (w : World) (h : LexAt b s k w) :
  Calls Tryz.prog 50 #[.pointer (some ⟨b, 0, none⟩)] w fun e w' => e = .returned (.iface 62 (.pointer (some ⟨w.heap.size, 0, none⟩))) ∧ w' = w.alloc (.cells #[.int .i64 (k : Int), .int .i64 5] 66) := by
 have x0 := h.text
 have x1 := h.place
 clear h
 go_enter Tryz.func50, Tryz.ntmps50
 go_wp2_with fail
 go_ret
 exact ⟨rfl, rfl⟩
end Go.Proofs.YtbafalfmgibnfaaGreatDoor.lex
namespace Go.Tre
def MaxAt (w : World) : Prop := ∃ m, w.cell? ⟨2, 0, none⟩ = some (.int .i64 m)
theorem MaxAt.below {w w' : World} (h : MaxAt w) (hb : RowKit.Below w.heap.size w w') : MaxAt w' := by
 obtain ⟨m, hm⟩ := h
 exact ⟨m, cell_below hb hm⟩
def isName (s : ByteArray) : Bool := decide (s.size ≠ 0) && decide (s.size ≤ 100) && decide (wordLen s = s.size) && !isKey s
end Go.Tre
namespace Go.Proofs.YtbafalfmgibnfaaGreatDoor.lex
open Go.RowKit Go.Tre

theorem contains (s sub : ByteArray) (r : Bool) (w : World) (hs : s.size < 4294967281) (hm : MaxAt w) (hr : Lib.contains s.data.toList sub.data.toList = r) :
  Calls Tryz.prog 44 #[.string s, .string sub] w fun e w' => e = .returned (.bool r) ∧ w = w' := by
 obtain ⟨m, hm⟩ := hm
 refine (Tryz.strings_Contains s sub m w hs hm).mono ?_
 rintro e w' ⟨rfl, hw⟩
 exact ⟨by rw [hr], hw.symm⟩

theorem isKey_blank {s : ByteArray} (h : (32 : UInt8) ∈ s.data.toList) : isKey s = false := by
 unfold isKey
 rw [← Bool.not_eq_true, List.contains_iff_mem]
 exact fun hm => keyWords_no _ hm _ h rfl
theorem toList_empty {s : ByteArray} : s.data.toList = [] ↔ s.size = 0 := by
 rw [← List.length_eq_zero_iff]; simp
theorem isKey_empty {s : ByteArray} (h : s.size = 0) : isKey s = false := by
 unfold isKey
 rw [toList_empty.2 h]
 decide
theorem app3 (s : ByteArray) : ((⟨#[32]⟩ : ByteArray) ++ s ++ ⟨#[32]⟩).data.toList = 32 :: (s.data.toList ++ [32]) := by
 simp [ByteArray.data_append]

theorem emp1 {s : ByteArray} (h : s.size = 0) : s.toList.isEmpty = true := by rw [ByteArray.toList_eq, toList_empty.2 h]; rfl
theorem emp0 {s : ByteArray} (h : ¬ s.size = 0) : s.toList.isEmpty = false := by
 rw [ByteArray.toList_eq]
 cases hl : s.data.toList with
 | nil => exact absurd (toList_empty.1 hl) h
 | cons a l => rfl
theorem keysText (s : ByteArray) (h : ¬ (32 : UInt8) ∈ s.data.toList) (h0 : ¬ s.size = 0) (K : List UInt8) (hK : K = spaced keyWords) : Lib.contains K ((⟨#[32]⟩ : ByteArray) ++ s ++ ⟨#[32]⟩).data.toList = isKey s := by
 rw [hK, app3]
 exact contains_keys _ h (fun e => h0 (toList_empty.1 e))

set_option maxHeartbeats 1000000 in
theorem isKey_any (s : ByteArray) (w : World) (hs : s.size ≤ 8388608) (hm : MaxAt w) :
  Calls Tryz.prog 25 #[.string s] w fun e w' => e = .returned (.bool (isKey s)) ∧ w = w' := by
 by_cases h0 : s.size = 0
 ·have H := Tre.hid (isKey_empty h0)
  have e0 := emp1 h0
  have e1 : (!s.toList.isEmpty) = false := by rw [e0]; rfl
  clear h0
  go_enter Tryz.func25, Tryz.ntmps25
  go_wp2_with fail
  go_ret
  exact ⟨ret_bool H.out.symm, rfl⟩
 ·have e0 := emp0 h0
  have e1 : (!s.toList.isEmpty) = true := by rw [e0]; rfl
  have hc := contains_blank s.data.toList
  by_cases hb : (32 : UInt8) ∈ s.data.toList
  ·have H := Tre.hid (isKey_blank hb)
   have C : Hid (Lib.contains s.data.toList [32] = true) := by show _ = _; rw [hc]; simp [hb]
   clear hc hb h0
   go_enter Tryz.func25, Tryz.ntmps25
   go_wp2_with fail
   refine (contains s _ true _ (by omega) hm C.out).mono ?_
   rintro e w' ⟨rfl, rfl⟩
   go_wp2_with fail
   go_ret
   exact ⟨ret_bool H.out.symm, rfl⟩
  ·have C : Hid (Lib.contains s.data.toList [32] = false) := by show _ = _; rw [hc]; simp [hb]
   have KT := Tre.hid (keysText s hb h0)
   clear hc hb h0
   go_enter Tryz.func25, Tryz.ntmps25
   go_wp2_with fail
   refine (contains s _ false _ (by omega) hm C.out).mono ?_
   rintro e w' ⟨rfl, rfl⟩
   go_wp2_with fail
   refine (contains _ _ (isKey s) _ ?_ hm (KT.out _ ?_)).mono ?_
   ·decide
   ·decide
   rintro e w' ⟨rfl, rfl⟩
   go_wp2_with fail
   go_ret
   exact ⟨rfl, rfl⟩

theorem isName_of {s : ByteArray} {b : Bool} (h : (decide (s.size ≠ 0) && decide (s.size ≤ 100) && decide (wordLen s = s.size) && !isKey s) = b) : isName s = b := h
theorem wordFrom_le : ∀ (l : List UInt8) (b : Bool), wordFrom b l ≤ l.length
 | [], _ => Nat.le_refl _
 | c :: r, b => by
  unfold wordFrom
  split
  ·have := wordFrom_le r false; simp; omega
  ·simp
theorem wordLen_le (s : ByteArray) : wordLen s ≤ s.size := by have := wordFrom_le s.data.toList true; simpa [wordLen] using this

theorem b0 (u : UInt8) : (0 : Int) ≤ u.toNat := Int.natCast_nonneg _
/-! the reference's -/
end Go.Proofs.YtbafalfmgibnfaaGreatDoor.lex
namespace Go.Tre
open Go.RowKit
theorem noteEnd_none : ∀ {l : List UInt8}, noteEnd l = none → Lib.index l [42, 41] = -1
 | [], _ => by decide
 | [c], _ => by
  unfold Lib.index
  simp [Lib.index]
 | c :: d :: l, h => by
  unfold noteEnd at h
  split at h
  ·cases h
  ·rename_i hn
   have ih := noteEnd_none h
   unfold Lib.index
   rw [if_neg, ih]
   ·rfl
   ·intro hp
    simp at hp
    exact hn ⟨hp.1.symm, hp.2.symm⟩
theorem noteEnd_some : ∀ {l r : List UInt8}, noteEnd l = some r → ∃ k : Nat, Lib.index l [42, 41] = (k : Int) ∧ l.drop (k + 2) = r ∧ k + 2 ≤ l.length
 | [], _, h => by cases h
 | [c], _, h => by cases h
 | c :: d :: l, r, h => by
  unfold noteEnd at h
  split at h
  ·rename_i hc
   cases h
   refine ⟨0, ?_, rfl, by simp⟩
   unfold Lib.index
   rw [if_pos]
   ·rfl
   ·simp [hc.1, hc.2]
  ·rename_i hn
   obtain ⟨k, h1, h2, h3⟩ := noteEnd_some h
   refine ⟨k + 1, ?_, ?_, ?_⟩
   ·unfold Lib.index
    rw [if_neg, h1, if_neg]
    ·omega
    ·simp
    ·intro hp
     simp at hp
     exact hn ⟨hp.1.symm, hp.2.symm⟩
   ·simpa using h2
   ·simp only [List.length_cons] at h3 ⊢; omega
theorem skipS_note {l r : List UInt8} (h : l.dropWhile blank = 40 :: 42 :: r) : skipS l = (noteEnd r).bind skipS := by
 rw [skipS]
 split
 ·rename_i r0 h1
  rw [h] at h1
  cases h1
  split
  ·rename_i h2; rw [h2]; rfl
  ·rename_i h2; rw [h2]; rfl
 ·rename_i hn
  exact absurd h (hn r)
theorem skipS_rest {l : List UInt8} (h : ∀ r, l.dropWhile blank ≠ 40 :: 42 :: r) : skipS l = some (l.dropWhile blank) := by
 rw [skipS]
 split
 ·rename_i r0 h1
  exact absurd h1 (h r0)
 ·rfl
theorem extract_list (s : ByteArray) (k : Nat) : (s.extract k s.size).data.toList = s.data.toList.drop k := by
 rw [ByteArray.data_extract, Array.toList_extract]
 have : s.size = s.data.toList.length := rfl
 rw [this, List.extract_eq_take_drop, List.take_of_length_le (by simp)]
theorem blank_set : ([9, 10, 13, 32] : List UInt8).contains = blank := by
 funext c
 rw [Bool.eq_iff_iff]
 simp [Tre.blank, or_assoc]
theorem data_inj' {a b : ByteArray} (h : a.data.toList = b.data.toList) : a = b := ByteArray.ext (Array.toList_inj.1 h)
theorem dropWhile_drop (p : UInt8 → Bool) : ∀ l : List UInt8, l.drop (l.length - (l.dropWhile p).length) = l.dropWhile p
 | [] => rfl
 | c :: l => by
  rw [List.dropWhile_cons]
  split
  ·have := dropWhile_drop p l
   have hl := (List.dropWhile_sublist (l := l) p).length_le
   rw [List.length_cons, show l.length + 1 - (l.dropWhile p).length = (l.length - (l.dropWhile p).length) + 1 by omega, List.drop_succ_cons]
   exact this
  ·simp
def ErrIn (w : World) (bs : List Nat) (v : Value) (at_ no : Nat) : Prop :=
 (∃ p, bs = [p] ∧ v = .iface 62 (.pointer (some ⟨p, 0, none⟩)) ∧ w.heap[p]? = some (.cells #[.int .i64 at_, .int .i64 no] 66 (0, 0))) ∨
 (∃ p q r t x c, bs = [p, q, r] ∧ v = .iface 156 (.pointer (some ⟨q, 0, none⟩)) ∧ w.heap[p]? = some (.cells #[.int .i64 at_, .int .i64 no] 66 (0, 0)) ∧
  w.heap[q]? = some (.cells #[.slice (some ⟨r, 0, none⟩) 2 c] t (0, 0)) ∧ (∃ t' cs fz, w.heap[r]? = some (.cells cs t' fz) ∧ cs[0]? = some (.iface 62 (.pointer (some ⟨p, 0, none⟩))) ∧ cs[1]? = some x) ∧ 2 ≤ c)
def errR (bs : List Nat) (v : Value) (at_ no : Nat) : Res where
 own b := b ∈ bs
 P w := ErrIn w bs v at_ no
 stable w w' h hs := by
  rcases h with ⟨p, rfl, rfl, h1⟩ | ⟨p, q, r, t, x, c, rfl, rfl, h1, h2, ⟨t', cs, fz, h3, h4⟩, h5⟩
  ·exact .inl ⟨p, rfl, rfl, (hs p (by simp)).trans h1⟩
  ·exact .inr ⟨p, q, r, t, x, c, rfl, rfl, (hs p (by simp)).trans h1, (hs q (by simp)).trans h2, ⟨t', cs, fz, (hs r (by simp)).trans h3, h4⟩, h5⟩
 has w h b hb := by
  rcases h with ⟨p, rfl, rfl, h1⟩ | ⟨p, q, r, t, x, c, rfl, rfl, h1, h2, ⟨t', cs, fz, h3, h4⟩, h5⟩
  ·simp at hb; subst hb; exact (Array.getElem?_eq_some_iff.1 h1).1
  ·simp at hb
   rcases hb with rfl | rfl | rfl
   ·exact (Array.getElem?_eq_some_iff.1 h1).1
   ·exact (Array.getElem?_eq_some_iff.1 h2).1
   ·exact (Array.getElem?_eq_some_iff.1 h3).1
abbrev lexR (b : Nat) (s : ByteArray) (k : Nat) : Res := cellsR b 89 #[.string s, .int .i64 (k : Int)]
theorem lexAt {w0 w : World} {rs : List Res} {b : Nat} {s : ByteArray} {k : Nat} (h : Mem w0 w rs) (i : Nat) (hi : rs[i]? = some (lexR b s k)) : LexAt b s k w := by
 obtain ⟨h0, h1⟩ := h.two i hi
 exact ⟨h0, h1⟩
end Go.Tre
namespace Go.Proofs.YtbafalfmgibnfaaGreatDoor.lex
open Go.RowKit Go.Tre
theorem rest_is (b : Nat) (s : ByteArray) (k : Nat) (x : ByteArray) (w : World) (h : LexAt b s k w) (hk : k ≤ s.size) (hs : s.size ≤ 8388608) (hx : x.data.toList = s.data.toList.drop k) :
  Calls Tryz.prog 32 #[.pointer (some ⟨b, 0, none⟩)] w fun e w' => e = .returned (.string x) ∧ Below w.heap.size w w' := by
 rw [show x = s.extract k s.size from data_inj' (by rw [hx, extract_list])]
 exact rest b s k w h hk hs
theorem trimBlank (x d : ByteArray) (w : World) (hd : d.data.toList = x.data.toList.dropWhile Tre.blank) :
  Calls Tryz.prog 47 #[.string x, .string ⟨#[9, 10, 13, 32]⟩] w fun e w' => e = .returned (.string d) ∧ Below w.heap.size w w' := by
 refine (Any.strings_TrimLeft_laid Tryz.lays161 (by kernel_rfl) x ⟨#[9, 10, 13, 32]⟩ w (by decide) (ascii_of_all (by decide))).mono ?_
 rintro e w' ⟨rfl, hb⟩
 refine ⟨?_, hb⟩
 rw [show d = ⟨(Lib.trimLeftS x.data.toList [9, 10, 13, 32]).toArray⟩ from data_inj' (by rw [hd]; unfold Lib.trimLeftS; rw [← blank_set])]
theorem cutNote (d n : ByteArray) (is : Bool) (w : World) (h1 : Lib.hasPrefix d.data.toList [40, 42] = is) (h2 : n.data.toList = Lib.trimPrefix d.data.toList [40, 42]) :
  Calls Tryz.prog 48 #[.string d, .string ⟨#[40, 42]⟩] w fun e w' => e = .returned (.tuple #[.string n, .bool is]) ∧ w = w' := by
 refine (Tryz.strings_CutPrefix d ⟨#[40, 42]⟩ w).mono ?_
 rintro e w' ⟨rfl, rfl⟩
 refine ⟨?_, rfl⟩
 rw [show n = ⟨(Lib.trimPrefix d.data.toList [40, 42]).toArray⟩ from data_inj' (by rw [h2]), ← h1]
theorem indexEnd (n : ByteArray) (i : Int) (w : World) (hs : n.size < 4294967281) (hm : MaxAt w) (h : Lib.index n.data.toList [42, 41] = i) :
  Calls Tryz.prog 49 #[.string n, .string ⟨#[42, 41]⟩] w fun e w' => e = .returned (.int .i64 i) ∧ w = w' := by
 obtain ⟨m, hm⟩ := hm
 refine (Tryz.strings_Index n ⟨#[42, 41]⟩ m w hs hm).mono ?_
 rintro e w' ⟨rfl, rfl⟩
 exact ⟨by rw [← h], rfl⟩
end Go.Proofs.YtbafalfmgibnfaaGreatDoor.lex
