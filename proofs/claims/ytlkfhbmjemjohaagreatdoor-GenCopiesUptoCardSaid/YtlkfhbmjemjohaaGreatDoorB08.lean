/- GraphTurns: plain. Nodes in another order; a closed node that stands twice. Steps through a drawn region, by hand: the slot that an operation writes is typed. Drawn regions: what is read is read first; behind an operation that waits for all reads, the condition on the world may fall. append onto a row of the call's own, the source whatever it is (nil, empty or not). A row of nodes that is made empty, and filled node by node; what it reads as. -/
import Derived.Test.YtlkfhbmjemjohaaGreatDoorB06
import Derived.Deep.RegionHeld3
import Derived.Test.YtlkfhbmjemjohaaGreatDoorB05
import Derived.Maps.AppendAt
import Derived.Test.YtlkfhbmjemjohaaGreatDoorB07
set_option linter.unusedVariables false
namespace Go.Tre
theorem SameG.of_rel {g h : Tre.Graph} (c0 : g.checkC = 0) (c1 : h.checkC = 0) (R : Nat → Nat → Prop) (hr : R g.root.toNat h.root.toNat)
  (hk : ∀ a b i, R a b → i < g.deg a → i < h.deg b → R (g.kid a i) (h.kid b i)) (ha : ∀ a b, R a b → alikeB (g.nd a) (h.nd b) = true)
  (ho : ∀ a b a' b', R a b → R a' b' → freeB (g.nd a) = true → (a = a' ↔ b = b')) : SameG g h := by
 have all : ∀ a b, RP g h a b → R a b := fun a b r => by
  induction r with
  | root => exact hr
  | kid _ h1 h2 ih => exact hk _ _ _ ih h1 h2
 exact ⟨c0, c1, fun a b r => ha a b (all a b r), fun a b a' b' r r' hf => ho a b a' b' (all _ _ r) (all _ _ r') hf⟩
def turnAt (n by_ i : Nat) : Nat := (i + by_) % n
theorem turnAt_lt {n by_ i : Nat} (h : 0 < n) : turnAt n by_ i < n := Nat.mod_lt _ h
theorem turnAt_inj {n by_ i j : Nat} (hi : i < n) (hj : j < n) (h : turnAt n by_ i = turnAt n by_ j) : i = j := by
 unfold turnAt at h
 rw [Nat.add_mod, Nat.add_mod j] at h
 have hb := Nat.mod_lt by_ (show 0 < n by omega)
 rw [Nat.mod_eq_of_lt hi, Nat.mod_eq_of_lt hj] at h
 generalize by_ % n = b at *
 by_cases h1 : i + b < n
 ·rw [Nat.mod_eq_of_lt h1] at h
  by_cases h2 : j + b < n
  ·rw [Nat.mod_eq_of_lt h2] at h; omega
  ·rw [Nat.mod_eq_sub_mod (by omega), Nat.mod_eq_of_lt (by omega)] at h; omega
 ·rw [Nat.mod_eq_sub_mod (by omega), Nat.mod_eq_of_lt (by omega)] at h
  by_cases h2 : j + b < n
  ·rw [Nat.mod_eq_of_lt h2] at h; omega
  ·rw [Nat.mod_eq_sub_mod (by omega), Nat.mod_eq_of_lt (by omega)] at h; omega
theorem turnAt_sur {n by_ j : Nat} (hj : j < n) : ∃ i, i < n ∧ turnAt n by_ i = j := by
 unfold turnAt
 have hb := Nat.mod_lt by_ (show 0 < n by omega)
 by_cases h : by_ % n ≤ j
 ·exact ⟨j - by_ % n, by omega, by rw [Nat.add_mod, Nat.mod_eq_of_lt (show j - by_ % n < n by omega), show j - by_ % n + by_ % n = j by omega, Nat.mod_eq_of_lt hj]⟩
 ·exact ⟨j + n - by_ % n, by omega, by rw [Nat.add_mod, Nat.mod_eq_of_lt (show j + n - by_ % n < n by omega), show j + n - by_ % n + by_ % n = j + n by omega, Nat.add_mod_right, Nat.mod_eq_of_lt hj]⟩
def turnArg (n by_ : Nat) (a : Int) : Int := ((turnAt n by_ a.toNat : Nat) : Int)
def turnNode (n by_ : Nat) (x : Tre.Node) : Tre.Node := { x with args := x.args.map (turnArg n by_) }
structure Turned (g h : Tre.Graph) (by_ : Nat) : Prop where
 len : h.ns.length = g.ns.length
 root : h.root = ((turnAt g.ns.length by_ g.root.toNat : Nat) : Int)
 nd : ∀ i, i < g.ns.length → h.nd (turnAt g.ns.length by_ i) = turnNode g.ns.length by_ (g.nd i)
theorem Graph.check_of {g : Tre.Graph} (h1 : g.ns.length ≤ 1048576) (h2 : 0 ≤ g.root) (h3 : g.root.toNat < g.ns.length) (h4 : ∀ a, a < g.ns.length → mayB (g.nd a) g.ns.length = true) : g.checkC = 0 := by
 unfold Graph.checkC
 rw [if_neg (by omega), if_neg]
 rintro (h | h | h)
 ·omega
 ·omega
 ·obtain ⟨x, hx, e⟩ := List.any_eq_true.1 h
  obtain ⟨i, hi, rfl⟩ := List.getElem_of_mem hx
  have := h4 i hi
  rw [Graph.nd_eq hi] at this
  rw [this] at e
  cases e
theorem mayB_of {x y : Tre.Node} {n m : Nat} (h : mayB x n = true) (h1 : y.kind = x.kind) (h2 : y.name = x.name) (h3 : y.labels = x.labels) (h4 : y.isOpen = x.isOpen) (h5 : y.args.length = x.args.length) (hf : ∀ a ∈ y.args, 0 ≤ a ∧ a < m) : mayB y m = true := by
 unfold mayB at h ⊢
 rw [h1, h2, h3, h4, h5]
 rw [Bool.and_eq_true] at h ⊢
 refine ⟨?_, h.2⟩
 cases hy : y.args.any (outside m)
 ·rfl
 ·obtain ⟨z, hz, e⟩ := List.any_eq_true.1 hy
  have := hf z hz
  unfold outside at e
  simp only [Bool.or_eq_true, decide_eq_true_eq] at e
  omega
section
variable {g h : Tre.Graph} {by_ : Nat}
theorem Turned.check (t : Turned g h by_) (c : g.checkC = 0) : h.checkC = 0 := by
 have og := Graph.ok_of c
 have hp : 0 < g.ns.length := by have := og.root1; omega
 have hl := t.len
 refine Graph.check_of (by have := og.len; omega) (by rw [t.root]; omega) (by rw [t.root, hl]; exact turnAt_lt hp) (fun a ha => ?_)
 obtain ⟨i, hi, rfl⟩ := turnAt_sur (by_ := by_) (show a < g.ns.length by omega)
 rw [t.nd i hi, hl]
 refine mayB_of (og.may i hi) rfl rfl rfl rfl (by simp [turnNode]) (fun a ha => ?_)
 obtain ⟨b, _, rfl⟩ := List.mem_map.1 ha
 have := turnAt_lt (by_ := by_) (i := b.toNat) hp
 unfold turnArg
 omega
theorem Turned.kid (t : Turned g h by_) {a i : Nat} (ha : a < g.ns.length) (hi : i < g.deg a) : h.kid (turnAt g.ns.length by_ a) i = turnAt g.ns.length by_ (g.kid a i) := by
 unfold Graph.kid
 rw [t.nd a ha]
 unfold turnNode
 simp only [List.getD_eq_getElem?_getD, List.getElem?_map]
 rw [List.getElem?_eq_getElem hi]
 show (turnArg _ _ _).toNat = _
 unfold turnArg
 rfl
theorem Turned.deg (t : Turned g h by_) {a : Nat} (ha : a < g.ns.length) : h.deg (turnAt g.ns.length by_ a) = g.deg a := by
 unfold Graph.deg
 rw [t.nd a ha]
 simp [turnNode]
theorem Turned.same (t : Turned g h by_) (c : g.checkC = 0) : SameG g h := by
 have og := Graph.ok_of c
 refine SameG.of_rel c (t.check c) (fun a b => a < g.ns.length ∧ b = turnAt g.ns.length by_ a) ⟨og.root1, by rw [t.root]; rfl⟩ ?_ ?_ ?_
 ·rintro a b i ⟨ha, rfl⟩ h1 h2
  exact ⟨og.kid_lt ha h1, t.kid ha h1⟩
 ·rintro a b ⟨ha, rfl⟩
  rw [t.nd a ha]
  simp [alikeB, turnNode]
 ·rintro a b a' b' ⟨ha, rfl⟩ ⟨ha', rfl⟩ _
  exact ⟨fun e => by rw [e], fun e => turnAt_inj ha ha' e⟩
end
theorem sum_drop_take (l : List Nat) (k : Nat) : (l.drop k).sum + (l.take k).sum = l.sum := by
 have := congrArg List.sum (List.take_append_drop k l)
 rw [List.sum_append] at this
 omega
theorem turnNode_weight (n b : Nat) (x : Tre.Node) : (turnNode n b x).weight = x.weight := by simp [turnNode, Tre.Node.weight]
theorem Turned.weight {g h : Tre.Graph} {b : Nat} (t : Turned g h b) (hp : 0 < g.ns.length) : h.weight = g.weight := by
 have hb := Nat.mod_lt b hp
 have hl := t.len
 have e : h.ns = (g.ns.map (turnNode g.ns.length b)).drop (g.ns.length - b % g.ns.length) ++ (g.ns.map (turnNode g.ns.length b)).take (g.ns.length - b % g.ns.length) := by
  apply List.ext_getElem
  ·simp; omega
  ·intro j h1 h2
   rw [← Graph.nd_eq h1]
   by_cases hj : b % g.ns.length ≤ j
   ·have ht : turnAt g.ns.length b (j - b % g.ns.length) = j := by
     unfold turnAt
     rw [Nat.add_mod, Nat.mod_eq_of_lt (show j - b % g.ns.length < g.ns.length by omega), show j - b % g.ns.length + b % g.ns.length = j by omega, Nat.mod_eq_of_lt (by omega)]
    have := t.nd (j - b % g.ns.length) (by omega)
    rw [ht] at this
    rw [this, List.getElem_append_right (by simp; omega)]
    simp only [List.getElem_take, List.getElem_map, List.length_drop, List.length_map]
    rw [Graph.nd_eq (by omega)]
    congr 2
    omega
   ·have ht : turnAt g.ns.length b (j + g.ns.length - b % g.ns.length) = j := by
     unfold turnAt
     rw [Nat.add_mod, Nat.mod_eq_of_lt (show j + g.ns.length - b % g.ns.length < g.ns.length by omega), show j + g.ns.length - b % g.ns.length + b % g.ns.length = j + g.ns.length by omega, Nat.add_mod_right, Nat.mod_eq_of_lt (by omega)]
    have := t.nd (j + g.ns.length - b % g.ns.length) (by omega)
    rw [ht] at this
    rw [this, List.getElem_append_left (by simp; omega)]
    simp only [List.getElem_drop, List.getElem_map]
    rw [Graph.nd_eq (by omega)]
    congr 2
    omega
 unfold Graph.weight
 rw [e, List.map_append, List.sum_append, List.map_drop, List.map_take, sum_drop_take, List.map_map]
 congr 1
 exact List.map_congr_left (fun x _ => turnNode_weight _ _ x)
def otherFirst (k n : Nat) : List Int → List Int
 | [] => []
 | a :: r => if a = (k : Int) then (n : Int) :: r else a :: r
def twiceNode (k n : Nat) (x : Tre.Node) : Tre.Node := { x with args := otherFirst k n x.args }
def Graph.twice (h : Tre.Graph) (k : Nat) : Tre.Graph := ⟨(h.ns ++ [h.nd k]).map (twiceNode k h.ns.length), h.root⟩
section
variable {h : Tre.Graph} {k : Nat}
def twiceR (h : Tre.Graph) (k : Nat) (a b : Nat) : Prop := a < h.ns.length ∧ (b = a ∨ (a = k ∧ b = h.ns.length))
end
end Go.Tre
namespace Go.Tre
section
variable {P : Program} {ops : Array Oper} {Q : Exit → Act → World → Prop} {md : Region.Mode} {S : World → Prop}
end
end Go.Tre
namespace Go.Tre
section
variable {P : Program} {ops : Array Oper} {Q : Exit → Act → World → Prop} {md : Region.Mode} {S : World → Prop} {F : List Nat}
def waits (md : Region.Mode) (ops : Array Oper) : Nat → Nat → Nat → Bool
 | 0, _, _ => false
 | n + 1, f, i => match ops[f]? with
  | some o => o.after.any fun e => Region.binds md e && (e.on == i || waits md ops n e.on i)
  | none => false
def Closed (md : Region.Mode) (ops : Array Oper) (listed : Array Bool) : Prop :=
 ∀ (j : Nat) (oj : Oper), ops[j]? = some oj → listed.getD j true = true → ∀ e ∈ oj.after, Region.binds md e = true → listed.getD e.on false = true
theorem getD_up {listed : Array Bool} {i : Nat} (h : listed.getD i false = true) : listed.getD i true = true := by
 rw [Array.getD_eq_getD_getElem?] at h ⊢
 cases hx : listed[i]? with
 | none => rfl
 | some x => rw [hx] at h; exact h
theorem Closed.waits {listed : Array Bool} (h : Closed md ops listed) : ∀ {n f i : Nat}, waits md ops n f i = true → listed.getD f true = true → listed.getD i true = true := by
 intro n
 induction n with
 | zero => intro f i hw; cases hw
 | succ n ih =>
  intro f i hw hf
  unfold Tre.waits at hw
  cases ho : ops[f]? with
  | none => rw [ho] at hw; cases hw
  | some o =>
   rw [ho] at hw
   obtain ⟨e, he, hb⟩ := Array.any_eq_true'.1 hw
   simp only [Bool.and_eq_true, Bool.or_eq_true, beq_iff_eq] at hb
   have h1 := h f o ho hf e he hb.1
   rcases hb.2 with rfl | h2
   ·exact getD_up h1
   ·exact ih h2 (getD_up h1)
theorem Closed.step {listed : Array Bool} (h : Closed md ops listed) {i : Nat} (hr : i ∈ Region.ready md ops listed) : Closed md ops (listed.setIfInBounds i true) := by
 intro j oj ho hj e he hb
 refine getD_set_true ?_
 by_cases hji : j = i
 ·subst hji
  obtain ⟨_, o, ho', hall⟩ := mem_ready.1 hr
  rw [ho] at ho'
  cases ho'
  exact hall e he hb
 ·rw [getD_set_ne true (Ne.symm hji)] at hj
  exact h j oj ho hj e he hb
def closedB (md : Region.Mode) (ops : Array Oper) (listed : Array Bool) : Bool :=
 (List.range ops.size).all fun j => !listed.getD j true || match ops[j]? with
  | some oj => oj.after.all fun e => !Region.binds md e || listed.getD e.on false
  | none => true
theorem closed_of {listed : Array Bool} (h : closedB md ops listed = true) : Closed md ops listed := by
 intro j oj ho hj e he hb
 unfold closedB at h
 rw [List.all_eq_true] at h
 have h1 := h j (List.mem_range.2 (Array.getElem?_eq_some_iff.1 ho).1)
 rw [hj, ho] at h1
 simp only [Bool.not_true, Bool.false_or] at h1
 have h2 := Array.all_eq_true'.1 h1 e he
 rw [hb] at h2
 simpa using h2

def Keep (F : List Nat) (S : World → Prop) (listed : Array Bool) (w : World) : Prop := (∀ f ∈ F, listed.getD f true = false) → S w
def wpAnyL (P : Program) (md : Region.Mode) (ops : Array Oper) (Q : Exit → Act → World → Prop) (F : List Nat) (S : World → Prop) : Nat → Array Bool → Act → World → Prop
 | 0, listed, a, w => Region.ready md ops listed = [] ∧ Q .normal a w
 | fuel + 1, listed, a, w =>
  (Region.ready md ops listed = [] → Q .normal a w) ∧
  ∀ i ∈ Region.ready md ops listed, wpOp P ops Q i (fun a' w' => Keep F S (listed.setIfInBounds i true) w' ∧ wpAnyL P md ops Q F S fuel (listed.setIfInBounds i true) a' w') a w
theorem wpAny_of_keep : ∀ (fuel : Nat) (listed : Array Bool) (a : Act) (w : World), wpAnyL P md ops Q F S fuel listed a w → wpAny P md ops Q fuel listed a w
 | 0, _, _, _, h => h
 | fuel + 1, _, _, _, h => ⟨h.1, fun i hi => wpOp_mono (fun a' w' h' => wpAny_of_keep fuel _ a' w' h'.2) (h.2 i hi)⟩
theorem wpAnyL_first {i : Nat} {oi : Oper} {v : Value} (hi : ops[i]? = some oi) (hsel : ∀ (j : Nat) (o : Oper) cs b, ops[j]? = some o → o.op ≠ .select cs b)
  (hQ : ∀ c a w, Q (.panic c) (a.put oi.dst v) w → Q (.panic c) a w) (hF : ∀ f ∈ F, f ≠ i ∧ waits md ops ops.size f i = true) :
  ∀ (fuel : Nat) (listed : Array Bool) (a : Act) (w : World),
   (∀ j oj, ops[j]? = some oj → j ≠ i → listed.getD j true = false → (∀ e ∈ oj.after, Region.binds md e = true → e.on ≠ i) → oi.apart ops oj = true) →
   Closed md ops listed → i ∈ Region.ready md ops listed → YieldsIf P ops S oi v a → S w →
   wpAnyL P md ops Q F S fuel (listed.setIfInBounds i true) (a.put oi.dst v) w → wpAnyL P md ops Q F S (fuel + 1) listed a w := by
 intro fuel
 induction fuel with
 | zero =>
  intro listed a w _ _ hr hy hS H
  refine ⟨fun h => (by rw [h] at hr; cases hr), fun j hj => ?_⟩
  by_cases hji : j = i
  ·subst hji; exact hy.wpOp hi hS ⟨fun _ => hS, H⟩
  ·have := ready_mono hj hji
   rw [H.1] at this
   cases this
 | succ fuel ih =>
  intro listed a w hfree hc hr hy hS H
  refine ⟨fun h => (by rw [h] at hr; cases hr), fun j hj => ?_⟩
  by_cases hji : j = i
  ·subst hji; exact hy.wpOp hi hS ⟨fun _ => hS, H⟩
  ·have hun0 := (mem_ready.1 hr).1
   have h1 := H.2 j (ready_mono hj hji)
   obtain ⟨hjun, oj, hoj, hall⟩ := mem_ready.1 hj
   have hnot : ∀ e ∈ oj.after, Region.binds md e = true → e.on ≠ i := fun e he hb heq => by
    have h1 := hall e he hb
    rw [heq] at h1
    rw [getD_up h1] at hun0
    cases hun0
   have h2 := wpOp_putIf hoj (hfree j oj hoj hji hjun hnot) (fun cs b => hsel i oi cs b hi) (fun cs b => hsel j oj cs b hoj) hQ hy h1
   have hfree' : ∀ k ok, ops[k]? = some ok → k ≠ i → (listed.setIfInBounds j true).getD k true = false →
     (∀ e ∈ ok.after, Region.binds md e = true → e.on ≠ i) → oi.apart ops ok = true := fun k ok hk hki hun hno => by
    refine hfree k ok hk hki ?_ hno
    by_cases hjk : j = k
    ·subst hjk; exact hjun
    ·rw [getD_set_ne true hjk] at hun; exact hun
   have hc' := hc.step hj
   have hui : (listed.setIfInBounds j true).getD i true = false := by rw [getD_set_ne true hji]; exact hun0
   have hnoF : ∀ f ∈ F, (listed.setIfInBounds j true).getD f true = false := fun f hf => by
    cases hx : (listed.setIfInBounds j true).getD f true
    ·rfl
    ·have := hc'.waits (hF f hf).2 hx
     rw [hui] at this
     cases this
   refine wpOp_mono (fun a' w' h3 => ?_) h2
   have hSw : S w' := h3.2.1 (fun f hf => by
    rw [Array.setIfInBounds_comm _ _ (Ne.symm hji), getD_set_ne true (Ne.symm (hF f hf).1)]
    exact hnoF f hf)
   refine ⟨fun _ => hSw, ih (listed.setIfInBounds j true) a' w' hfree' hc' (ready_mono hr (Ne.symm hji)) h3.1 hSw ?_⟩
   rw [Array.setIfInBounds_comm _ _ hji]
   exact h3.2.2
theorem wpAnyL_pure {i : Nat} {oi : Oper} {v : Value} (hi : ops[i]? = some oi) (hsel : ∀ (j : Nat) (o : Oper) cs b, ops[j]? = some o → o.op ≠ .select cs b)
  (hQ : ∀ c a w, Q (.panic c) (a.put oi.dst v) w → Q (.panic c) a w) (hF : ∀ f ∈ F, f ≠ i) :
  ∀ (fuel : Nat) (listed : Array Bool) (a : Act) (w : World),
   (∀ j oj, ops[j]? = some oj → j ≠ i → listed.getD j true = false → (∀ e ∈ oj.after, Region.binds md e = true → e.on ≠ i) → oi.apart ops oj = true) →
   i ∈ Region.ready md ops listed → YieldsIf P ops (fun _ => True) oi v a → Keep F S listed w →
   wpAnyL P md ops Q F S fuel (listed.setIfInBounds i true) (a.put oi.dst v) w → wpAnyL P md ops Q F S (fuel + 1) listed a w := by
 have keep : ∀ (listed : Array Bool) (w : World), Keep F S (listed.setIfInBounds i true) w ↔ Keep F S listed w := fun listed w => by
  unfold Keep
  constructor
  ·intro h h2
   exact h (fun f hf => by rw [getD_set_ne true (Ne.symm (hF f hf))]; exact h2 f hf)
  ·intro h h2
   exact h (fun f hf => by have := h2 f hf; rw [getD_set_ne true (Ne.symm (hF f hf))] at this; exact this)
 intro fuel
 induction fuel with
 | zero =>
  intro listed a w _ hr hy hk H
  refine ⟨fun h => (by rw [h] at hr; cases hr), fun j hj => ?_⟩
  by_cases hji : j = i
  ·subst hji; exact hy.wpOp hi trivial ⟨(keep _ _).2 hk, H⟩
  ·have := ready_mono hj hji
   rw [H.1] at this
   cases this
 | succ fuel ih =>
  intro listed a w hfree hr hy hk H
  refine ⟨fun h => (by rw [h] at hr; cases hr), fun j hj => ?_⟩
  by_cases hji : j = i
  ·subst hji; exact hy.wpOp hi trivial ⟨(keep _ _).2 hk, H⟩
  ·have hun0 := (mem_ready.1 hr).1
   have h1 := H.2 j (ready_mono hj hji)
   obtain ⟨hjun, oj, hoj, hall⟩ := mem_ready.1 hj
   have hnot : ∀ e ∈ oj.after, Region.binds md e = true → e.on ≠ i := fun e he hb heq => by
    have h1 := hall e he hb
    rw [heq] at h1
    rw [getD_up h1] at hun0
    cases hun0
   have h2 := wpOp_putIf hoj (hfree j oj hoj hji hjun hnot) (fun cs b => hsel i oi cs b hi) (fun cs b => hsel j oj cs b hoj) hQ hy h1
   have hfree' : ∀ k ok, ops[k]? = some ok → k ≠ i → (listed.setIfInBounds j true).getD k true = false →
     (∀ e ∈ ok.after, Region.binds md e = true → e.on ≠ i) → oi.apart ops ok = true := fun k ok hk hki hun hno => by
    refine hfree k ok hk hki ?_ hno
    by_cases hjk : j = k
    ·subst hjk; exact hjun
    ·rw [getD_set_ne true hjk] at hun; exact hun
   refine wpOp_mono (fun a' w' h3 => ?_) h2
   have hk' : Keep F S (listed.setIfInBounds j true) w' := by
    have := h3.2.1
    rw [Array.setIfInBounds_comm _ _ (Ne.symm hji)] at this
    exact (keep _ _).1 this
   refine ⟨hk', ih (listed.setIfInBounds j true) a' w' hfree' (ready_mono hr (Ne.symm hji)) h3.1 hk' ?_⟩
   rw [Array.setIfInBounds_comm _ _ hji]
   exact h3.2.2
theorem lPure {i : Nat} (d : Option Tmp) {v : Value} {fuel : Nat} {listed : Array Bool} {a : Act} {w : World} (hd : (ops[i]?).map (·.dst) = some d) (hs : Region.noSelect ops = true) (hf : Region.free md ops listed i = true)
  (hr : (Region.ready md ops listed).contains i = true) (hF : F.contains i = false) (hQ : ∀ c a w, Q (.panic c) (a.put d v) w → Q (.panic c) a w) (hw : (ops[i]?).map (fun o => Region.wanted o (yielded ops a.tmps)) = some true)
  (hy : ∀ w, (ops[i]?).map (fun o => (execOp a.eval o).run P w) = some (.ok (.value v) w)) (hk : Keep F S listed w) (h : wpAnyL P md ops Q F S fuel (listed.setIfInBounds i true) (a.put d v) w) :
  wpAnyL P md ops Q F S (fuel + 1) listed a w := by
 obtain ⟨o, ho, rfl⟩ := Option.map_eq_some_iff.1 hd
 rw [ho, zqd, zqe] at hw
 have hF' : ∀ f ∈ F, f ≠ i := fun f hfm e => by
  subst e
  rw [List.contains_iff_mem.2 hfm] at hF
  cases hF
 refine wpAnyL_pure ho (Region.noSelect_spec hs) hQ hF' fuel listed a w (Region.free_spec ho hf) (by simpa using hr) (Or.inl ⟨hw, fun w _ => ?_⟩) hk h
 have := hy w
 rw [ho, zqd, zqe] at this
 exact this
theorem keep_of {listed : Array Bool} {w : World} (h : S w) : Keep F S listed w := fun _ => h
theorem keep_fell {listed : Array Bool} {w : World} (h : F.any (fun f => listed.getD f true) = true) : Keep F S listed w := fun hn => by
 obtain ⟨f, hf, hx⟩ := List.any_eq_true.1 h
 rw [hn f hf] at hx
 cases hx
theorem wp_region_keep {id : Nat} {a : Act} {w : World} (F : List Nat) (hm : P.follows .mixedOrders = true) (hS : S w.drew)
  (h : S w.drew → wpAnyL P .any ops Q F S ops.size (Array.replicate ops.size false) a w.drew) : (Code.region id ops true).wp P Q a w :=
 wp_region_any hm (wpAny_of_keep _ _ _ _ (h hS))
theorem lTake {i : Nat} (d : Option Tmp) {v : Value} {fuel : Nat} {listed : Array Bool} {a : Act} {w : World} (hd : (ops[i]?).map (·.dst) = some d) (hs : Region.noSelect ops = true) (hf : Region.free md ops listed i = true)
  (hr : (Region.ready md ops listed).contains i = true) (hc : closedB md ops listed = true) (hF : (F.all fun f => f != i && waits md ops ops.size f i) = true) (hQ : ∀ c a w, Q (.panic c) (a.put d v) w → Q (.panic c) a w) (hw : (ops[i]?).map (fun o => Region.wanted o (yielded ops a.tmps)) = some true)
  (hy : ∀ w, S w → (ops[i]?).map (fun o => (execOp a.eval o).run P w) = some (.ok (.value v) w)) (hS : S w) (h : wpAnyL P md ops Q F S fuel (listed.setIfInBounds i true) (a.put d v) w) :
  wpAnyL P md ops Q F S (fuel + 1) listed a w := by
 obtain ⟨o, ho, rfl⟩ := Option.map_eq_some_iff.1 hd
 rw [ho, zqd, zqe] at hw
 have hF' : ∀ f ∈ F, f ≠ i ∧ waits md ops ops.size f i = true := fun f hf => by simpa using List.all_eq_true.1 hF f hf
 refine wpAnyL_first ho (Region.noSelect_spec hs) hQ hF' fuel listed a w (Region.free_spec ho hf) (closed_of hc) (by simpa using hr) (Or.inl ⟨hw, fun w hSw => ?_⟩) hS h
 have := hy w hSw
 rw [ho, zqd, zqe] at this
 exact this
def LStep (P : Program) (md : Region.Mode) (ops : Array Oper) (Q : Exit → Act → World → Prop) (F : List Nat) (S : World → Prop) (fuel : Nat) (listed : Array Bool) (a : Act) (w : World) (i : Nat) : Prop :=
 ∀ K' : Act → World → Prop, Shut (∀ a w, S w → (S w → wpAnyL P md ops Q F S fuel (listed.setIfInBounds i true) a w) → K' a w) →
   match ops[i]? with | some o => if Region.wanted o (yielded ops a.tmps) = true then Oper.wp P o a w K' Q else K' (a.put o.dst undef) w | none => K' a w
def LFall (P : Program) (md : Region.Mode) (ops : Array Oper) (Q : Exit → Act → World → Prop) (F : List Nat) (S : World → Prop) (fuel : Nat) (listed : Array Bool) (a : Act) (w : World) (i : Nat) : Prop :=
 ∀ K' : Act → World → Prop, Shut (∀ a w, wpAnyL P md ops Q F S fuel (listed.setIfInBounds i true) a w → K' a w) →
   match ops[i]? with | some o => if Region.wanted o (yielded ops a.tmps) = true then Oper.wp P o a w K' Q else K' (a.put o.dst undef) w | none => K' a w
variable {fuel : Nat} {listed : Array Bool} {a : Act} {w : World}
theorem LStep.op {i : Nat} (h : LStep P md ops Q F S fuel listed a w i) : wpOp P ops Q i (fun a' w' => Keep F S (listed.setIfInBounds i true) w' ∧ wpAnyL P md ops Q F S fuel (listed.setIfInBounds i true) a' w') a w := by
 unfold LStep at h
 cases ho : ops[i]? with
 | none =>
  rw [ho] at h
  have h' := h (fun a' w' => Keep F S (listed.setIfInBounds i true) w' ∧ wpAnyL P md ops Q F S fuel (listed.setIfInBounds i true) a' w') (fun a w hS hW => ⟨fun _ => hS, hW hS⟩)
  unfold wpOp
  rw [ho]
  exact h'
 | some o =>
  rw [ho] at h
  exact wpOp_step ho (fun K' hK => h K' (fun a w hS hW => hK a w ⟨fun _ => hS, hW hS⟩))
theorem LFall.op {i : Nat} (hi : F.any (fun f => (listed.setIfInBounds i true).getD f true) = true) (h : LFall P md ops Q F S fuel listed a w i) : wpOp P ops Q i (fun a' w' => Keep F S (listed.setIfInBounds i true) w' ∧ wpAnyL P md ops Q F S fuel (listed.setIfInBounds i true) a' w') a w := by
 have hk : ∀ w, Keep F S (listed.setIfInBounds i true) w := fun w hn => by
  obtain ⟨f, hf, hx⟩ := List.any_eq_true.1 hi
  rw [hn f hf] at hx
  cases hx
 unfold LFall at h
 cases ho : ops[i]? with
 | none =>
  rw [ho] at h
  have h' := h (fun a' w' => Keep F S (listed.setIfInBounds i true) w' ∧ wpAnyL P md ops Q F S fuel (listed.setIfInBounds i true) a' w') (fun a w hW => ⟨hk w, hW⟩)
  unfold wpOp
  rw [ho]
  exact h'
 | some o =>
  rw [ho] at h
  exact wpOp_step ho (fun K' hK => h K' (fun a w hW => hK a w ⟨hk w, hW⟩))
abbrev LOp (P : Program) (md : Region.Mode) (ops : Array Oper) (Q : Exit → Act → World → Prop) (F : List Nat) (S : World → Prop) (fuel : Nat) (listed : Array Bool) (a : Act) (w : World) (i : Nat) : Prop :=
 wpOp P ops Q i (fun a' w' => Keep F S (listed.setIfInBounds i true) w' ∧ wpAnyL P md ops Q F S fuel (listed.setIfInBounds i true) a' w') a w
theorem lNext {rs : List Nat} (hr : Region.ready md ops listed = rs) (hne : rs ≠ []) (h : ∀ i ∈ rs, LOp P md ops Q F S fuel listed a w i) : wpAnyL P md ops Q F S (fuel + 1) listed a w :=
 ⟨fun h0 => absurd (hr ▸ h0) hne, hr ▸ h⟩
theorem lOne (i : Nat) (hr : Region.ready md ops listed = [i]) (h1 : LOp P md ops Q F S fuel listed a w i) : wpAnyL P md ops Q F S (fuel + 1) listed a w :=
 lNext hr (by simp) (fun k hk => by simp at hk; subst hk; exact h1)
theorem lTwo (i j : Nat) (hr : Region.ready md ops listed = [i, j]) (h1 : LOp P md ops Q F S fuel listed a w i) (h2 : LOp P md ops Q F S fuel listed a w j) : wpAnyL P md ops Q F S (fuel + 1) listed a w :=
 lNext hr (by simp) (fun k hk => by
  simp at hk
  rcases hk with rfl | rfl
  ·exact h1
  ·exact h2)
theorem lThree (i j k : Nat) (hr : Region.ready md ops listed = [i, j, k]) (h1 : LOp P md ops Q F S fuel listed a w i) (h2 : LOp P md ops Q F S fuel listed a w j) (h3 : LOp P md ops Q F S fuel listed a w k) : wpAnyL P md ops Q F S (fuel + 1) listed a w :=
 lNext hr (by simp) (fun m hm => by
  simp at hm
  rcases hm with rfl | rfl | rfl
  ·exact h1
  ·exact h2
  ·exact h3)
theorem lDone (hr : Region.ready md ops listed = []) (h : Q .normal a w) : wpAnyL P md ops Q F S fuel listed a w := by
 cases fuel with
 | zero => exact ⟨hr, h⟩
 | succ n => exact ⟨fun _ => h, by rw [hr]; simp⟩
end
end Go.Tre
namespace Go.Tre
section
variable {P : Program} {ops : Array Oper} {Q : Exit → Act → World → Prop} {md : Region.Mode} {S : World → Prop} {F : List Nat}
variable {fuel : Nat} {listed : Array Bool} {a : Act} {w : World}
def takeB (md : Region.Mode) (ops : Array Oper) (F : List Nat) (listed : Array Bool) (i : Nat) (d : Option Tmp) : Bool :=
 decide ((ops[i]?).map (·.dst) = some d) && (Region.noSelect ops && (Region.free md ops listed i && ((Region.ready md ops listed).contains i && (closedB md ops listed && (F.all fun f => f != i && waits md ops ops.size f i)))))
def plainB (md : Region.Mode) (ops : Array Oper) (F : List Nat) (listed : Array Bool) (i : Nat) (d : Option Tmp) : Bool :=
 decide ((ops[i]?).map (·.dst) = some d) && (Region.noSelect ops && (Region.free md ops listed i && ((Region.ready md ops listed).contains i && !(F.contains i))))
theorem lTk (i : Nat) (d : Option Tmp) {v : Value} (hy : ∀ w, S w → (ops[i]?).map (fun o => (execOp a.eval o).run P w) = some (.ok (.value v) w)) (hS : S w) (h : wpAnyL P md ops Q F S fuel (listed.setIfInBounds i true) (a.put d v) w)
  (hc : takeB md ops F listed i d = true := by kernel_rfl) (hQ : ∀ c a w, Q (.panic c) (a.put d v) w → Q (.panic c) a w := by exact fun _ _ _ h => h) (hw : (ops[i]?).map (fun o => Region.wanted o (yielded ops a.tmps)) = some true := by rfl) : wpAnyL P md ops Q F S (fuel + 1) listed a w := by
 unfold takeB at hc
 simp only [Bool.and_eq_true, decide_eq_true_eq] at hc
 obtain ⟨h1, h2, h3, h4, h5, h6⟩ := hc
 exact lTake d h1 h2 h3 h4 h5 h6 hQ hw hy hS h
theorem lPk (i : Nat) (d : Option Tmp) {v : Value} (hy : ∀ w, (ops[i]?).map (fun o => (execOp a.eval o).run P w) = some (.ok (.value v) w)) (hk : Keep F S listed w) (h : wpAnyL P md ops Q F S fuel (listed.setIfInBounds i true) (a.put d v) w)
  (hc : plainB md ops F listed i d = true := by kernel_rfl) (hQ : ∀ c a w, Q (.panic c) (a.put d v) w → Q (.panic c) a w := by exact fun _ _ _ h => h) (hw : (ops[i]?).map (fun o => Region.wanted o (yielded ops a.tmps)) = some true := by rfl) : wpAnyL P md ops Q F S (fuel + 1) listed a w := by
 unfold plainB at hc
 simp only [Bool.and_eq_true, decide_eq_true_eq, Bool.not_eq_true'] at hc
 obtain ⟨h1, h2, h3, h4, h5⟩ := hc
 exact lPure d h1 h2 h3 h4 h5 hQ hw hy hk h
structure Cond (S : World → Prop) : Type where
theorem Cond.keep {id : Nat} {a : Act} {w : World} (_ : Cond S) (F : List Nat) (hS : S w.drew) (h : S w.drew → wpAnyL P .any ops Q F S ops.size (Array.replicate ops.size false) a w.drew) (hm : P.follows .mixedOrders = true := by kernel_rfl) : (Code.region id ops true).wp P Q a w := wp_region_keep F hm hS h
theorem lTq (i : Nat) (d : Option Tmp) {v : Value} {o : Oper} (ho : ops[i]? = some o) (hy : ∀ w, S w → (execOp a.eval o).run P w = .ok (.value v) w) (hS : S w) (h : wpAnyL P md ops Q F S fuel (listed.setIfInBounds i true) (a.put d v) w)
  (hc : takeB md ops F listed i d = true := by kernel_rfl) (hQ : ∀ c a w, Q (.panic c) (a.put d v) w → Q (.panic c) a w := by exact fun _ _ _ h => h) (hw : (ops[i]?).map (fun o => Region.wanted o (yielded ops a.tmps)) = some true := by rfl) : wpAnyL P md ops Q F S (fuel + 1) listed a w :=
 lTk i d (fun w hSw => by rw [ho, Option.map_some, hy w hSw]) hS h hc hQ hw
theorem lPq (i : Nat) (d : Option Tmp) {v : Value} {o : Oper} (ho : ops[i]? = some o) (hy : ∀ w, (execOp a.eval o).run P w = .ok (.value v) w) (hk : Keep F S listed w) (h : wpAnyL P md ops Q F S fuel (listed.setIfInBounds i true) (a.put d v) w)
  (hc : plainB md ops F listed i d = true := by kernel_rfl) (hQ : ∀ c a w, Q (.panic c) (a.put d v) w → Q (.panic c) a w := by exact fun _ _ _ h => h) (hw : (ops[i]?).map (fun o => Region.wanted o (yielded ops a.tmps)) = some true := by rfl) : wpAnyL P md ops Q F S (fuel + 1) listed a w :=
 lPk i d (fun w => by rw [ho, Option.map_some, hy w]) hk h hc hQ hw
theorem Cond.is {S : World → Prop} {w : World} (_ : Cond S) (h : S w) : S w := h
end
end Go.Tre
namespace Go.Tre
open Go.RowKit Go.Maps
section
variable {P : Program} (w : World)
theorem run_append_row (t ty e : TypeId) (i : TypeInfo) (z : Value) (size bytes : Nat) (ht : P.underlying t = some (.slice e)) (hi : P.info? e = some i) (hz : i.zero = some z)
  (hsize : i.size = size) (hby : i.bytes = bytes) (hzs : z.cells.size = size) (hsz : 0 < size)
  (v : Value) (n : Nat) (xs : List Value) (hown : w.ownsRow 0 e size v n xs)
  (a : Option Addr) (m c : Nat) (news : List Value) (hr : Row w size a m news) (h1 : ∀ u ∈ news, u.oneCell' = true)
  (h63 : n + m ≤ maxLen) (hbytes : (n + m) * bytes ≤ 140737488355328) :
  ∃ v' w', (Builtin.append_ #[t, t] ty #[v, .slice a m c]).run P w = .ok v' w' ∧ w'.ownsRow 0 e size v' (n + m) (xs ++ news) ∧ w.grownBy w' v.ownBlock ∧ (v'.ownBlock = v.ownBlock ∨ v'.ownBlock = some w.heap.size) := by
 cases a with
 | none =>
  have h0 : news = [] := by
   cases news with
   | nil => rfl
   | cons x r => obtain ⟨_, _, e, _⟩ := hr.at_ 0 x rfl; cases e
  have hm : m = 0 := by
   have := hr.len
   rw [h0, List.length_nil] at this
   rcases Nat.mul_eq_zero.1 this.symm with h | h <;> omega
  subst h0 hm
  refine ⟨v, w, ?_, by simpa using hown, ⟨rfl, rfl, rfl, Nat.le_refl _, fun _ _ _ => rfl⟩, .inl rfl⟩
  rcases hown.2 with ⟨rfl, rfl⟩ | ⟨g, cap, cur, rfl, _, _, hnc, _⟩
  ·simp [Builtin.append_, run_underlying ht, sizeOf, typeInfo, hi, Builtin.lenOf, Builtin.firstCells]
  ·simp [Builtin.append_, run_underlying ht, sizeOf, typeInfo, hi, Builtin.lenOf, Builtin.firstCells, hnc, storeCells]
 | some ad =>
  obtain ⟨v', w', hrun, h2, h3, _, h5⟩ := run_append_own_at (P := P) w 0 t ty e i z size bytes ht hi hz hsize hby hzs hsz v n xs hown ad m c news hr.len (fun j u hu => by
   obtain ⟨b, off, e', hc⟩ := hr.at_ j u hu
   cases e'
   have : (⟨b, off, none⟩ : Addr).add j = ⟨b, off + j, none⟩ := by unfold Addr.add; by_cases h : j = 0 <;> simp [h]
   rw [this]; exact hc) h1 h63 hbytes (Nat.zero_le _)
  exact ⟨v', w', hrun, h2, h3, h5⟩
theorem wp_append_row {o : Oper} {a : Act} {K : Act → World → Prop} {Q : Exit → Act → World → Prop} (s x : Operand) (t : TypeId)
  (ho : o.op = .call { callee := .builtin .append, args := #[s, x], argTypes := #[t, t] })
  (e : TypeId) (i : TypeInfo) (z : Value) (size bytes : Nat) (ht : P.underlying t = some (.slice e)) (hi : P.info? e = some i) (hz : i.zero = some z)
  (hsize : i.size = size) (hby : i.bytes = bytes) (hzs : z.cells.size = size) (hsz : 0 < size)
  (v : Value) (n : Nat) (xs : List Value) (hs : a.eval s = v) (hown : w.ownsRow 0 e size v n xs)
  (ad : Option Addr) (m c : Nat) (news : List Value) (hx : a.eval x = .slice ad m c) (hr : Row w size ad m news) (h1 : ∀ u ∈ news, u.oneCell' = true)
  (h63 : n + m ≤ maxLen) (hbytes : (n + m) * bytes ≤ 140737488355328)
  (h : ∀ v' w', w'.ownsRow 0 e size v' (n + m) (xs ++ news) → w.grownBy w' v.ownBlock → (v'.ownBlock = v.ownBlock ∨ v'.ownBlock = some w.heap.size) → K (a.put o.dst v') w') : o.wp P a w K Q := by
 obtain ⟨v', w', hr, h2, h3, h4⟩ := run_append_row (P := P) w t o.type e i z size bytes ht hi hz hsize hby hzs hsz v n xs hown ad m c news hr h1 h63 hbytes
 unfold Oper.wp execOp
 simp only [ho, resolve, invoke, builtin, Sem.run_bind, Sem.run_pure, Result.andThen_ok, List.map_toArray, List.map_cons, List.map_nil, hs, hx, hr]
 exact h v' w' h2 h3 h4
theorem wpList_append_row {ops : Array Oper} {rest : List Oper} {o : Oper} {a : Act} {Q : Exit → Act → World → Prop} (hgd : o.guard = none) (s x : Operand) (t : TypeId)
  (ho : o.op = .call { callee := .builtin .append, args := #[s, x], argTypes := #[t, t] })
  (e : TypeId) (i : TypeInfo) (z : Value) (size bytes : Nat) (ht : P.underlying t = some (.slice e)) (hi : P.info? e = some i) (hz : i.zero = some z)
  (hsize : i.size = size) (hby : i.bytes = bytes) (hzs : z.cells.size = size) (hsz : 0 < size)
  (v : Value) (n : Nat) (xs : List Value) (hs : a.eval s = v) (hown : w.ownsRow 0 e size v n xs)
  (ad : Option Addr) (m c : Nat) (news : List Value) (hx : a.eval x = .slice ad m c) (hr : Row w size ad m news) (h1 : ∀ u ∈ news, u.oneCell' = true)
  (h63 : n + m ≤ maxLen) (hbytes : (n + m) * bytes ≤ 140737488355328)
  (h : ∀ v' w', w'.ownsRow 0 e size v' (n + m) (xs ++ news) → w.grownBy w' v.ownBlock → (v'.ownBlock = v.ownBlock ∨ v'.ownBlock = some w.heap.size) → wpList P ops Q rest (a.put o.dst v') w') :
  wpList P ops Q (o :: rest) a w := by
 refine wpList_plain hgd fun K hK => ?_
 exact wp_append_row w s x t ho e i z size bytes ht hi hz hsize hby hzs hsz v n xs hs hown ad m c news hx hr h1 h63 hbytes (fun v' w' h2 h3 h4 => hK _ _ (h v' w' h2 h3 h4))
end
end Go.Tre
namespace Go.Proofs.YtlkfhbmjemjohaaGreatDoor.gr
open Go.RowKit Go.Shelf Go.Maps Go.Tre lex
def zeroV : NodeV := ⟨⟨0, ByteArray.empty, [], [], false⟩, .slice none 0 0, .slice none 0 0⟩
def argsR (d : NodeV) : Res := rowR 3 1 d.va d.n.args.length (d.n.args.map (Value.int .i64))
structure DS (w : World) (l : List Res) (ds : List NodeV) : Prop where
 row : ∀ d ∈ ds, argsR d ∈ l
 lab : ∀ d ∈ ds, ∃ al cl, d.vl = .slice al d.n.labels.length cl ∧ StrsAt w al d.n.labels ∧ d.n.labels.length ≤ cl
theorem DS.val {w W : World} {l : List Res} {ds : List NodeV} (h : DS w l ds) (b : Below w.heap.size w W) (hl : (manyR l).P W) : ∀ d ∈ ds, NodeVal W d := fun d hd => by
 obtain ⟨aa, ca, ea, la, ra⟩ := row_read (hl _ (h.row d hd) : World.ownsRow _ _ _ _ _ _ _)
 obtain ⟨al, cl, el, sl, ll⟩ := h.lab d hd
 exact ⟨aa, ca, al, cl, ea, el, ra, sl.below b, la, ll⟩
theorem DS.more {w : World} {l : List Res} {ds : List NodeV} (h : DS w l ds) (r : Res) : DS w (l ++ [r]) ds := ⟨fun d hd => List.mem_append.2 (.inl (h.row d hd)), h.lab⟩
theorem DS.set {w : World} {l : List Res} {ds : List NodeV} (h : DS w l ds) (k : Nat) (d : NodeV) (h1 : argsR d ∈ l) (h2 : ∃ al cl, d.vl = .slice al d.n.labels.length cl ∧ StrsAt w al d.n.labels ∧ d.n.labels.length ≤ cl) : DS w l (ds.set k d) := by
 refine ⟨fun x hx => ?_, fun x hx => ?_⟩
 ·rcases List.mem_or_eq_of_mem_set hx with hx | rfl
  ·exact h.row x hx
  ·exact h1
 ·rcases List.mem_or_eq_of_mem_set hx with hx | rfl
  ·exact h.lab x hx
  ·exact h2
theorem DS.zero (w : World) (n : Nat) : DS w [argsR zeroV] (List.replicate n zeroV) :=
 ⟨fun d hd => by rw [List.eq_of_mem_replicate hd]; simp, fun d hd => by rw [List.eq_of_mem_replicate hd]; exact ⟨none, 0, rfl, row_none _ _, Nat.le_refl _⟩⟩
theorem DS.again {w : World} {l : List Res} {ds : List NodeV} (h : DS w l ds) {d : NodeV} (hd : d ∈ ds) : DS w l (ds ++ [d]) :=
 ⟨fun x hx => by
  rcases List.mem_append.1 hx with hx | hx
  ·exact h.row x hx
  ·simp at hx; subst hx; exact h.row x hd, fun x hx => by
  rcases List.mem_append.1 hx with hx | hx
  ·exact h.lab x hx
  ·simp at hx; subst hx; exact h.lab x hd⟩
def TS (g : Tre.Graph) (b k : Nat) (ds : List NodeV) : Prop :=
 ds.length = g.ns.length ∧ ∀ i, i < g.ns.length → ∃ d, ds[turnAt g.ns.length b i]? = some d ∧ d.n = if i < k then turnNode g.ns.length b (g.nd i) else zeroV.n
theorem TS.start (g : Tre.Graph) (b : Nat) (h : 0 < g.ns.length) : TS g b 0 (List.replicate g.ns.length zeroV) :=
 ⟨List.length_replicate, fun i _ => ⟨zeroV, by rw [List.getElem?_replicate, if_pos (turnAt_lt h)], by rw [if_neg (by omega)]⟩⟩
theorem TS.step {g : Tre.Graph} {b k : Nat} {ds : List NodeV} (h : TS g b k ds) (hk : k < g.ns.length) (d : NodeV) (hd : d.n = turnNode g.ns.length b (g.nd k)) : TS g b (k + 1) (ds.set (turnAt g.ns.length b k) d) := by
 refine ⟨by rw [List.length_set]; exact h.1, fun i hi => ?_⟩
 by_cases e : i = k
 ·subst e
  refine ⟨d, ?_, by rw [if_pos (by omega), hd]⟩
  rw [List.getElem?_set_self (by rw [h.1]; exact turnAt_lt (by omega))]
 ·obtain ⟨x, h1, h2⟩ := h.2 i hi
  refine ⟨x, ?_, ?_⟩
  ·rw [List.getElem?_set_ne (fun e' => e (turnAt_inj hi hk e'.symm))]; exact h1
  ·rw [h2]
   by_cases h3 : i < k
   ·rw [if_pos h3, if_pos (by omega)]
   ·rw [if_neg h3, if_neg (by omega)]
theorem TS.done {g : Tre.Graph} {b : Nat} {ds : List NodeV} {r : Nat} (h : TS g b g.ns.length ds) (hr : g.root = (r : Int)) : Turned g ⟨ds.map NodeV.n, ((turnAt g.ns.length b r : Nat) : Int)⟩ b := by
 refine ⟨by rw [List.length_map, h.1], by rw [hr]; rfl, fun i hi => ?_⟩
 obtain ⟨d, h1, h2⟩ := h.2 i hi
 rw [if_pos hi] at h2
 unfold Graph.nd
 simp only [List.getD_eq_getElem?_getD, List.getElem?_map, h1, zqd, Option.getD_some]
 rw [h2]
 rfl
end Go.Proofs.YtlkfhbmjemjohaaGreatDoor.gr
