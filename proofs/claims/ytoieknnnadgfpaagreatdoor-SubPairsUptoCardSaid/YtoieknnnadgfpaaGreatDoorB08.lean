/- Layer 12, plain: going through claims, none of which is asked twice. Steps through a drawn region, by hand: the slot that an operation writes is typed. Drawn regions: what is read is read first; behind an operation that waits for all reads, the condition on the world may fall. append onto a row of the call's own, the source whatever it is (nil, empty or not). -/
import Derived.Test.YtoieknnnadgfpaaGreatDoorB07
import Derived.Test.YtoieknnnadgfpaaGreatDoorB03
import Derived.Deep.RegionHeld3
import Derived.Test.YtoieknnnadgfpaaGreatDoorB05
import Derived.Maps.AppendAt
set_option linter.unusedVariables false
namespace Go.Tre
abbrev Claim := Nat × Nat × Bool
def ccells (l : List Claim) : List Value := l.flatMap fun c => [.int .i64 (c.1 : Int), .int .i64 (c.2.1 : Int), .bool c.2.2]
theorem ccells_len (l : List Claim) : (ccells l).length = l.length * 3 := by
 induction l with
 | nil => rfl
 | cons a l ih => unfold ccells at *; rw [List.flatMap_cons, List.length_append, ih, List.length_cons]; simp; omega
theorem ccells_append (l k : List Claim) : ccells (l ++ k) = ccells l ++ ccells k := by unfold ccells; rw [List.flatMap_append]
theorem ccells_snoc (l : List Claim) (c : Claim) : ccells (l ++ [c]) = ccells l ++ [.int .i64 (c.1 : Int), .int .i64 (c.2.1 : Int), .bool c.2.2] := by rw [ccells_append]; simp [ccells]
def ec (c : Claim) : Value := .agg #[.int .i64 (c.1 : Int), .int .i64 (c.2.1 : Int), .bool c.2.2]
theorem injC (a b : Claim) (h : ec a = ec b) : a = b := by
 obtain ⟨x, y, t⟩ := a
 obtain ⟨x', y', t'⟩ := b
 simp [ec] at h
 obtain ⟨h1, h2, h3⟩ := h
 rw [Int.ofNat_inj.1 h1, Int.ofNat_inj.1 h2, h3]
def univC (n k : Nat) : List Claim := ((univ n k).map fun p => (p.1, p.2, false)) ++ ((univ n k).map fun p => (p.1, p.2, true))
theorem mem_univC {n k : Nat} {c : Claim} (h1 : c.1 < n) (h2 : c.2.1 < k) : c ∈ univC n k := by
 obtain ⟨a, b, t⟩ := c
 unfold univC
 rw [List.mem_append]
 cases t
 ·exact .inl (List.mem_map.2 ⟨(a, b), mem_univ.2 ⟨h1, h2⟩, rfl⟩)
 ·exact .inr (List.mem_map.2 ⟨(a, b), mem_univ.2 ⟨h1, h2⟩, rfl⟩)
theorem univC_nodup (n k : Nat) : (univC n k).Nodup := by
 unfold univC
 refine List.nodup_append.2 ⟨?_, ?_, ?_⟩
 ·exact List.Pairwise.map _ (fun x y hxy e => hxy (by obtain ⟨a, b⟩ := x; obtain ⟨c, d⟩ := y; simpa using e)) (univ_nodup n k)
 ·exact List.Pairwise.map _ (fun x y hxy e => hxy (by obtain ⟨a, b⟩ := x; obtain ⟨c, d⟩ := y; simpa using e)) (univ_nodup n k)
 ·intro a ha b hb e
  obtain ⟨_, _, rfl⟩ := List.mem_map.1 ha
  obtain ⟨_, _, rfl⟩ := List.mem_map.1 hb
  simp at e
theorem univC_len (n k : Nat) : (univC n k).length = 2 * (n * k) := by
 have h : (univ n k).length = n * k := by unfold univ; rw [List.length_flatMap]; simp only [List.length_map, List.length_range]; rw [List.map_const', List.sum_replicate_nat, List.length_range]
 unfold univC
 rw [List.length_append, List.length_map, List.length_map, h]; omega
def wgtC (g h : Tre.Graph) (m : Claim → Option Unit) (c : Claim) : Nat := if m c = none then g.deg c.1 + h.deg c.2.1 else 0
def leftC (g h : Tre.Graph) (m : Claim → Option Unit) : Nat := ((univC g.ns.length h.ns.length).map (wgtC g h m)).sum
theorem leftC_mark {g h : Tre.Graph} {m : Claim → Option Unit} {c : Claim} (h1 : c.1 < g.ns.length) (h2 : c.2.1 < h.ns.length) (hm : m c = none) :
  leftC g h (upd m c ()) + (g.deg c.1 + h.deg c.2.1) = leftC g h m := by
 have := sum_upd (wgtC g h (upd m c ())) (wgtC g h m) c _ (univC_nodup g.ns.length h.ns.length) (mem_univC h1 h2) (fun q hq => by unfold wgtC; rw [upd_ne m () hq])
 have e1 : wgtC g h m c = g.deg c.1 + h.deg c.2.1 := by unfold wgtC; rw [if_pos hm]
 have e2 : wgtC g h (upd m c ()) c = 0 := by unfold wgtC; rw [upd_same]; simp
 unfold leftC
 omega
theorem deg_weight (g : Tre.Graph) (a : Nat) : g.deg a ≤ g.weight := by
 by_cases ha : a < g.ns.length
 ·have h1 := node_weight (List.getElem_mem ha)
  have h2 : g.deg a = g.ns[a].args.length := by unfold Graph.deg; rw [Graph.nd_eq ha]
  have h4 : g.weight = (g.ns.map Node.weight).sum := rfl
  have h3 : g.ns[a].args.length ≤ g.ns[a].weight := by unfold Node.weight; omega
  omega
 ·have : g.deg a = 0 := by unfold Graph.deg Graph.nd; rw [List.getD_eq_getElem?_getD, List.getElem?_eq_none (by omega)]; rfl
  omega
theorem leftC_le (g h : Tre.Graph) (m : Claim → Option Unit) : leftC g h m ≤ 2 * (g.ns.length * h.ns.length) * (g.weight + h.weight) := by
 have key : ∀ l : List Claim, (l.map (wgtC g h m)).sum ≤ l.length * (g.weight + h.weight) := fun l => by
  induction l with
  | nil => simp
  | cons c l ih =>
   have h1 := deg_weight g c.1
   have h2 := deg_weight h c.2.1
   have h3 : wgtC g h m c ≤ g.weight + h.weight := by unfold wgtC; split <;> omega
   rw [List.map_cons, List.sum_cons, List.length_cons, Nat.add_mul]
   omega
 have := key (univC g.ns.length h.ns.length)
 rw [univC_len] at this
 exact this
theorem leftC_small {g h : Tre.Graph} (ng : g.ns.length ≤ 512) (nh : h.ns.length ≤ 512) (wg : g.weight ≤ 2097152) (wh : h.weight ≤ 2097152) (m : Claim → Option Unit) : leftC g h m ≤ 2199023255552 := by
 refine Nat.le_trans (leftC_le g h m) ?_
 have h1 : g.ns.length * h.ns.length ≤ 512 * 512 := Nat.mul_le_mul ng nh
 refine Nat.le_trans (Nat.mul_le_mul (Nat.mul_le_mul (Nat.le_refl 2) h1) (Nat.add_le_add wg wh)) ?_
 decide
structure SubInv (g h : Tre.Graph) (l : List Claim) (m : Claim → Option Unit) : Prop where
 lt : ∀ c : Claim, c ∈ l ∨ m c ≠ none → c.1 < g.ns.length ∧ c.2.1 < h.ns.length
 root : (g.root.toNat, h.root.toNat, false) ∈ l ∨ m (g.root.toNat, h.root.toNat, false) ≠ none
 done : ∀ c : Claim, m c ≠ none → FolOk g h c.1 c.2.1 c.2.2 ∧ ∀ c' : Claim, Fol g h c.1 c.2.1 c.2.2 c'.1 c'.2.1 c'.2.2 → c' ∈ l ∨ m c' ≠ none
 hold : SubAt g h g.root.toNat h.root.toNat false → ∀ c : Claim, c ∈ l ∨ m c ≠ none → SubAt g h c.1 c.2.1 c.2.2
section
variable {g h : Tre.Graph} {l : List Claim} {m : Claim → Option Unit} {c : Claim}
theorem SubInv.start (og : g.Ok) (oh : h.Ok) : SubInv g h [(g.root.toNat, h.root.toNat, false)] (fun _ => none) := by
 refine ⟨?_, .inl (by simp), ?_, ?_⟩
 ·rintro c (h1 | h1)
  ·simp at h1; subst h1; exact ⟨by have := og.root0; have := og.root1; show g.root.toNat < _; omega, by have := oh.root0; have := oh.root1; show h.root.toNat < _; omega⟩
  ·exact absurd rfl h1
 ·intro c h1; exact absurd rfl h1
 ·rintro s c (h1 | h1)
  ·simp at h1; subst h1; exact s
  ·exact absurd rfl h1
theorem SubInv.met (i : SubInv g h (l ++ [c]) m) (hm : m c ≠ none) : SubInv g h l m := by
 have up : ∀ x : Claim, x ∈ l ∨ m x ≠ none → x ∈ l ++ [c] ∨ m x ≠ none := fun x hx => hx.imp (fun h => by simp [h]) id
 have dn : ∀ x : Claim, x ∈ l ++ [c] ∨ m x ≠ none → x ∈ l ∨ m x ≠ none := fun x hx => by
  rcases hx with h | h
  ·rcases List.mem_append.1 h with h | h
   ·exact .inl h
   ·simp at h; subst h; exact .inr hm
  ·exact .inr h
 exact ⟨fun x hx => i.lt x (up x hx), dn _ i.root, fun x hx => ⟨(i.done x hx).1, fun y hy => dn _ ((i.done x hx).2 y hy)⟩, fun s x hx => i.hold s x (up x hx)⟩
theorem SubInv.fail (i : SubInv g h (l ++ [c]) m) (hf : ¬ FolOk g h c.1 c.2.1 c.2.2) : subB g h = false := by
 cases e : subB g h with
 | false => rfl
 | true => exact absurd (i.hold (subB_iff.1 e) c (.inl (by simp))).ok hf
theorem SubInv.more {ks : List Claim} (og : g.Ok) (oh : h.Ok) (i : SubInv g h (l ++ [c]) m) (ho : FolOk g h c.1 c.2.1 c.2.2) (hk : ∀ x : Claim, x ∈ ks ↔ Fol g h c.1 c.2.1 c.2.2 x.1 x.2.1 x.2.2) : SubInv g h (l ++ ks) (upd m c ()) := by
 have hc := i.lt c (.inl (by simp))
 have me : ∀ x : Claim, upd m c () x ≠ none ↔ x = c ∨ m x ≠ none := fun x => by
  unfold upd
  by_cases e : x = c
  ·simp [e]
  ·simp [e]
 have cov : ∀ x : Claim, x ∈ l ++ [c] ∨ m x ≠ none → x ∈ l ++ ks ∨ upd m c () x ≠ none := fun x hx => by
  rcases hx with h | h
  ·rcases List.mem_append.1 h with h | h
   ·exact .inl (by simp [h])
   ·simp at h; exact .inr ((me x).2 (.inl h))
  ·exact .inr ((me x).2 (.inr h))
 have src : ∀ x : Claim, x ∈ l ++ ks ∨ upd m c () x ≠ none → x ∈ ks ∨ x ∈ l ++ [c] ∨ m x ≠ none := fun x hx => by
  rcases hx with h | h
  ·rcases List.mem_append.1 h with h | h
   ·exact .inr (.inl (by simp [h]))
   ·exact .inl h
  ·rcases (me x).1 h with h | h
   ·exact .inr (.inl (by simp [h]))
   ·exact .inr (.inr h)
 refine ⟨fun x hx => ?_, cov _ i.root, fun x hx => ?_, fun s x hx => ?_⟩
 ·rcases src x hx with h | h
  ·exact ((hk x).1 h).lt og oh hc.1 hc.2 ho
  ·exact i.lt x h
 ·rcases (me x).1 hx with rfl | h
  ·exact ⟨ho, fun y hy => .inl (by simp [(hk y).2 hy])⟩
  ·exact ⟨(i.done x h).1, fun y hy => cov _ ((i.done x h).2 y hy)⟩
 ·rcases src x hx with h | h
  ·exact (i.hold s c (.inl (by simp))).fol ((hk x).1 h)
  ·exact i.hold s x h
theorem SubInv.all (i : SubInv g h [] m) : subB g h = true := by
 rw [subB_iff]
 refine ⟨fun a b t => m (a, b, t) ≠ none, ⟨fun a b t h => (i.done (a, b, t) h).1, fun a b t a' b' t' h f => ?_⟩, ?_⟩
 ·rcases (i.done (a, b, t) h).2 (a', b', t') f with h | h
  ·simp at h
  ·exact h
 ·rcases i.root with h | h
  ·simp at h
  ·exact h
end
def conL (g h : Tre.Graph) (a b : Nat) (t : Bool) : List Claim := (List.range (g.deg a)).map fun i => (g.kid a i, h.kid b i, turnB (g.nd a).name i t)
theorem mem_conL {g h : Tre.Graph} {a b : Nat} {t : Bool} (h3 : (g.nd a).kind ≠ 3) (x : Claim) : x ∈ conL g h a b t ↔ Fol g h a b t x.1 x.2.1 x.2.2 := by
 unfold conL
 rw [List.mem_map]
 constructor
 ·rintro ⟨i, hi, rfl⟩
  exact .inr ⟨h3, i, List.mem_range.1 hi, rfl, rfl, rfl⟩
 ·rintro (⟨h, _⟩ | ⟨_, i, hi, h1, h2, h4⟩)
  ·exact absurd h h3
  ·exact ⟨i, List.mem_range.2 hi, by obtain ⟨x1, x2, x3⟩ := x; simp at h1 h2 h4; rw [h1, h2, h4]⟩




end Go.Tre
namespace Go.Tre
section
variable {P : Program} {ops : Array Oper} {Q : Exit → Act → World → Prop} {md : Region.Mode} {S : World → Prop}
end
end Go.Tre
namespace Go.Tre
section
variable {P : Program} {ops : Array Oper} {Q : Exit → Act → World → Prop} {md : Region.Mode} {S : World → Prop} {F : List Nat}
def waits (md : Region.Mode) (ops : Array Oper) : Nat → Nat → Nat → Bool
 | 0, _, _ => false
 | n + 1, f, i => match ops[f]? with
  | some o => o.after.any fun e => Region.binds md e && (e.on == i || waits md ops n e.on i)
  | none => false
def Closed (md : Region.Mode) (ops : Array Oper) (listed : Array Bool) : Prop :=
 ∀ (j : Nat) (oj : Oper), ops[j]? = some oj → listed.getD j true = true → ∀ e ∈ oj.after, Region.binds md e = true → listed.getD e.on false = true
theorem getD_up {listed : Array Bool} {i : Nat} (h : listed.getD i false = true) : listed.getD i true = true := by
 rw [Array.getD_eq_getD_getElem?] at h ⊢
 cases hx : listed[i]? with
 | none => rfl
 | some x => rw [hx] at h; exact h
theorem Closed.waits {listed : Array Bool} (h : Closed md ops listed) : ∀ {n f i : Nat}, waits md ops n f i = true → listed.getD f true = true → listed.getD i true = true := by
 intro n
 induction n with
 | zero => intro f i hw; cases hw
 | succ n ih =>
  intro f i hw hf
  unfold Tre.waits at hw
  cases ho : ops[f]? with
  | none => rw [ho] at hw; cases hw
  | some o =>
   rw [ho] at hw
   obtain ⟨e, he, hb⟩ := Array.any_eq_true'.1 hw
   simp only [Bool.and_eq_true, Bool.or_eq_true, beq_iff_eq] at hb
   have h1 := h f o ho hf e he hb.1
   rcases hb.2 with rfl | h2
   ·exact getD_up h1
   ·exact ih h2 (getD_up h1)
theorem Closed.step {listed : Array Bool} (h : Closed md ops listed) {i : Nat} (hr : i ∈ Region.ready md ops listed) : Closed md ops (listed.setIfInBounds i true) := by
 intro j oj ho hj e he hb
 refine getD_set_true ?_
 by_cases hji : j = i
 ·subst hji
  obtain ⟨_, o, ho', hall⟩ := mem_ready.1 hr
  rw [ho] at ho'
  cases ho'
  exact hall e he hb
 ·rw [getD_set_ne true (Ne.symm hji)] at hj
  exact h j oj ho hj e he hb
def closedB (md : Region.Mode) (ops : Array Oper) (listed : Array Bool) : Bool :=
 (List.range ops.size).all fun j => !listed.getD j true || match ops[j]? with
  | some oj => oj.after.all fun e => !Region.binds md e || listed.getD e.on false
  | none => true
theorem closed_of {listed : Array Bool} (h : closedB md ops listed = true) : Closed md ops listed := by
 intro j oj ho hj e he hb
 unfold closedB at h
 rw [List.all_eq_true] at h
 have h1 := h j (List.mem_range.2 (Array.getElem?_eq_some_iff.1 ho).1)
 rw [hj, ho] at h1
 simp only [Bool.not_true, Bool.false_or] at h1
 have h2 := Array.all_eq_true'.1 h1 e he
 rw [hb] at h2
 simpa using h2

def Keep (F : List Nat) (S : World → Prop) (listed : Array Bool) (w : World) : Prop := (∀ f ∈ F, listed.getD f true = false) → S w
def wpAnyL (P : Program) (md : Region.Mode) (ops : Array Oper) (Q : Exit → Act → World → Prop) (F : List Nat) (S : World → Prop) : Nat → Array Bool → Act → World → Prop
 | 0, listed, a, w => Region.ready md ops listed = [] ∧ Q .normal a w
 | fuel + 1, listed, a, w =>
  (Region.ready md ops listed = [] → Q .normal a w) ∧
  ∀ i ∈ Region.ready md ops listed, wpOp P ops Q i (fun a' w' => Keep F S (listed.setIfInBounds i true) w' ∧ wpAnyL P md ops Q F S fuel (listed.setIfInBounds i true) a' w') a w
theorem wpAny_of_keep : ∀ (fuel : Nat) (listed : Array Bool) (a : Act) (w : World), wpAnyL P md ops Q F S fuel listed a w → wpAny P md ops Q fuel listed a w
 | 0, _, _, _, h => h
 | fuel + 1, _, _, _, h => ⟨h.1, fun i hi => wpOp_mono (fun a' w' h' => wpAny_of_keep fuel _ a' w' h'.2) (h.2 i hi)⟩
theorem wpAnyL_first {i : Nat} {oi : Oper} {v : Value} (hi : ops[i]? = some oi) (hsel : ∀ (j : Nat) (o : Oper) cs b, ops[j]? = some o → o.op ≠ .select cs b)
  (hQ : ∀ c a w, Q (.panic c) (a.put oi.dst v) w → Q (.panic c) a w) (hF : ∀ f ∈ F, f ≠ i ∧ waits md ops ops.size f i = true) :
  ∀ (fuel : Nat) (listed : Array Bool) (a : Act) (w : World),
   (∀ j oj, ops[j]? = some oj → j ≠ i → listed.getD j true = false → (∀ e ∈ oj.after, Region.binds md e = true → e.on ≠ i) → oi.apart ops oj = true) →
   Closed md ops listed → i ∈ Region.ready md ops listed → YieldsIf P ops S oi v a → S w →
   wpAnyL P md ops Q F S fuel (listed.setIfInBounds i true) (a.put oi.dst v) w → wpAnyL P md ops Q F S (fuel + 1) listed a w := by
 intro fuel
 induction fuel with
 | zero =>
  intro listed a w _ _ hr hy hS H
  refine ⟨fun h => (by rw [h] at hr; cases hr), fun j hj => ?_⟩
  by_cases hji : j = i
  ·subst hji; exact hy.wpOp hi hS ⟨fun _ => hS, H⟩
  ·have := ready_mono hj hji
   rw [H.1] at this
   cases this
 | succ fuel ih =>
  intro listed a w hfree hc hr hy hS H
  refine ⟨fun h => (by rw [h] at hr; cases hr), fun j hj => ?_⟩
  by_cases hji : j = i
  ·subst hji; exact hy.wpOp hi hS ⟨fun _ => hS, H⟩
  ·have hun0 := (mem_ready.1 hr).1
   have h1 := H.2 j (ready_mono hj hji)
   obtain ⟨hjun, oj, hoj, hall⟩ := mem_ready.1 hj
   have hnot : ∀ e ∈ oj.after, Region.binds md e = true → e.on ≠ i := fun e he hb heq => by
    have h1 := hall e he hb
    rw [heq] at h1
    rw [getD_up h1] at hun0
    cases hun0
   have h2 := wpOp_putIf hoj (hfree j oj hoj hji hjun hnot) (fun cs b => hsel i oi cs b hi) (fun cs b => hsel j oj cs b hoj) hQ hy h1
   have hfree' : ∀ k ok, ops[k]? = some ok → k ≠ i → (listed.setIfInBounds j true).getD k true = false →
     (∀ e ∈ ok.after, Region.binds md e = true → e.on ≠ i) → oi.apart ops ok = true := fun k ok hk hki hun hno => by
    refine hfree k ok hk hki ?_ hno
    by_cases hjk : j = k
    ·subst hjk; exact hjun
    ·rw [getD_set_ne true hjk] at hun; exact hun
   have hc' := hc.step hj
   have hui : (listed.setIfInBounds j true).getD i true = false := by rw [getD_set_ne true hji]; exact hun0
   have hnoF : ∀ f ∈ F, (listed.setIfInBounds j true).getD f true = false := fun f hf => by
    cases hx : (listed.setIfInBounds j true).getD f true
    ·rfl
    ·have := hc'.waits (hF f hf).2 hx
     rw [hui] at this
     cases this
   refine wpOp_mono (fun a' w' h3 => ?_) h2
   have hSw : S w' := h3.2.1 (fun f hf => by
    rw [Array.setIfInBounds_comm _ _ (Ne.symm hji), getD_set_ne true (Ne.symm (hF f hf).1)]
    exact hnoF f hf)
   refine ⟨fun _ => hSw, ih (listed.setIfInBounds j true) a' w' hfree' hc' (ready_mono hr (Ne.symm hji)) h3.1 hSw ?_⟩
   rw [Array.setIfInBounds_comm _ _ hji]
   exact h3.2.2
theorem wpAnyL_pure {i : Nat} {oi : Oper} {v : Value} (hi : ops[i]? = some oi) (hsel : ∀ (j : Nat) (o : Oper) cs b, ops[j]? = some o → o.op ≠ .select cs b)
  (hQ : ∀ c a w, Q (.panic c) (a.put oi.dst v) w → Q (.panic c) a w) (hF : ∀ f ∈ F, f ≠ i) :
  ∀ (fuel : Nat) (listed : Array Bool) (a : Act) (w : World),
   (∀ j oj, ops[j]? = some oj → j ≠ i → listed.getD j true = false → (∀ e ∈ oj.after, Region.binds md e = true → e.on ≠ i) → oi.apart ops oj = true) →
   i ∈ Region.ready md ops listed → YieldsIf P ops (fun _ => True) oi v a → Keep F S listed w →
   wpAnyL P md ops Q F S fuel (listed.setIfInBounds i true) (a.put oi.dst v) w → wpAnyL P md ops Q F S (fuel + 1) listed a w := by
 have keep : ∀ (listed : Array Bool) (w : World), Keep F S (listed.setIfInBounds i true) w ↔ Keep F S listed w := fun listed w => by
  unfold Keep
  constructor
  ·intro h h2
   exact h (fun f hf => by rw [getD_set_ne true (Ne.symm (hF f hf))]; exact h2 f hf)
  ·intro h h2
   exact h (fun f hf => by have := h2 f hf; rw [getD_set_ne true (Ne.symm (hF f hf))] at this; exact this)
 intro fuel
 induction fuel with
 | zero =>
  intro listed a w _ hr hy hk H
  refine ⟨fun h => (by rw [h] at hr; cases hr), fun j hj => ?_⟩
  by_cases hji : j = i
  ·subst hji; exact hy.wpOp hi trivial ⟨(keep _ _).2 hk, H⟩
  ·have := ready_mono hj hji
   rw [H.1] at this
   cases this
 | succ fuel ih =>
  intro listed a w hfree hr hy hk H
  refine ⟨fun h => (by rw [h] at hr; cases hr), fun j hj => ?_⟩
  by_cases hji : j = i
  ·subst hji; exact hy.wpOp hi trivial ⟨(keep _ _).2 hk, H⟩
  ·have hun0 := (mem_ready.1 hr).1
   have h1 := H.2 j (ready_mono hj hji)
   obtain ⟨hjun, oj, hoj, hall⟩ := mem_ready.1 hj
   have hnot : ∀ e ∈ oj.after, Region.binds md e = true → e.on ≠ i := fun e he hb heq => by
    have h1 := hall e he hb
    rw [heq] at h1
    rw [getD_up h1] at hun0
    cases hun0
   have h2 := wpOp_putIf hoj (hfree j oj hoj hji hjun hnot) (fun cs b => hsel i oi cs b hi) (fun cs b => hsel j oj cs b hoj) hQ hy h1
   have hfree' : ∀ k ok, ops[k]? = some ok → k ≠ i → (listed.setIfInBounds j true).getD k true = false →
     (∀ e ∈ ok.after, Region.binds md e = true → e.on ≠ i) → oi.apart ops ok = true := fun k ok hk hki hun hno => by
    refine hfree k ok hk hki ?_ hno
    by_cases hjk : j = k
    ·subst hjk; exact hjun
    ·rw [getD_set_ne true hjk] at hun; exact hun
   refine wpOp_mono (fun a' w' h3 => ?_) h2
   have hk' : Keep F S (listed.setIfInBounds j true) w' := by
    have := h3.2.1
    rw [Array.setIfInBounds_comm _ _ (Ne.symm hji)] at this
    exact (keep _ _).1 this
   refine ⟨hk', ih (listed.setIfInBounds j true) a' w' hfree' (ready_mono hr (Ne.symm hji)) h3.1 hk' ?_⟩
   rw [Array.setIfInBounds_comm _ _ hji]
   exact h3.2.2
theorem lPure {i : Nat} (d : Option Tmp) {v : Value} {fuel : Nat} {listed : Array Bool} {a : Act} {w : World} (hd : (ops[i]?).map (·.dst) = some d) (hs : Region.noSelect ops = true) (hf : Region.free md ops listed i = true)
  (hr : (Region.ready md ops listed).contains i = true) (hF : F.contains i = false) (hQ : ∀ c a w, Q (.panic c) (a.put d v) w → Q (.panic c) a w) (hw : (ops[i]?).map (fun o => Region.wanted o (yielded ops a.tmps)) = some true)
  (hy : ∀ w, (ops[i]?).map (fun o => (execOp a.eval o).run P w) = some (.ok (.value v) w)) (hk : Keep F S listed w) (h : wpAnyL P md ops Q F S fuel (listed.setIfInBounds i true) (a.put d v) w) :
  wpAnyL P md ops Q F S (fuel + 1) listed a w := by
 obtain ⟨o, ho, rfl⟩ := Option.map_eq_some_iff.1 hd
 rw [ho, zqd, zqe] at hw
 have hF' : ∀ f ∈ F, f ≠ i := fun f hfm e => by
  subst e
  rw [List.contains_iff_mem.2 hfm] at hF
  cases hF
 refine wpAnyL_pure ho (Region.noSelect_spec hs) hQ hF' fuel listed a w (Region.free_spec ho hf) (by simpa using hr) (Or.inl ⟨hw, fun w _ => ?_⟩) hk h
 have := hy w
 rw [ho, zqd, zqe] at this
 exact this
theorem lPureNo {i : Nat} (d : Option Tmp) {fuel : Nat} {listed : Array Bool} {a : Act} {w : World} (hd : (ops[i]?).map (·.dst) = some d) (hs : Region.noSelect ops = true) (hf : Region.free md ops listed i = true)
  (hr : (Region.ready md ops listed).contains i = true) (hF : F.contains i = false) (hQ : ∀ c a w, Q (.panic c) (a.put d undef) w → Q (.panic c) a w) (hw : (ops[i]?).map (fun o => Region.wanted o (yielded ops a.tmps)) = some false)
  (hk : Keep F S listed w) (h : wpAnyL P md ops Q F S fuel (listed.setIfInBounds i true) (a.put d undef) w) : wpAnyL P md ops Q F S (fuel + 1) listed a w := by
 obtain ⟨o, ho, rfl⟩ := Option.map_eq_some_iff.1 hd
 rw [ho, zqd, zqe] at hw
 have hF' : ∀ f ∈ F, f ≠ i := fun f hfm e => by
  subst e
  rw [List.contains_iff_mem.2 hfm] at hF
  cases hF
 exact wpAnyL_pure ho (Region.noSelect_spec hs) hQ hF' fuel listed a w (Region.free_spec ho hf) (by simpa using hr) (Or.inr ⟨hw, rfl⟩) hk h
theorem keep_of {listed : Array Bool} {w : World} (h : S w) : Keep F S listed w := fun _ => h
theorem keep_fell {listed : Array Bool} {w : World} (h : F.any (fun f => listed.getD f true) = true) : Keep F S listed w := fun hn => by
 obtain ⟨f, hf, hx⟩ := List.any_eq_true.1 h
 rw [hn f hf] at hx
 cases hx
theorem wp_region_keep {id : Nat} {a : Act} {w : World} (F : List Nat) (hm : P.follows .mixedOrders = true) (hS : S w.drew)
  (h : S w.drew → wpAnyL P .any ops Q F S ops.size (Array.replicate ops.size false) a w.drew) : (Code.region id ops true).wp P Q a w :=
 wp_region_any hm (wpAny_of_keep _ _ _ _ (h hS))
theorem lTake {i : Nat} (d : Option Tmp) {v : Value} {fuel : Nat} {listed : Array Bool} {a : Act} {w : World} (hd : (ops[i]?).map (·.dst) = some d) (hs : Region.noSelect ops = true) (hf : Region.free md ops listed i = true)
  (hr : (Region.ready md ops listed).contains i = true) (hc : closedB md ops listed = true) (hF : (F.all fun f => f != i && waits md ops ops.size f i) = true) (hQ : ∀ c a w, Q (.panic c) (a.put d v) w → Q (.panic c) a w) (hw : (ops[i]?).map (fun o => Region.wanted o (yielded ops a.tmps)) = some true)
  (hy : ∀ w, S w → (ops[i]?).map (fun o => (execOp a.eval o).run P w) = some (.ok (.value v) w)) (hS : S w) (h : wpAnyL P md ops Q F S fuel (listed.setIfInBounds i true) (a.put d v) w) :
  wpAnyL P md ops Q F S (fuel + 1) listed a w := by
 obtain ⟨o, ho, rfl⟩ := Option.map_eq_some_iff.1 hd
 rw [ho, zqd, zqe] at hw
 have hF' : ∀ f ∈ F, f ≠ i ∧ waits md ops ops.size f i = true := fun f hf => by simpa using List.all_eq_true.1 hF f hf
 refine wpAnyL_first ho (Region.noSelect_spec hs) hQ hF' fuel listed a w (Region.free_spec ho hf) (closed_of hc) (by simpa using hr) (Or.inl ⟨hw, fun w hSw => ?_⟩) hS h
 have := hy w hSw
 rw [ho, zqd, zqe] at this
 exact this
def LStep (P : Program) (md : Region.Mode) (ops : Array Oper) (Q : Exit → Act → World → Prop) (F : List Nat) (S : World → Prop) (fuel : Nat) (listed : Array Bool) (a : Act) (w : World) (i : Nat) : Prop :=
 ∀ K' : Act → World → Prop, Shut (∀ a w, S w → (S w → wpAnyL P md ops Q F S fuel (listed.setIfInBounds i true) a w) → K' a w) →
   match ops[i]? with | some o => if Region.wanted o (yielded ops a.tmps) = true then Oper.wp P o a w K' Q else K' (a.put o.dst undef) w | none => K' a w
def LFall (P : Program) (md : Region.Mode) (ops : Array Oper) (Q : Exit → Act → World → Prop) (F : List Nat) (S : World → Prop) (fuel : Nat) (listed : Array Bool) (a : Act) (w : World) (i : Nat) : Prop :=
 ∀ K' : Act → World → Prop, Shut (∀ a w, wpAnyL P md ops Q F S fuel (listed.setIfInBounds i true) a w → K' a w) →
   match ops[i]? with | some o => if Region.wanted o (yielded ops a.tmps) = true then Oper.wp P o a w K' Q else K' (a.put o.dst undef) w | none => K' a w
variable {fuel : Nat} {listed : Array Bool} {a : Act} {w : World}
theorem LStep.op {i : Nat} (h : LStep P md ops Q F S fuel listed a w i) : wpOp P ops Q i (fun a' w' => Keep F S (listed.setIfInBounds i true) w' ∧ wpAnyL P md ops Q F S fuel (listed.setIfInBounds i true) a' w') a w := by
 unfold LStep at h
 cases ho : ops[i]? with
 | none =>
  rw [ho] at h
  have h' := h (fun a' w' => Keep F S (listed.setIfInBounds i true) w' ∧ wpAnyL P md ops Q F S fuel (listed.setIfInBounds i true) a' w') (fun a w hS hW => ⟨fun _ => hS, hW hS⟩)
  unfold wpOp
  rw [ho]
  exact h'
 | some o =>
  rw [ho] at h
  exact wpOp_step ho (fun K' hK => h K' (fun a w hS hW => hK a w ⟨fun _ => hS, hW hS⟩))
theorem LFall.op {i : Nat} (hi : F.any (fun f => (listed.setIfInBounds i true).getD f true) = true) (h : LFall P md ops Q F S fuel listed a w i) : wpOp P ops Q i (fun a' w' => Keep F S (listed.setIfInBounds i true) w' ∧ wpAnyL P md ops Q F S fuel (listed.setIfInBounds i true) a' w') a w := by
 have hk : ∀ w, Keep F S (listed.setIfInBounds i true) w := fun w hn => by
  obtain ⟨f, hf, hx⟩ := List.any_eq_true.1 hi
  rw [hn f hf] at hx
  cases hx
 unfold LFall at h
 cases ho : ops[i]? with
 | none =>
  rw [ho] at h
  have h' := h (fun a' w' => Keep F S (listed.setIfInBounds i true) w' ∧ wpAnyL P md ops Q F S fuel (listed.setIfInBounds i true) a' w') (fun a w hW => ⟨hk w, hW⟩)
  unfold wpOp
  rw [ho]
  exact h'
 | some o =>
  rw [ho] at h
  exact wpOp_step ho (fun K' hK => h K' (fun a w hW => hK a w ⟨hk w, hW⟩))
abbrev LOp (P : Program) (md : Region.Mode) (ops : Array Oper) (Q : Exit → Act → World → Prop) (F : List Nat) (S : World → Prop) (fuel : Nat) (listed : Array Bool) (a : Act) (w : World) (i : Nat) : Prop :=
 wpOp P ops Q i (fun a' w' => Keep F S (listed.setIfInBounds i true) w' ∧ wpAnyL P md ops Q F S fuel (listed.setIfInBounds i true) a' w') a w
theorem lNext {rs : List Nat} (hr : Region.ready md ops listed = rs) (hne : rs ≠ []) (h : ∀ i ∈ rs, LOp P md ops Q F S fuel listed a w i) : wpAnyL P md ops Q F S (fuel + 1) listed a w :=
 ⟨fun h0 => absurd (hr ▸ h0) hne, hr ▸ h⟩
theorem lOne (i : Nat) (hr : Region.ready md ops listed = [i]) (h1 : LOp P md ops Q F S fuel listed a w i) : wpAnyL P md ops Q F S (fuel + 1) listed a w :=
 lNext hr (by simp) (fun k hk => by simp at hk; subst hk; exact h1)
theorem lTwo (i j : Nat) (hr : Region.ready md ops listed = [i, j]) (h1 : LOp P md ops Q F S fuel listed a w i) (h2 : LOp P md ops Q F S fuel listed a w j) : wpAnyL P md ops Q F S (fuel + 1) listed a w :=
 lNext hr (by simp) (fun k hk => by
  simp at hk
  rcases hk with rfl | rfl
  ·exact h1
  ·exact h2)
theorem lThree (i j k : Nat) (hr : Region.ready md ops listed = [i, j, k]) (h1 : LOp P md ops Q F S fuel listed a w i) (h2 : LOp P md ops Q F S fuel listed a w j) (h3 : LOp P md ops Q F S fuel listed a w k) : wpAnyL P md ops Q F S (fuel + 1) listed a w :=
 lNext hr (by simp) (fun m hm => by
  simp at hm
  rcases hm with rfl | rfl | rfl
  ·exact h1
  ·exact h2
  ·exact h3)
theorem lDone (hr : Region.ready md ops listed = []) (h : Q .normal a w) : wpAnyL P md ops Q F S fuel listed a w := by
 cases fuel with
 | zero => exact ⟨hr, h⟩
 | succ n => exact ⟨fun _ => h, by rw [hr]; simp⟩
end
end Go.Tre
namespace Go.Tre
section
variable {P : Program} {ops : Array Oper} {Q : Exit → Act → World → Prop} {md : Region.Mode} {S : World → Prop} {F : List Nat}
variable {fuel : Nat} {listed : Array Bool} {a : Act} {w : World}
def takeB (md : Region.Mode) (ops : Array Oper) (F : List Nat) (listed : Array Bool) (i : Nat) (d : Option Tmp) : Bool :=
 decide ((ops[i]?).map (·.dst) = some d) && (Region.noSelect ops && (Region.free md ops listed i && ((Region.ready md ops listed).contains i && (closedB md ops listed && (F.all fun f => f != i && waits md ops ops.size f i)))))
def plainB (md : Region.Mode) (ops : Array Oper) (F : List Nat) (listed : Array Bool) (i : Nat) (d : Option Tmp) : Bool :=
 decide ((ops[i]?).map (·.dst) = some d) && (Region.noSelect ops && (Region.free md ops listed i && ((Region.ready md ops listed).contains i && !(F.contains i))))
theorem lTk (i : Nat) (d : Option Tmp) {v : Value} (hy : ∀ w, S w → (ops[i]?).map (fun o => (execOp a.eval o).run P w) = some (.ok (.value v) w)) (hS : S w) (h : wpAnyL P md ops Q F S fuel (listed.setIfInBounds i true) (a.put d v) w)
  (hc : takeB md ops F listed i d = true := by kernel_rfl) (hQ : ∀ c a w, Q (.panic c) (a.put d v) w → Q (.panic c) a w := by exact fun _ _ _ h => h) (hw : (ops[i]?).map (fun o => Region.wanted o (yielded ops a.tmps)) = some true := by rfl) : wpAnyL P md ops Q F S (fuel + 1) listed a w := by
 unfold takeB at hc
 simp only [Bool.and_eq_true, decide_eq_true_eq] at hc
 obtain ⟨h1, h2, h3, h4, h5, h6⟩ := hc
 exact lTake d h1 h2 h3 h4 h5 h6 hQ hw hy hS h
theorem lPk (i : Nat) (d : Option Tmp) {v : Value} (hy : ∀ w, (ops[i]?).map (fun o => (execOp a.eval o).run P w) = some (.ok (.value v) w)) (hk : Keep F S listed w) (h : wpAnyL P md ops Q F S fuel (listed.setIfInBounds i true) (a.put d v) w)
  (hc : plainB md ops F listed i d = true := by kernel_rfl) (hQ : ∀ c a w, Q (.panic c) (a.put d v) w → Q (.panic c) a w := by exact fun _ _ _ h => h) (hw : (ops[i]?).map (fun o => Region.wanted o (yielded ops a.tmps)) = some true := by rfl) : wpAnyL P md ops Q F S (fuel + 1) listed a w := by
 unfold plainB at hc
 simp only [Bool.and_eq_true, decide_eq_true_eq, Bool.not_eq_true'] at hc
 obtain ⟨h1, h2, h3, h4, h5⟩ := hc
 exact lPure d h1 h2 h3 h4 h5 hQ hw hy hk h
structure Cond (S : World → Prop) : Type where
theorem Cond.keep {id : Nat} {a : Act} {w : World} (_ : Cond S) (F : List Nat) (hS : S w.drew) (h : S w.drew → wpAnyL P .any ops Q F S ops.size (Array.replicate ops.size false) a w.drew) (hm : P.follows .mixedOrders = true := by kernel_rfl) : (Code.region id ops true).wp P Q a w := wp_region_keep F hm hS h
theorem Cond.is {S : World → Prop} {w : World} (_ : Cond S) (h : S w) : S w := h
end
end Go.Tre
namespace Go.Tre
open Go.RowKit Go.Maps
section
variable {P : Program} (w : World)
theorem run_append_row (t ty e : TypeId) (i : TypeInfo) (z : Value) (size bytes : Nat) (ht : P.underlying t = some (.slice e)) (hi : P.info? e = some i) (hz : i.zero = some z)
  (hsize : i.size = size) (hby : i.bytes = bytes) (hzs : z.cells.size = size) (hsz : 0 < size)
  (v : Value) (n : Nat) (xs : List Value) (hown : w.ownsRow 0 e size v n xs)
  (a : Option Addr) (m c : Nat) (news : List Value) (hr : Row w size a m news) (h1 : ∀ u ∈ news, u.oneCell' = true)
  (h63 : n + m ≤ maxLen) (hbytes : (n + m) * bytes ≤ 140737488355328) :
  ∃ v' w', (Builtin.append_ #[t, t] ty #[v, .slice a m c]).run P w = .ok v' w' ∧ w'.ownsRow 0 e size v' (n + m) (xs ++ news) ∧ w.grownBy w' v.ownBlock ∧ (v'.ownBlock = v.ownBlock ∨ v'.ownBlock = some w.heap.size) := by
 cases a with
 | none =>
  have h0 : news = [] := by
   cases news with
   | nil => rfl
   | cons x r => obtain ⟨_, _, e, _⟩ := hr.at_ 0 x rfl; cases e
  have hm : m = 0 := by
   have := hr.len
   rw [h0, List.length_nil] at this
   rcases Nat.mul_eq_zero.1 this.symm with h | h <;> omega
  subst h0 hm
  refine ⟨v, w, ?_, by simpa using hown, ⟨rfl, rfl, rfl, Nat.le_refl _, fun _ _ _ => rfl⟩, .inl rfl⟩
  rcases hown.2 with ⟨rfl, rfl⟩ | ⟨g, cap, cur, rfl, _, _, hnc, _⟩
  ·simp [Builtin.append_, run_underlying ht, sizeOf, typeInfo, hi, Builtin.lenOf, Builtin.firstCells]
  ·simp [Builtin.append_, run_underlying ht, sizeOf, typeInfo, hi, Builtin.lenOf, Builtin.firstCells, hnc, storeCells]
 | some ad =>
  obtain ⟨v', w', hrun, h2, h3, _, h5⟩ := run_append_own_at (P := P) w 0 t ty e i z size bytes ht hi hz hsize hby hzs hsz v n xs hown ad m c news hr.len (fun j u hu => by
   obtain ⟨b, off, e', hc⟩ := hr.at_ j u hu
   cases e'
   have : (⟨b, off, none⟩ : Addr).add j = ⟨b, off + j, none⟩ := by unfold Addr.add; by_cases h : j = 0 <;> simp [h]
   rw [this]; exact hc) h1 h63 hbytes (Nat.zero_le _)
  exact ⟨v', w', hrun, h2, h3, h5⟩
theorem wp_append_row {o : Oper} {a : Act} {K : Act → World → Prop} {Q : Exit → Act → World → Prop} (s x : Operand) (t : TypeId)
  (ho : o.op = .call { callee := .builtin .append, args := #[s, x], argTypes := #[t, t] })
  (e : TypeId) (i : TypeInfo) (z : Value) (size bytes : Nat) (ht : P.underlying t = some (.slice e)) (hi : P.info? e = some i) (hz : i.zero = some z)
  (hsize : i.size = size) (hby : i.bytes = bytes) (hzs : z.cells.size = size) (hsz : 0 < size)
  (v : Value) (n : Nat) (xs : List Value) (hs : a.eval s = v) (hown : w.ownsRow 0 e size v n xs)
  (ad : Option Addr) (m c : Nat) (news : List Value) (hx : a.eval x = .slice ad m c) (hr : Row w size ad m news) (h1 : ∀ u ∈ news, u.oneCell' = true)
  (h63 : n + m ≤ maxLen) (hbytes : (n + m) * bytes ≤ 140737488355328)
  (h : ∀ v' w', w'.ownsRow 0 e size v' (n + m) (xs ++ news) → w.grownBy w' v.ownBlock → (v'.ownBlock = v.ownBlock ∨ v'.ownBlock = some w.heap.size) → K (a.put o.dst v') w') : o.wp P a w K Q := by
 obtain ⟨v', w', hr, h2, h3, h4⟩ := run_append_row (P := P) w t o.type e i z size bytes ht hi hz hsize hby hzs hsz v n xs hown ad m c news hr h1 h63 hbytes
 unfold Oper.wp execOp
 simp only [ho, resolve, invoke, builtin, Sem.run_bind, Sem.run_pure, Result.andThen_ok, List.map_toArray, List.map_cons, List.map_nil, hs, hx, hr]
 exact h v' w' h2 h3 h4
theorem wpList_append_row {ops : Array Oper} {rest : List Oper} {o : Oper} {a : Act} {Q : Exit → Act → World → Prop} (hgd : o.guard = none) (s x : Operand) (t : TypeId)
  (ho : o.op = .call { callee := .builtin .append, args := #[s, x], argTypes := #[t, t] })
  (e : TypeId) (i : TypeInfo) (z : Value) (size bytes : Nat) (ht : P.underlying t = some (.slice e)) (hi : P.info? e = some i) (hz : i.zero = some z)
  (hsize : i.size = size) (hby : i.bytes = bytes) (hzs : z.cells.size = size) (hsz : 0 < size)
  (v : Value) (n : Nat) (xs : List Value) (hs : a.eval s = v) (hown : w.ownsRow 0 e size v n xs)
  (ad : Option Addr) (m c : Nat) (news : List Value) (hx : a.eval x = .slice ad m c) (hr : Row w size ad m news) (h1 : ∀ u ∈ news, u.oneCell' = true)
  (h63 : n + m ≤ maxLen) (hbytes : (n + m) * bytes ≤ 140737488355328)
  (h : ∀ v' w', w'.ownsRow 0 e size v' (n + m) (xs ++ news) → w.grownBy w' v.ownBlock → (v'.ownBlock = v.ownBlock ∨ v'.ownBlock = some w.heap.size) → wpList P ops Q rest (a.put o.dst v') w') :
  wpList P ops Q (o :: rest) a w := by
 refine wpList_plain hgd fun K hK => ?_
 exact wp_append_row w s x t ho e i z size bytes ht hi hz hsize hby hzs hsz v n xs hs hown ad m c news hx hr h1 h63 hbytes (fun v' w' h2 h3 h4 => hK _ _ (h v' w' h2 h3 h4))
end
end Go.Tre
