/- What is trimmed is the same type, and trimmed again it is itself: plain. Layer 7, plain: a type's nodes in a table; what its names are bound to; its graph. Steps through a drawn region, by hand: the slot that an operation writes is typed. Drawn regions: what is read is read first; behind an operation that waits for all reads, the condition on the world may fall. The lexer's walks: rest, fail. -/
import Derived.Test.YtljmcmdabdlldaaGreatDoorB05
import Derived.Test.YtljmcmdabdlldaaGreatDoorB01
import Derived.Deep.RegionHeld3
import Derived.Test.YtljmcmdabdlldaaGreatDoorB00
import Derived.Deep.DeepCutAuto
import Derived.Deep.RegionWith
set_option linter.unusedVariables false
namespace Go.Tre
theorem sum_mem (f : Nat → Nat) (n : Nat) : ∀ L : List Nat, L.Nodup → (∀ a ∈ L, a < n) → (L.map f).sum = ((List.range n).map fun i => if i ∈ L then f i else 0).sum
 | [], _, _ => by
  have := sum_const (α := Nat) 0 (List.range n)
  simp only [List.map_nil, List.sum_nil, List.not_mem_nil, if_false]
  omega
 | a :: L, hn, hl => by
  have h1 := List.nodup_cons.1 hn
  have ih := sum_mem f n L h1.2 (fun b hb => hl b (by simp [hb]))
  have := sum_upd (fun i => if i ∈ a :: L then f i else 0) (fun i => if i ∈ L then f i else 0) a (List.range n) List.nodup_range (List.mem_range.2 (hl a (by simp))) (fun q hq => by
   have : (q ∈ a :: L) = (q ∈ L) := by simp [hq]
   simp only [this])
  simp only [List.mem_cons, true_or, if_true, if_neg h1.1, Nat.add_zero] at this
  simp only [List.map_cons, List.sum_cons, List.mem_cons]
  omega
theorem sum_le_all (f : Nat → Nat) {n : Nat} {L : List Nat} (hn : L.Nodup) (hl : ∀ a ∈ L, a < n) : (L.map f).sum ≤ ((List.range n).map f).sum := by
 rw [sum_mem f n L hn hl]
 generalize List.range n = R
 induction R with
 | nil => simp
 | cons x R ih =>
  simp only [List.map_cons, List.sum_cons]
  split <;> omega
theorem nodup_len {n : Nat} {L : List Nat} (hn : L.Nodup) (hl : ∀ a ∈ L, a < n) : L.length ≤ n := by
 have h := sum_le_all (fun _ => 1) hn hl
 rw [sum_const, sum_const, List.length_range] at h
 omega
theorem Graph.weight_range (g : Tre.Graph) : g.weight = ((List.range g.ns.length).map fun i => (g.nd i).weight).sum := by
 unfold Graph.weight
 congr 1
 apply List.ext_getElem
 ·simp
 ·intro i h1 h2
  have hi : i < g.ns.length := by simpa using h1
  simp [Graph.nd_eq hi]
theorem trimNode_weight (L : List Nat) (n : Tre.Node) : (trimNode L n).weight = n.weight := by unfold Node.weight trimNode; simp
theorem Graph.trim_weight (g : Tre.Graph) : g.trim.weight ≤ g.weight := by
 have e : g.trim.weight = (g.reachL.map fun i => (g.nd i).weight).sum := by
  unfold Graph.weight Graph.trim
  simp only [List.map_map]
  congr 1
  apply List.map_congr_left
  intro i _
  exact trimNode_weight _ _
 rw [e, g.weight_range]
 exact sum_le_all _ g.reach_nodup g.reach_lt
theorem trim_len (g : Tre.Graph) : g.trim.ns.length = g.reachL.length := by simp [Graph.trim]
theorem reach_len_le (g : Tre.Graph) : g.reachL.length ≤ g.ns.length := nodup_len g.reach_nodup g.reach_lt
theorem trim_nd {g : Tre.Graph} {a : Nat} (ha : a ∈ g.reachL) : g.trim.nd (g.reachL.idxOf a) = trimNode g.reachL (g.nd a) := by
 have hl := List.idxOf_lt_length_of_mem ha
 rw [Graph.nd_eq (by rw [trim_len]; exact hl)]
 simp only [Graph.trim, List.getElem_map, List.getElem_idxOf]
theorem trim_kids {g : Tre.Graph} {a : Nat} (ha : a ∈ g.reachL) : g.trim.kids (g.reachL.idxOf a) = (g.kids a).map g.reachL.idxOf := by
 unfold Graph.kids
 rw [trim_nd ha]
 simp only [trimNode, List.map_map]
 apply List.map_congr_left
 intro x _
 simp [placeOf]
theorem mem_root {g : Tre.Graph} (h : g.checkC = 0) : g.root.toNat ∈ g.reachL := List.mem_of_getElem? (Graph.reach_head h)
theorem idx_root {g : Tre.Graph} (h : g.checkC = 0) : g.reachL.idxOf g.root.toNat = 0 := by
 have h1 := Graph.reach_head h
 have hl := (List.getElem?_eq_some_iff.1 h1).1
 have := idxOf_nodup g.reach_nodup hl
 rw [List.getElem?_eq_getElem hl] at h1
 rwa [Option.some.inj h1] at this
theorem mayB_trim {g : Tre.Graph} {a : Nat} (ha : a ∈ g.reachL) : mayB (trimNode g.reachL (g.nd a)) g.reachL.length = true := by
 have og := Graph.reach_ok ha
 have h := og.may a (g.reach_lt a ha)
 have hk := g.reach_kids ha
 unfold mayB at *
 simp only [Bool.and_eq_true, Bool.not_eq_true', List.any_eq_false] at *
 refine ⟨fun x hx => ?_, ?_⟩
 ·simp only [trimNode, List.mem_map] at hx
  obtain ⟨y, hy, rfl⟩ := hx
  have hm : y.toNat ∈ g.reachL := hk _ (by unfold Graph.kids; exact List.mem_map.2 ⟨y, hy, rfl⟩)
  have := List.idxOf_lt_length_of_mem hm
  unfold outside placeOf
  simp
  omega
 ·have := h.2
  simpa [trimNode] using this
theorem trim_ok {g : Tre.Graph} (h : g.checkC = 0) : g.trim.checkC = 0 := by
 have og := Graph.ok_of h
 have hr := mem_root h
 have hl := List.idxOf_lt_length_of_mem hr
 refine check_mk ?_ (Int.le_refl 0) ?_ (fun n hn => ?_)
 ·rw [trim_len]; have := reach_len_le g; have := og.len; omega
 ·rw [trim_len]; show (0 : Int) < _; omega
 ·rw [trim_len]
  simp only [Graph.trim, List.mem_map] at hn
  obtain ⟨a, ha, rfl⟩ := hn
  exact mayB_trim ha
theorem idxOf_inj {L : List Nat} {a b : Nat} (ha : a ∈ L) (hb : b ∈ L) (h : L.idxOf a = L.idxOf b) : a = b := by
 have h1 := List.getElem_idxOf (List.idxOf_lt_length_of_mem ha)
 have h2 := List.getElem_idxOf (List.idxOf_lt_length_of_mem hb)
 rw [← h1, ← h2]
 congr 1
theorem mem_map_idx {L out : List Nat} (ho : ∀ a ∈ out, a ∈ L) {a : Nat} (ha : a ∈ L) : L.idxOf a ∈ out.map L.idxOf ↔ a ∈ out := by
 rw [List.mem_map]
 constructor
 ·rintro ⟨b, hb, e⟩
  rw [← idxOf_inj (ho b hb) ha e]; exact hb
 ·intro h; exact ⟨a, h, rfl⟩
theorem trim_dfs {g : Tre.Graph} : ∀ (k : Nat) (s out : List Nat), g.budget out + s.length ≤ k → (∀ a ∈ s, a ∈ g.reachL) → (∀ a ∈ out, a ∈ g.reachL) →
  g.trim.dfs (s.map g.reachL.idxOf) (out.map g.reachL.idxOf) = (g.dfs s out).map g.reachL.idxOf := by
 intro k
 induction k with
 | zero =>
  intro s out hk _ _
  have : s = [] := List.length_eq_zero_iff.1 (by omega)
  subst this
  rw [List.map_nil, Graph.dfs_nil, Graph.dfs_nil]
 | succ k ih =>
  intro s out hk hs ho
  cases s with
  | nil => rw [List.map_nil, Graph.dfs_nil, Graph.dfs_nil]
  | cons a s =>
   have ha := hs a (by simp)
   rw [List.map_cons]
   by_cases hm : a ∈ out
   ·rw [Graph.dfs_skip ((mem_map_idx ho ha).2 hm), Graph.dfs_skip hm]
    exact ih s out (by simp at hk; omega) (fun b hb => hs b (by simp [hb])) ho
   ·have hal := g.reach_lt a ha
    have hb := Graph.budget_step hal hm
    rw [Graph.dfs_take (fun e => hm ((mem_map_idx ho ha).1 e)) (by rw [trim_len]; exact List.idxOf_lt_length_of_mem ha), Graph.dfs_take hm hal, trim_kids ha]
    have := ih (g.kids a ++ s) (out ++ [a]) (by simp only [List.length_append, List.length_cons, g.kids_len] at hk ⊢; omega)
     (fun b hb' => by
      rcases List.mem_append.1 hb' with h | h
      ·exact g.reach_kids ha b h
      ·exact hs b (by simp [h]))
     (fun b hb' => by
      rcases List.mem_append.1 hb' with h | h
      ·exact ho b h
      ·simp at h; subst h; exact ha)
    rw [List.map_append, List.map_append] at this
    exact this
theorem trim_reach {g : Tre.Graph} (h : g.checkC = 0) : g.trim.reachL = List.range g.reachL.length := by
 have e1 : g.reachL.map g.reachL.idxOf = List.range g.reachL.length := by
  apply List.ext_getElem
  ·simp
  ·intro i h1 h2
   have hi : i < g.reachL.length := by simpa using h1
   rw [List.getElem_map, List.getElem_range]
   exact idxOf_nodup g.reach_nodup hi
 have e2 : g.reachL = g.dfs [g.root.toNat] [] := by
  show (if g.checkC = 0 then _ else _) = _
  rw [if_pos h]
 have e3 : g.trim.reachL = g.trim.dfs [0] [] := by
  show (if g.trim.checkC = 0 then _ else _) = _
  rw [if_pos (trim_ok h)]; rfl
 have := trim_dfs (g := g) _ [g.root.toNat] [] (Nat.le_refl _) (fun a ha => by simp at ha; rw [ha]; exact mem_root h) (by simp)
 rw [List.map_cons, List.map_nil, idx_root h] at this
 rw [e3, this, ← e2, e1]
theorem range_idx {m a : Nat} (h : a < m) : (List.range m).idxOf a = a := by
 have := idxOf_nodup (L := List.range m) List.nodup_range (k := a) (by simpa using h)
 simpa using this
theorem trim_trim {g : Tre.Graph} (h : g.checkC = 0) : g.trim.trim = g.trim := by
 have og := Graph.ok_of (trim_ok h)
 have hr := trim_reach h
 have hl := trim_len g
 have e : g.trim.trim.ns = g.trim.ns := by
  show g.trim.reachL.map _ = _
  rw [hr]
  apply List.ext_getElem
  ·simp [hl]
  ·intro i h1 h2
   have hi : i < g.reachL.length := by simpa using h1
   rw [List.getElem_map, List.getElem_range, ← Graph.nd_eq h2]
   have ok := og.kids_eq h2
   generalize hn : g.trim.nd i = n at *
   have ea : n.args.map (placeOf (List.range g.reachL.length)) = n.args := by
    conv => rhs; rw [← List.map_id n.args]
    apply List.map_congr_left
    intro x hx
    rw [ok] at hx
    obtain ⟨y, hy, rfl⟩ := List.mem_map.1 hx
    have hlt := og.kids_lt h2 y hy
    rw [hl] at hlt
    simp [placeOf, range_idx hlt]
   show ({ n with args := n.args.map (placeOf (List.range g.reachL.length)) } : Tre.Node) = n
   rw [ea]
 show (⟨g.trim.trim.ns, 0⟩ : Tre.Graph) = ⟨g.trim.ns, 0⟩
 rw [e]
end Go.Tre
namespace Go.Tre
structure Ent where
 kind : Nat
 s : List UInt8
 args : List Nat
 labels : List (List UInt8)
 opn : Bool
mutual
def Ty.count : Ty → Nat
 | .mk _ _ args _ _ => 1 + counts args
def counts : List Ty → Nat
 | [] => 0
 | t :: r => t.count + counts r
end
def idxs : List Ty → Nat → List Nat
 | [], _ => []
 | t :: r, b => b :: idxs r (b + t.count)
mutual
def flat : Ty → Nat → List Ent
 | .mk k s args labels o, b => ⟨k, s, idxs args (b + 1), labels, o⟩ :: flats args (b + 1)
def flats : List Ty → Nat → List Ent
 | [], _ => []
 | t :: r, b => flat t b ++ flats r (b + t.count)
end
mutual
theorem flat_len : ∀ (t : Ty) (b : Nat), (flat t b).length = t.count
 | .mk k s args labels o, b => by unfold flat Ty.count; rw [List.length_cons, flats_len args (b + 1)]; omega
theorem flats_len : ∀ (l : List Ty) (b : Nat), (flats l b).length = counts l
 | [], b => by unfold flats counts; rfl
 | t :: r, b => by unfold flats counts; rw [List.length_append, flat_len t b, flats_len r _]
end
theorem idxs_len : ∀ (l : List Ty) (b : Nat), (idxs l b).length = l.length
 | [], _ => rfl
 | t :: r, b => by unfold idxs; simp [idxs_len r]
abbrev Bd := (ByteArray → Option Nat) × Nat
def stepB (e : Ent) (i : Nat) (bd : Bd) : Option Bd := if e.kind = 4 then (if (bd.1 ⟨e.s.toArray⟩).isSome then none else some (upd bd.1 ⟨e.s.toArray⟩ i, bd.2 + 1)) else some bd
def bind1 (T : List Ent) : Nat → Nat → Bd → Option Bd
 | 0, _, _ => none
 | k + 1, i, bd => (T[i]?).bind fun e => (stepB e i bd).bind fun bd => e.args.foldlM (fun bd j => bind1 T k j bd) bd
def follow1 (T : List Ent) (bd : ByteArray → Option Nat) : Nat → Nat → Option Nat
 | 0, _ => none
 | k + 1, i => (T[i]?).bind fun e =>
  if e.kind = 4 then (e.args[0]?).bind (follow1 T bd k)
  else if e.kind = 1 then (match bd ⟨e.s.toArray⟩ with | some b => follow1 T bd k b | none => some i) else some i
structure LSt where
 vars : ByteArray → Option Nat
 made : Nat → Option Nat
 ns : List Tre.Node
def nodeOf (e : Ent) : Tre.Node := if e.kind = 2 then ⟨2, ⟨e.s.toArray⟩, [], [], false⟩ else ⟨3, ByteArray.empty, [], byteStrs e.labels, e.opn⟩
def kidsF (f : Nat → LSt → Option (Nat × LSt)) : List Nat → List Nat → LSt → Option (List Nat × LSt)
 | [], l, st => some (l, st)
 | j :: r, l, st => (f j st).bind fun p => kidsF f r (l ++ [p.1]) p.2
def varNode : Tre.Node := ⟨1, ByteArray.empty, [], [], false⟩
def node1 (T : List Ent) (bd : Bd) : Nat → Nat → LSt → Option (Nat × LSt)
 | 0, _, _ => none
 | k + 1, i, st => (follow1 T bd.1 (2 * bd.2 + 2) i).bind fun x => (T[x]?).bind fun e =>
  if e.kind = 1 then some (match st.vars ⟨e.s.toArray⟩ with | some a => (a, st) | none => (st.ns.length, ⟨upd st.vars ⟨e.s.toArray⟩ st.ns.length, st.made, st.ns ++ [varNode]⟩))
  else match st.made x with
   | some a => some (a, st)
   | none => (kidsF (node1 T bd k) e.args [] ⟨st.vars, upd st.made x st.ns.length, st.ns ++ [nodeOf e]⟩).map fun p =>
    (st.ns.length, ⟨p.2.vars, p.2.made, p.2.ns.set st.ns.length { nodeOf e with args := p.1.map fun a : Nat => (a : Int) }⟩)
def loadT (T : List Ent) (k i : Nat) : Option Tre.Graph :=
 (bind1 T k i (fun _ => none, 0)).bind fun bd =>
  (node1 T bd k i ⟨fun _ => none, fun _ => none, []⟩).map fun p => ⟨p.2.ns, (p.1 : Int)⟩
structure SmallT (T : List Ent) : Prop where
 s : ∀ (i : Nat) (e : Ent), T[i]? = some e → e.s.length ≤ 4194304
 args : ∀ (i : Nat) (e : Ent), T[i]? = some e → e.args.length ≤ 4194304
 labs : ∀ (i : Nat) (e : Ent), T[i]? = some e → e.labels.length ≤ 4194304
end Go.Tre
namespace Go.Tre
section
variable {P : Program} {ops : Array Oper} {Q : Exit → Act → World → Prop} {md : Region.Mode} {S : World → Prop}
theorem hTake {i : Nat} (d : Option Tmp) {v : Value} {fuel : Nat} {listed : Array Bool} {a : Act} {w : World} (hd : (ops[i]?).map (·.dst) = some d) (hs : Region.noSelect ops = true) (hf : Region.free md ops listed i = true)
  (hr : (Region.ready md ops listed).contains i = true) (hQ : ∀ c a w, Q (.panic c) (a.put d v) w → Q (.panic c) a w) (hw : (ops[i]?).map (fun o => Region.wanted o (yielded ops a.tmps)) = some true)
  (hy : ∀ w, S w → (ops[i]?).map (fun o => (execOp a.eval o).run P w) = some (.ok (.value v) w)) (hS : S w) (h : wpAnyH P md ops Q S fuel (listed.setIfInBounds i true) (a.put d v) w) :
  wpAnyH P md ops Q S (fuel + 1) listed a w := by
 obtain ⟨o, ho, rfl⟩ := Option.map_eq_some_iff.1 hd
 rw [ho, zqd, zqe] at hw
 refine wpAnyH_take ho hs hf hr hQ (Or.inl ⟨hw, fun w hSw => ?_⟩) hS h
 have := hy w hSw
 rw [ho, zqd, zqe] at this
 exact this
theorem hTakeNo {i : Nat} (d : Option Tmp) {fuel : Nat} {listed : Array Bool} {a : Act} {w : World} (hd : (ops[i]?).map (·.dst) = some d) (hs : Region.noSelect ops = true) (hf : Region.free md ops listed i = true)
  (hr : (Region.ready md ops listed).contains i = true) (hQ : ∀ c a w, Q (.panic c) (a.put d undef) w → Q (.panic c) a w) (hw : (ops[i]?).map (fun o => Region.wanted o (yielded ops a.tmps)) = some false)
  (hS : S w) (h : wpAnyH P md ops Q S fuel (listed.setIfInBounds i true) (a.put d undef) w) : wpAnyH P md ops Q S (fuel + 1) listed a w := by
 obtain ⟨o, ho, rfl⟩ := Option.map_eq_some_iff.1 hd
 rw [ho, zqd, zqe] at hw
 exact wpAnyH_take ho hs hf hr hQ (Or.inr ⟨hw, rfl⟩) hS h
theorem hOne (i : Nat) {fuel : Nat} {listed : Array Bool} {a : Act} {w : World} (hr : Region.ready md ops listed = [i])
  (h : ∀ K' : Act → World → Prop, Shut (∀ a w, S w → (S w → wpAnyH P md ops Q S fuel (listed.setIfInBounds i true) a w) → K' a w) →
   match ops[i]? with | some o => if Region.wanted o (yielded ops a.tmps) = true then Oper.wp P o a w K' Q else K' (a.put o.dst undef) w | none => K' a w) : wpAnyH P md ops Q S (fuel + 1) listed a w := by
 refine wpAnyH_ready hr (by simp) ?_
 cases ho : ops[i]? with
 | none =>
  rw [ho] at h
  intro j hj
  rw [List.mem_singleton.1 hj]
  have h' := h (fun a' w' => S w' ∧ wpAnyH P md ops Q S fuel (listed.setIfInBounds i true) a' w') (fun a w hS hW => ⟨hS, hW hS⟩)
  unfold wpOp
  rw [ho]
  exact h'
 | some o =>
  rw [ho] at h
  exact AllReadyH.cons ho h AllReadyH.nil
end
end Go.Tre
namespace Go.Tre
section
variable {P : Program} {ops : Array Oper} {Q : Exit → Act → World → Prop} {md : Region.Mode} {S : World → Prop} {F : List Nat}
def waits (md : Region.Mode) (ops : Array Oper) : Nat → Nat → Nat → Bool
 | 0, _, _ => false
 | n + 1, f, i => match ops[f]? with
  | some o => o.after.any fun e => Region.binds md e && (e.on == i || waits md ops n e.on i)
  | none => false
def Closed (md : Region.Mode) (ops : Array Oper) (listed : Array Bool) : Prop :=
 ∀ (j : Nat) (oj : Oper), ops[j]? = some oj → listed.getD j true = true → ∀ e ∈ oj.after, Region.binds md e = true → listed.getD e.on false = true
theorem getD_up {listed : Array Bool} {i : Nat} (h : listed.getD i false = true) : listed.getD i true = true := by
 rw [Array.getD_eq_getD_getElem?] at h ⊢
 cases hx : listed[i]? with
 | none => rfl
 | some x => rw [hx] at h; exact h
theorem Closed.waits {listed : Array Bool} (h : Closed md ops listed) : ∀ {n f i : Nat}, waits md ops n f i = true → listed.getD f true = true → listed.getD i true = true := by
 intro n
 induction n with
 | zero => intro f i hw; cases hw
 | succ n ih =>
  intro f i hw hf
  unfold Tre.waits at hw
  cases ho : ops[f]? with
  | none => rw [ho] at hw; cases hw
  | some o =>
   rw [ho] at hw
   obtain ⟨e, he, hb⟩ := Array.any_eq_true'.1 hw
   simp only [Bool.and_eq_true, Bool.or_eq_true, beq_iff_eq] at hb
   have h1 := h f o ho hf e he hb.1
   rcases hb.2 with rfl | h2
   ·exact getD_up h1
   ·exact ih h2 (getD_up h1)
theorem Closed.step {listed : Array Bool} (h : Closed md ops listed) {i : Nat} (hr : i ∈ Region.ready md ops listed) : Closed md ops (listed.setIfInBounds i true) := by
 intro j oj ho hj e he hb
 refine getD_set_true ?_
 by_cases hji : j = i
 ·subst hji
  obtain ⟨_, o, ho', hall⟩ := mem_ready.1 hr
  rw [ho] at ho'
  cases ho'
  exact hall e he hb
 ·rw [getD_set_ne true (Ne.symm hji)] at hj
  exact h j oj ho hj e he hb
def closedB (md : Region.Mode) (ops : Array Oper) (listed : Array Bool) : Bool :=
 (List.range ops.size).all fun j => !listed.getD j true || match ops[j]? with
  | some oj => oj.after.all fun e => !Region.binds md e || listed.getD e.on false
  | none => true
theorem closed_of {listed : Array Bool} (h : closedB md ops listed = true) : Closed md ops listed := by
 intro j oj ho hj e he hb
 unfold closedB at h
 rw [List.all_eq_true] at h
 have h1 := h j (List.mem_range.2 (Array.getElem?_eq_some_iff.1 ho).1)
 rw [hj, ho] at h1
 simp only [Bool.not_true, Bool.false_or] at h1
 have h2 := Array.all_eq_true'.1 h1 e he
 rw [hb] at h2
 simpa using h2

def Keep (F : List Nat) (S : World → Prop) (listed : Array Bool) (w : World) : Prop := (∀ f ∈ F, listed.getD f true = false) → S w
def wpAnyL (P : Program) (md : Region.Mode) (ops : Array Oper) (Q : Exit → Act → World → Prop) (F : List Nat) (S : World → Prop) : Nat → Array Bool → Act → World → Prop
 | 0, listed, a, w => Region.ready md ops listed = [] ∧ Q .normal a w
 | fuel + 1, listed, a, w =>
  (Region.ready md ops listed = [] → Q .normal a w) ∧
  ∀ i ∈ Region.ready md ops listed, wpOp P ops Q i (fun a' w' => Keep F S (listed.setIfInBounds i true) w' ∧ wpAnyL P md ops Q F S fuel (listed.setIfInBounds i true) a' w') a w
theorem wpAny_of_keep : ∀ (fuel : Nat) (listed : Array Bool) (a : Act) (w : World), wpAnyL P md ops Q F S fuel listed a w → wpAny P md ops Q fuel listed a w
 | 0, _, _, _, h => h
 | fuel + 1, _, _, _, h => ⟨h.1, fun i hi => wpOp_mono (fun a' w' h' => wpAny_of_keep fuel _ a' w' h'.2) (h.2 i hi)⟩
theorem wpAnyL_first {i : Nat} {oi : Oper} {v : Value} (hi : ops[i]? = some oi) (hsel : ∀ (j : Nat) (o : Oper) cs b, ops[j]? = some o → o.op ≠ .select cs b)
  (hQ : ∀ c a w, Q (.panic c) (a.put oi.dst v) w → Q (.panic c) a w) (hF : ∀ f ∈ F, f ≠ i ∧ waits md ops ops.size f i = true) :
  ∀ (fuel : Nat) (listed : Array Bool) (a : Act) (w : World),
   (∀ j oj, ops[j]? = some oj → j ≠ i → listed.getD j true = false → (∀ e ∈ oj.after, Region.binds md e = true → e.on ≠ i) → oi.apart ops oj = true) →
   Closed md ops listed → i ∈ Region.ready md ops listed → YieldsIf P ops S oi v a → S w →
   wpAnyL P md ops Q F S fuel (listed.setIfInBounds i true) (a.put oi.dst v) w → wpAnyL P md ops Q F S (fuel + 1) listed a w := by
 intro fuel
 induction fuel with
 | zero =>
  intro listed a w _ _ hr hy hS H
  refine ⟨fun h => (by rw [h] at hr; cases hr), fun j hj => ?_⟩
  by_cases hji : j = i
  ·subst hji; exact hy.wpOp hi hS ⟨fun _ => hS, H⟩
  ·have := ready_mono hj hji
   rw [H.1] at this
   cases this
 | succ fuel ih =>
  intro listed a w hfree hc hr hy hS H
  refine ⟨fun h => (by rw [h] at hr; cases hr), fun j hj => ?_⟩
  by_cases hji : j = i
  ·subst hji; exact hy.wpOp hi hS ⟨fun _ => hS, H⟩
  ·have hun0 := (mem_ready.1 hr).1
   have h1 := H.2 j (ready_mono hj hji)
   obtain ⟨hjun, oj, hoj, hall⟩ := mem_ready.1 hj
   have hnot : ∀ e ∈ oj.after, Region.binds md e = true → e.on ≠ i := fun e he hb heq => by
    have h1 := hall e he hb
    rw [heq] at h1
    rw [getD_up h1] at hun0
    cases hun0
   have h2 := wpOp_putIf hoj (hfree j oj hoj hji hjun hnot) (fun cs b => hsel i oi cs b hi) (fun cs b => hsel j oj cs b hoj) hQ hy h1
   have hfree' : ∀ k ok, ops[k]? = some ok → k ≠ i → (listed.setIfInBounds j true).getD k true = false →
     (∀ e ∈ ok.after, Region.binds md e = true → e.on ≠ i) → oi.apart ops ok = true := fun k ok hk hki hun hno => by
    refine hfree k ok hk hki ?_ hno
    by_cases hjk : j = k
    ·subst hjk; exact hjun
    ·rw [getD_set_ne true hjk] at hun; exact hun
   have hc' := hc.step hj
   have hui : (listed.setIfInBounds j true).getD i true = false := by rw [getD_set_ne true hji]; exact hun0
   have hnoF : ∀ f ∈ F, (listed.setIfInBounds j true).getD f true = false := fun f hf => by
    cases hx : (listed.setIfInBounds j true).getD f true
    ·rfl
    ·have := hc'.waits (hF f hf).2 hx
     rw [hui] at this
     cases this
   refine wpOp_mono (fun a' w' h3 => ?_) h2
   have hSw : S w' := h3.2.1 (fun f hf => by
    rw [Array.setIfInBounds_comm _ _ (Ne.symm hji), getD_set_ne true (Ne.symm (hF f hf).1)]
    exact hnoF f hf)
   refine ⟨fun _ => hSw, ih (listed.setIfInBounds j true) a' w' hfree' hc' (ready_mono hr (Ne.symm hji)) h3.1 hSw ?_⟩
   rw [Array.setIfInBounds_comm _ _ hji]
   exact h3.2.2
theorem wpAnyL_pure {i : Nat} {oi : Oper} {v : Value} (hi : ops[i]? = some oi) (hsel : ∀ (j : Nat) (o : Oper) cs b, ops[j]? = some o → o.op ≠ .select cs b)
  (hQ : ∀ c a w, Q (.panic c) (a.put oi.dst v) w → Q (.panic c) a w) (hF : ∀ f ∈ F, f ≠ i) :
  ∀ (fuel : Nat) (listed : Array Bool) (a : Act) (w : World),
   (∀ j oj, ops[j]? = some oj → j ≠ i → listed.getD j true = false → (∀ e ∈ oj.after, Region.binds md e = true → e.on ≠ i) → oi.apart ops oj = true) →
   i ∈ Region.ready md ops listed → YieldsIf P ops (fun _ => True) oi v a → Keep F S listed w →
   wpAnyL P md ops Q F S fuel (listed.setIfInBounds i true) (a.put oi.dst v) w → wpAnyL P md ops Q F S (fuel + 1) listed a w := by
 have keep : ∀ (listed : Array Bool) (w : World), Keep F S (listed.setIfInBounds i true) w ↔ Keep F S listed w := fun listed w => by
  unfold Keep
  constructor
  ·intro h h2
   exact h (fun f hf => by rw [getD_set_ne true (Ne.symm (hF f hf))]; exact h2 f hf)
  ·intro h h2
   exact h (fun f hf => by have := h2 f hf; rw [getD_set_ne true (Ne.symm (hF f hf))] at this; exact this)
 intro fuel
 induction fuel with
 | zero =>
  intro listed a w _ hr hy hk H
  refine ⟨fun h => (by rw [h] at hr; cases hr), fun j hj => ?_⟩
  by_cases hji : j = i
  ·subst hji; exact hy.wpOp hi trivial ⟨(keep _ _).2 hk, H⟩
  ·have := ready_mono hj hji
   rw [H.1] at this
   cases this
 | succ fuel ih =>
  intro listed a w hfree hr hy hk H
  refine ⟨fun h => (by rw [h] at hr; cases hr), fun j hj => ?_⟩
  by_cases hji : j = i
  ·subst hji; exact hy.wpOp hi trivial ⟨(keep _ _).2 hk, H⟩
  ·have hun0 := (mem_ready.1 hr).1
   have h1 := H.2 j (ready_mono hj hji)
   obtain ⟨hjun, oj, hoj, hall⟩ := mem_ready.1 hj
   have hnot : ∀ e ∈ oj.after, Region.binds md e = true → e.on ≠ i := fun e he hb heq => by
    have h1 := hall e he hb
    rw [heq] at h1
    rw [getD_up h1] at hun0
    cases hun0
   have h2 := wpOp_putIf hoj (hfree j oj hoj hji hjun hnot) (fun cs b => hsel i oi cs b hi) (fun cs b => hsel j oj cs b hoj) hQ hy h1
   have hfree' : ∀ k ok, ops[k]? = some ok → k ≠ i → (listed.setIfInBounds j true).getD k true = false →
     (∀ e ∈ ok.after, Region.binds md e = true → e.on ≠ i) → oi.apart ops ok = true := fun k ok hk hki hun hno => by
    refine hfree k ok hk hki ?_ hno
    by_cases hjk : j = k
    ·subst hjk; exact hjun
    ·rw [getD_set_ne true hjk] at hun; exact hun
   refine wpOp_mono (fun a' w' h3 => ?_) h2
   have hk' : Keep F S (listed.setIfInBounds j true) w' := by
    have := h3.2.1
    rw [Array.setIfInBounds_comm _ _ (Ne.symm hji)] at this
    exact (keep _ _).1 this
   refine ⟨hk', ih (listed.setIfInBounds j true) a' w' hfree' (ready_mono hr (Ne.symm hji)) h3.1 hk' ?_⟩
   rw [Array.setIfInBounds_comm _ _ hji]
   exact h3.2.2
theorem lPure {i : Nat} (d : Option Tmp) {v : Value} {fuel : Nat} {listed : Array Bool} {a : Act} {w : World} (hd : (ops[i]?).map (·.dst) = some d) (hs : Region.noSelect ops = true) (hf : Region.free md ops listed i = true)
  (hr : (Region.ready md ops listed).contains i = true) (hF : F.contains i = false) (hQ : ∀ c a w, Q (.panic c) (a.put d v) w → Q (.panic c) a w) (hw : (ops[i]?).map (fun o => Region.wanted o (yielded ops a.tmps)) = some true)
  (hy : ∀ w, (ops[i]?).map (fun o => (execOp a.eval o).run P w) = some (.ok (.value v) w)) (hk : Keep F S listed w) (h : wpAnyL P md ops Q F S fuel (listed.setIfInBounds i true) (a.put d v) w) :
  wpAnyL P md ops Q F S (fuel + 1) listed a w := by
 obtain ⟨o, ho, rfl⟩ := Option.map_eq_some_iff.1 hd
 rw [ho, zqd, zqe] at hw
 have hF' : ∀ f ∈ F, f ≠ i := fun f hfm e => by
  subst e
  rw [List.contains_iff_mem.2 hfm] at hF
  cases hF
 refine wpAnyL_pure ho (Region.noSelect_spec hs) hQ hF' fuel listed a w (Region.free_spec ho hf) (by simpa using hr) (Or.inl ⟨hw, fun w _ => ?_⟩) hk h
 have := hy w
 rw [ho, zqd, zqe] at this
 exact this
theorem keep_of {listed : Array Bool} {w : World} (h : S w) : Keep F S listed w := fun _ => h
theorem keep_fell {listed : Array Bool} {w : World} (h : F.any (fun f => listed.getD f true) = true) : Keep F S listed w := fun hn => by
 obtain ⟨f, hf, hx⟩ := List.any_eq_true.1 h
 rw [hn f hf] at hx
 cases hx
theorem wp_region_keep {id : Nat} {a : Act} {w : World} (F : List Nat) (hm : P.follows .mixedOrders = true) (hS : S w.drew)
  (h : S w.drew → wpAnyL P .any ops Q F S ops.size (Array.replicate ops.size false) a w.drew) : (Code.region id ops true).wp P Q a w :=
 wp_region_any hm (wpAny_of_keep _ _ _ _ (h hS))
theorem lTake {i : Nat} (d : Option Tmp) {v : Value} {fuel : Nat} {listed : Array Bool} {a : Act} {w : World} (hd : (ops[i]?).map (·.dst) = some d) (hs : Region.noSelect ops = true) (hf : Region.free md ops listed i = true)
  (hr : (Region.ready md ops listed).contains i = true) (hc : closedB md ops listed = true) (hF : (F.all fun f => f != i && waits md ops ops.size f i) = true) (hQ : ∀ c a w, Q (.panic c) (a.put d v) w → Q (.panic c) a w) (hw : (ops[i]?).map (fun o => Region.wanted o (yielded ops a.tmps)) = some true)
  (hy : ∀ w, S w → (ops[i]?).map (fun o => (execOp a.eval o).run P w) = some (.ok (.value v) w)) (hS : S w) (h : wpAnyL P md ops Q F S fuel (listed.setIfInBounds i true) (a.put d v) w) :
  wpAnyL P md ops Q F S (fuel + 1) listed a w := by
 obtain ⟨o, ho, rfl⟩ := Option.map_eq_some_iff.1 hd
 rw [ho, zqd, zqe] at hw
 have hF' : ∀ f ∈ F, f ≠ i ∧ waits md ops ops.size f i = true := fun f hf => by simpa using List.all_eq_true.1 hF f hf
 refine wpAnyL_first ho (Region.noSelect_spec hs) hQ hF' fuel listed a w (Region.free_spec ho hf) (closed_of hc) (by simpa using hr) (Or.inl ⟨hw, fun w hSw => ?_⟩) hS h
 have := hy w hSw
 rw [ho, zqd, zqe] at this
 exact this
def LStep (P : Program) (md : Region.Mode) (ops : Array Oper) (Q : Exit → Act → World → Prop) (F : List Nat) (S : World → Prop) (fuel : Nat) (listed : Array Bool) (a : Act) (w : World) (i : Nat) : Prop :=
 ∀ K' : Act → World → Prop, Shut (∀ a w, S w → (S w → wpAnyL P md ops Q F S fuel (listed.setIfInBounds i true) a w) → K' a w) →
   match ops[i]? with | some o => if Region.wanted o (yielded ops a.tmps) = true then Oper.wp P o a w K' Q else K' (a.put o.dst undef) w | none => K' a w
def LFall (P : Program) (md : Region.Mode) (ops : Array Oper) (Q : Exit → Act → World → Prop) (F : List Nat) (S : World → Prop) (fuel : Nat) (listed : Array Bool) (a : Act) (w : World) (i : Nat) : Prop :=
 ∀ K' : Act → World → Prop, Shut (∀ a w, wpAnyL P md ops Q F S fuel (listed.setIfInBounds i true) a w → K' a w) →
   match ops[i]? with | some o => if Region.wanted o (yielded ops a.tmps) = true then Oper.wp P o a w K' Q else K' (a.put o.dst undef) w | none => K' a w
variable {fuel : Nat} {listed : Array Bool} {a : Act} {w : World}
theorem LStep.op {i : Nat} (h : LStep P md ops Q F S fuel listed a w i) : wpOp P ops Q i (fun a' w' => Keep F S (listed.setIfInBounds i true) w' ∧ wpAnyL P md ops Q F S fuel (listed.setIfInBounds i true) a' w') a w := by
 unfold LStep at h
 cases ho : ops[i]? with
 | none =>
  rw [ho] at h
  have h' := h (fun a' w' => Keep F S (listed.setIfInBounds i true) w' ∧ wpAnyL P md ops Q F S fuel (listed.setIfInBounds i true) a' w') (fun a w hS hW => ⟨fun _ => hS, hW hS⟩)
  unfold wpOp
  rw [ho]
  exact h'
 | some o =>
  rw [ho] at h
  exact wpOp_step ho (fun K' hK => h K' (fun a w hS hW => hK a w ⟨fun _ => hS, hW hS⟩))
theorem LFall.op {i : Nat} (hi : F.any (fun f => (listed.setIfInBounds i true).getD f true) = true) (h : LFall P md ops Q F S fuel listed a w i) : wpOp P ops Q i (fun a' w' => Keep F S (listed.setIfInBounds i true) w' ∧ wpAnyL P md ops Q F S fuel (listed.setIfInBounds i true) a' w') a w := by
 have hk : ∀ w, Keep F S (listed.setIfInBounds i true) w := fun w hn => by
  obtain ⟨f, hf, hx⟩ := List.any_eq_true.1 hi
  rw [hn f hf] at hx
  cases hx
 unfold LFall at h
 cases ho : ops[i]? with
 | none =>
  rw [ho] at h
  have h' := h (fun a' w' => Keep F S (listed.setIfInBounds i true) w' ∧ wpAnyL P md ops Q F S fuel (listed.setIfInBounds i true) a' w') (fun a w hW => ⟨hk w, hW⟩)
  unfold wpOp
  rw [ho]
  exact h'
 | some o =>
  rw [ho] at h
  exact wpOp_step ho (fun K' hK => h K' (fun a w hW => hK a w ⟨hk w, hW⟩))
abbrev LOp (P : Program) (md : Region.Mode) (ops : Array Oper) (Q : Exit → Act → World → Prop) (F : List Nat) (S : World → Prop) (fuel : Nat) (listed : Array Bool) (a : Act) (w : World) (i : Nat) : Prop :=
 wpOp P ops Q i (fun a' w' => Keep F S (listed.setIfInBounds i true) w' ∧ wpAnyL P md ops Q F S fuel (listed.setIfInBounds i true) a' w') a w
theorem lNext {rs : List Nat} (hr : Region.ready md ops listed = rs) (hne : rs ≠ []) (h : ∀ i ∈ rs, LOp P md ops Q F S fuel listed a w i) : wpAnyL P md ops Q F S (fuel + 1) listed a w :=
 ⟨fun h0 => absurd (hr ▸ h0) hne, hr ▸ h⟩
theorem lOne (i : Nat) (hr : Region.ready md ops listed = [i]) (h1 : LOp P md ops Q F S fuel listed a w i) : wpAnyL P md ops Q F S (fuel + 1) listed a w :=
 lNext hr (by simp) (fun k hk => by simp at hk; subst hk; exact h1)
theorem lTwo (i j : Nat) (hr : Region.ready md ops listed = [i, j]) (h1 : LOp P md ops Q F S fuel listed a w i) (h2 : LOp P md ops Q F S fuel listed a w j) : wpAnyL P md ops Q F S (fuel + 1) listed a w :=
 lNext hr (by simp) (fun k hk => by
  simp at hk
  rcases hk with rfl | rfl
  ·exact h1
  ·exact h2)
theorem lDone (hr : Region.ready md ops listed = []) (h : Q .normal a w) : wpAnyL P md ops Q F S fuel listed a w := by
 cases fuel with
 | zero => exact ⟨hr, h⟩
 | succ n => exact ⟨fun _ => h, by rw [hr]; simp⟩
end
end Go.Tre
namespace Go.Tre
section
variable {P : Program} {ops : Array Oper} {Q : Exit → Act → World → Prop} {md : Region.Mode} {S : World → Prop} {F : List Nat}
variable {fuel : Nat} {listed : Array Bool} {a : Act} {w : World}
def takeB (md : Region.Mode) (ops : Array Oper) (F : List Nat) (listed : Array Bool) (i : Nat) (d : Option Tmp) : Bool :=
 decide ((ops[i]?).map (·.dst) = some d) && (Region.noSelect ops && (Region.free md ops listed i && ((Region.ready md ops listed).contains i && (closedB md ops listed && (F.all fun f => f != i && waits md ops ops.size f i)))))
def plainB (md : Region.Mode) (ops : Array Oper) (F : List Nat) (listed : Array Bool) (i : Nat) (d : Option Tmp) : Bool :=
 decide ((ops[i]?).map (·.dst) = some d) && (Region.noSelect ops && (Region.free md ops listed i && ((Region.ready md ops listed).contains i && !(F.contains i))))
theorem lTk (i : Nat) (d : Option Tmp) {v : Value} (hy : ∀ w, S w → (ops[i]?).map (fun o => (execOp a.eval o).run P w) = some (.ok (.value v) w)) (hS : S w) (h : wpAnyL P md ops Q F S fuel (listed.setIfInBounds i true) (a.put d v) w)
  (hc : takeB md ops F listed i d = true := by kernel_rfl) (hQ : ∀ c a w, Q (.panic c) (a.put d v) w → Q (.panic c) a w := by exact fun _ _ _ h => h) (hw : (ops[i]?).map (fun o => Region.wanted o (yielded ops a.tmps)) = some true := by rfl) : wpAnyL P md ops Q F S (fuel + 1) listed a w := by
 unfold takeB at hc
 simp only [Bool.and_eq_true, decide_eq_true_eq] at hc
 obtain ⟨h1, h2, h3, h4, h5, h6⟩ := hc
 exact lTake d h1 h2 h3 h4 h5 h6 hQ hw hy hS h
theorem lPk (i : Nat) (d : Option Tmp) {v : Value} (hy : ∀ w, (ops[i]?).map (fun o => (execOp a.eval o).run P w) = some (.ok (.value v) w)) (hk : Keep F S listed w) (h : wpAnyL P md ops Q F S fuel (listed.setIfInBounds i true) (a.put d v) w)
  (hc : plainB md ops F listed i d = true := by kernel_rfl) (hQ : ∀ c a w, Q (.panic c) (a.put d v) w → Q (.panic c) a w := by exact fun _ _ _ h => h) (hw : (ops[i]?).map (fun o => Region.wanted o (yielded ops a.tmps)) = some true := by rfl) : wpAnyL P md ops Q F S (fuel + 1) listed a w := by
 unfold plainB at hc
 simp only [Bool.and_eq_true, decide_eq_true_eq, Bool.not_eq_true'] at hc
 obtain ⟨h1, h2, h3, h4, h5⟩ := hc
 exact lPure d h1 h2 h3 h4 h5 hQ hw hy hk h
structure Cond (S : World → Prop) : Type where
theorem Cond.keep {id : Nat} {a : Act} {w : World} (_ : Cond S) (F : List Nat) (hS : S w.drew) (h : S w.drew → wpAnyL P .any ops Q F S ops.size (Array.replicate ops.size false) a w.drew) (hm : P.follows .mixedOrders = true := by kernel_rfl) : (Code.region id ops true).wp P Q a w := wp_region_keep F hm hS h
theorem lTq (i : Nat) (d : Option Tmp) {v : Value} {o : Oper} (ho : ops[i]? = some o) (hy : ∀ w, S w → (execOp a.eval o).run P w = .ok (.value v) w) (hS : S w) (h : wpAnyL P md ops Q F S fuel (listed.setIfInBounds i true) (a.put d v) w)
  (hc : takeB md ops F listed i d = true := by kernel_rfl) (hQ : ∀ c a w, Q (.panic c) (a.put d v) w → Q (.panic c) a w := by exact fun _ _ _ h => h) (hw : (ops[i]?).map (fun o => Region.wanted o (yielded ops a.tmps)) = some true := by rfl) : wpAnyL P md ops Q F S (fuel + 1) listed a w :=
 lTk i d (fun w hSw => by rw [ho, Option.map_some, hy w hSw]) hS h hc hQ hw
theorem lPq (i : Nat) (d : Option Tmp) {v : Value} {o : Oper} (ho : ops[i]? = some o) (hy : ∀ w, (execOp a.eval o).run P w = .ok (.value v) w) (hk : Keep F S listed w) (h : wpAnyL P md ops Q F S fuel (listed.setIfInBounds i true) (a.put d v) w)
  (hc : plainB md ops F listed i d = true := by kernel_rfl) (hQ : ∀ c a w, Q (.panic c) (a.put d v) w → Q (.panic c) a w := by exact fun _ _ _ h => h) (hw : (ops[i]?).map (fun o => Region.wanted o (yielded ops a.tmps)) = some true := by rfl) : wpAnyL P md ops Q F S (fuel + 1) listed a w :=
 lPk i d (fun w => by rw [ho, Option.map_some, hy w]) hk h hc hQ hw
theorem Cond.is {S : World → Prop} {w : World} (_ : Cond S) (h : S w) : S w := h
end
end Go.Tre
namespace Go.Tre
open Go.RowKit
structure LexAt (b : Nat) (s : ByteArray) (k : Nat) (w : World) : Prop where
 text : w.cell? ⟨b, 0, none⟩ = some (.string s)
 place : w.cell? ⟨b, 1, none⟩ = some (.int .i64 (k : Int))
theorem LexAt.below {b : Nat} {s : ByteArray} {k : Nat} {w w' : World} (h : LexAt b s k w) (hb : Below w.heap.size w w') : LexAt b s k w' :=
 ⟨cell_below hb h.text, cell_below hb h.place⟩
end Go.Tre
namespace Go.Proofs.YtljmcmdabdlldaaGreatDoor.lex
open Go.RowKit Go.Tre
set_option maxHeartbeats 1000000 in
theorem rest (b : Nat) (s : ByteArray) (k : Nat) (w : World) (h : LexAt b s k w) (hk : k ≤ s.size) (hs : s.size ≤ 8388608) :
  Calls Tryz.prog 70 #[.pointer (some ⟨b, 0, none⟩)] w fun e w' => e = .returned (.string (s.extract k s.size)) ∧ Below w.heap.size w w' := by
 have hk' : (k : Int) ≤ (s.size : Int) := by omega
 have x0 := h.text
 have x1 := h.place
 clear h
 go_enter Tryz.func70, Tryz.ntmps70
 go_wp2_with fail
 go_region_held3 (fun w' => Below w.heap.size w w' ∧ w'.cell? ⟨b, 0, none⟩ = some (.string s) ∧ w'.cell? ⟨b, 1, none⟩ = some (.int .i64 (k : Int)))
  (first | exact ⟨(Below.refl _ _).drew, x0, x1⟩ | go_keep) (fail)
 have hb := (show Below w.heap.size w w.drew ∧ _ from by assumption).1
 have HB := Tre.hid hb
 clear hb
 go_wp2_with fail
 go_ret
 exact ⟨rfl, HB.out⟩
set_option maxHeartbeats 1000000 in
theorem fail (b : Nat) (s : ByteArray) (k : Nat) (w : World) (h : LexAt b s k w) :
  Calls Tryz.prog 90 #[.pointer (some ⟨b, 0, none⟩)] w fun e w' => e = .returned (.iface 119 (.pointer (some ⟨w.heap.size, 0, none⟩))) ∧ w' = w.alloc (.cells #[.int .i64 (k : Int), .int .i64 5] 123) := by
 have x0 := h.text
 have x1 := h.place
 clear h
 go_enter Tryz.func90, Tryz.ntmps90
 go_wp2_with fail
 go_ret
 exact ⟨rfl, rfl⟩
end Go.Proofs.YtljmcmdabdlldaaGreatDoor.lex
