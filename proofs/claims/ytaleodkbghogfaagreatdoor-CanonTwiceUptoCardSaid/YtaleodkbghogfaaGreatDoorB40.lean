/- Layer 9, plain: a graph written twice, step by step. Drawn regions that make memory: each state that is reached is shown once, whatever the order in which it was. -/
import Derived.Test.YtaleodkbghogfaaGreatDoorB39
import Derived.Test.YtaleodkbghogfaaGreatDoorB08
import Derived.Test.YtaleodkbghogfaaGreatDoorB09
set_option linter.unusedVariables false
namespace Go.Tre
def twRow (g : Tre.Graph) (f : Nat → Bool) (j : Nat) (L : List Int) : List Int := L.mapIdx fun i a => if i < j ∧ freeC (g.nd a.toNat) = false ∧ f i = true then a + g.ns.length else a
section
variable {g : Tre.Graph} {f : Nat → Bool} {j : Nat} {L : List Int}
theorem twRow_len : (twRow g f j L).length = L.length := by simp [twRow]
theorem twRow_zero : twRow g f 0 L = L := by
 unfold twRow
 refine List.ext_getElem (by simp) (fun i h1 h2 => ?_)
 rw [List.getElem_mapIdx, if_neg (by omega)]
theorem twRow_at (h : j < L.length) : (twRow g f j L)[j]? = some L[j] := by
 unfold twRow
 rw [List.getElem?_mapIdx, List.getElem?_eq_getElem h, Tre.qd, if_neg (by omega)]
theorem twRow_get (i : Nat) : (twRow g f j L)[i]? = (L[i]?).map fun a : Int => if i < j ∧ freeC (g.nd a.toNat) = false ∧ f i = true then a + g.ns.length else a := by
 unfold twRow
 rw [List.getElem?_mapIdx]
theorem twRow_step (h : j < L.length) (b : Bool) : (twRow g f j L).set j (if freeC (g.nd L[j].toNat) = false ∧ b = true then L[j] + g.ns.length else L[j]) = twRow g (fun i => if i = j then b else f i) (j + 1) L := by
 refine List.ext_getElem? (fun i => ?_)
 rw [List.getElem?_set, twRow_get, twRow_get, twRow_len]
 by_cases hij : j = i
 ·subst hij
  rw [if_pos rfl, if_pos h, List.getElem?_eq_getElem h, Tre.qd]
  simp only [Nat.lt_add_one, true_and, if_true]
 ·rw [if_neg hij]
  have e : (if i = j then b else f i) = f i := if_neg (fun e => hij e.symm)
  have e2 : (i < j + 1) = (i < j) := propext ⟨fun h => by omega, fun h => by omega⟩
  simp only [e, e2]
theorem twRow_keep (h : j < L.length) (b : Bool) (hb : ¬ (freeC (g.nd L[j].toNat) = false ∧ b = true)) : twRow g f j L = twRow g (fun i => if i = j then b else f i) (j + 1) L := by
 rw [← twRow_step h b, if_neg hb]
 refine List.ext_getElem? (fun i => ?_)
 rw [List.getElem?_set, twRow_len]
 by_cases hij : j = i
 ·subst hij
  rw [if_pos rfl, if_pos h, twRow_at h]
 ·rw [if_neg hij]
theorem twRow_go (h : j < L.length) (hf : freeC (g.nd L[j].toNat) = false) : (twRow g f j L).set j (L[j] + g.ns.length) = twRow g (fun i => if i = j then true else f i) (j + 1) L := by
 rw [← twRow_step h true, if_pos ⟨hf, rfl⟩]
theorem twRow_all {bit : Nat → Nat → Bool} {k : Nat} (hb : ∀ i, bit k i = f i) : twRow g f L.length L = L.mapIdx fun i a => twArg g bit k i a := by
 unfold twRow
 refine List.ext_getElem (by simp) (fun i h1 h2 => ?_)
 rw [List.getElem_mapIdx, List.getElem_mapIdx]
 unfold twArg
 have hi : i < L.length := by simpa using h1
 simp only [hi, true_and, hb]
theorem twNodes_congr {bit bit' : Nat → Nat → Bool} {k : Nat} (h : ∀ m i, m < k → bit m i = bit' m i) : (List.range k).map (twNode g bit) = (List.range k).map (twNode g bit') := by
 refine List.map_congr_left (fun m hm => ?_)
 rw [List.mem_range] at hm
 unfold twNode twArg
 simp only [h m _ hm]
theorem tw_node_weight (bit : Nat → Nat → Bool) (k : Nat) : (twNode g bit k).weight = (g.nd (k % g.ns.length)).weight := by
 unfold Node.weight twNode
 simp
theorem tw_weight (bit : Nat → Nat → Bool) : (twiceG g bit).weight = 2 * g.weight := by
 rw [g.weight_range]
 unfold Graph.weight twiceG
 rw [List.map_map]
 have e : ∀ l : List Nat, l.map (Tre.Node.weight ∘ twNode g bit) = l.map (fun k => (g.nd (k % g.ns.length)).weight) := fun l => List.map_congr_left (fun k _ => tw_node_weight bit k)
 show ((List.range (2 * g.ns.length)).map _).sum = _
 rw [e, Nat.two_mul, List.range_add, List.map_append, List.sum_append, List.map_map]
 have e1 : (List.range g.ns.length).map (fun k => (g.nd (k % g.ns.length)).weight) = (List.range g.ns.length).map (fun k => (g.nd k).weight) := List.map_congr_left (fun k hk => by rw [Nat.mod_eq_of_lt (List.mem_range.1 hk)])
 have e2 : (List.range g.ns.length).map ((fun k => (g.nd (k % g.ns.length)).weight) ∘ fun x => g.ns.length + x) = (List.range g.ns.length).map (fun k => (g.nd k).weight) := List.map_congr_left (fun k hk => by
  show (g.nd ((g.ns.length + k) % g.ns.length)).weight = _
  rw [Nat.add_mod_left, Nat.mod_eq_of_lt (List.mem_range.1 hk)])
 rw [e1, e2]
 omega
end
end Go.Tre
namespace Go.Tre
section
variable {P : Program} {ops : Array Oper} {Q : Exit → Act → World → Prop} {md : Region.Mode} {S : World → Prop} {F : List Nat}
variable {fuel : Nat} {listed : Array Bool} {a : Act} {w : World}
theorem lFour (i j k l : Nat) (hr : Region.ready md ops listed = [i, j, k, l]) (h1 : LOp P md ops Q F S fuel listed a w i) (h2 : LOp P md ops Q F S fuel listed a w j) (h3 : LOp P md ops Q F S fuel listed a w k) (h4 : LOp P md ops Q F S fuel listed a w l) : wpAnyL P md ops Q F S (fuel + 1) listed a w :=
 lNext hr (by simp) (fun m hm => by
  simp at hm
  rcases hm with rfl | rfl | rfl | rfl
  ·exact h1
  ·exact h2
  ·exact h3
  ·exact h4)
theorem lFive (i j k l n : Nat) (hr : Region.ready md ops listed = [i, j, k, l, n]) (h1 : LOp P md ops Q F S fuel listed a w i) (h2 : LOp P md ops Q F S fuel listed a w j) (h3 : LOp P md ops Q F S fuel listed a w k) (h4 : LOp P md ops Q F S fuel listed a w l) (h5 : LOp P md ops Q F S fuel listed a w n) : wpAnyL P md ops Q F S (fuel + 1) listed a w :=
 lNext hr (by simp) (fun m hm => by
  simp at hm
  rcases hm with rfl | rfl | rfl | rfl | rfl
  ·exact h1
  ·exact h2
  ·exact h3
  ·exact h4
  ·exact h5)
end
def bt (n k : Nat) : Array Bool := ((List.range n).map fun i => k.testBit i).toArray
structure Kept (p : Prop) : Type where
 out : p
abbrev GFun := Nat → Array Bool → Act → World → Prop
theorem with_G {G0 : GFun} {f : Nat} {l : Array Bool} {a : Act} {w : World} (h : ∀ G : GFun, Kept (G = G0) → ∀ a0 : Act, Kept (a0 = a) → G f l a0 w) : G0 f l a w := h _ ⟨rfl⟩ _ ⟨rfl⟩
theorem into_G {G G0 : GFun} (e : Kept (G = G0)) {f : Nat} {l : Array Bool} {a : Act} {w : World} (h : G0 f l a w) : G f l a w := e.out ▸ h
theorem outof_G {G G0 : GFun} (e : Kept (G = G0)) {f : Nat} {l l' : Array Bool} {a a' : Act} {w : World} (h : G f l' a' w) (hl : l = l') (ha : a = a') : G0 f l a w := e.out ▸ hl ▸ ha ▸ h
end Go.Tre
namespace Go.Tre
open Go.RowKit
section
variable {P : Program} {ops : Array Oper} {Q : Exit → Act → World → Prop} {md : Region.Mode} {S : World → Prop} {F : List Nat}
variable {fuel : Nat} {listed : Array Bool} {a : Act} {w : World}
def pureB (md : Region.Mode) (ops : Array Oper) (F : List Nat) (listed : Array Bool) (i : Nat) (d : Option Tmp) : Bool :=
 decide ((ops[i]?).map (·.dst) = some d) && (Region.noSelect ops && (Region.free md ops listed i && ((Region.ready md ops listed).contains i && !(F.contains i))))
theorem lPu (i : Nat) (d : Option Tmp) (v : Value) (hc : pureB md ops F listed i d = true) (hQ : ∀ c a w, Q (.panic c) (a.put d v) w → Q (.panic c) a w)
  (hy : ∀ w, (ops[i]?).map (fun o => (Region.wanted o (yielded ops a.tmps), (execOp a.eval o).run P w)) = some (true, .ok (.value v) w)) (hk : Keep F S listed w) (h : wpAnyL P md ops Q F S fuel (listed.setIfInBounds i true) (a.put d v) w) :
  wpAnyL P md ops Q F S (fuel + 1) listed a w := by
 unfold pureB at hc
 simp only [Bool.and_eq_true, decide_eq_true_eq, Bool.not_eq_true'] at hc
 obtain ⟨h1, h2, h3, h4, h5⟩ := hc
 cases ho : ops[i]? with
 | none => rw [ho] at h1; cases h1
 | some o =>
  refine lPure d h1 h2 h3 h4 h5 hQ ?_ (fun w => ?_) hk h
  ·have := hy w
   rw [ho, Tre.qd, Tre.qe, Prod.mk.injEq] at this
   rw [ho, Tre.qd, this.1]
  ·have := hy w
   rw [ho, Tre.qd, Tre.qe, Prod.mk.injEq] at this
   rw [ho, Tre.qd, this.2]
theorem wp_value {o : Oper} {v : Value} {w' : World} {K : Act → World → Prop} (h : (execOp a.eval o).run P w = .ok (.value v) w') (hK : K (a.put o.dst v) w') : o.wp P a w K Q := by
 unfold Oper.wp
 rw [h]
 exact hK
theorem LStep.made {i : Nat} (d : Option Tmp) (v : Value) (w' : World) (hd : (ops[i]?).map (·.dst) = some d) (hy : (ops[i]?).map (fun o => (Region.wanted o (yielded ops a.tmps), (execOp a.eval o).run P w)) = some (true, .ok (.value v) w'))
  (hS : S w') (h : wpAnyL P md ops Q F S fuel (listed.setIfInBounds i true) (a.put d v) w') : LOp P md ops Q F S fuel listed a w i := by
 refine LStep.op (fun K hK => ?_)
 cases ho : ops[i]? with
 | none => rw [ho] at hd; cases hd
 | some o =>
  rw [ho, Tre.qd, Tre.qe] at hd hy
  rw [Prod.mk.injEq] at hy
  show if Region.wanted o (yielded ops a.tmps) = true then _ else _
  rw [if_pos hy.1]
  refine wp_value hy.2 ?_
  rw [hd]
  exact hK _ _ hS (fun _ => h)
theorem LFall.made {i : Nat} (d : Option Tmp) (v : Value) (w' : World) (hi : F.any (fun f => (listed.setIfInBounds i true).getD f true) = true) (hd : (ops[i]?).map (·.dst) = some d) (hy : (ops[i]?).map (fun o => (Region.wanted o (yielded ops a.tmps), (execOp a.eval o).run P w)) = some (true, .ok (.value v) w'))
  (h : wpAnyL P md ops Q F S fuel (listed.setIfInBounds i true) (a.put d v) w') : LOp P md ops Q F S fuel listed a w i := by
 refine LFall.op hi (fun K hK => ?_)
 cases ho : ops[i]? with
 | none => rw [ho] at hd; cases hd
 | some o =>
  rw [ho, Tre.qd, Tre.qe] at hd hy
  rw [Prod.mk.injEq] at hy
  show if Region.wanted o (yielded ops a.tmps) = true then _ else _
  rw [if_pos hy.1]
  refine wp_value hy.2 ?_
  rw [hd]
  exact hK _ _ h
theorem LStep.app {i : Nat} (d : Option Tmp) (s x : Operand) (t : TypeId)
  (ho : (ops[i]?).map (fun o => (Region.wanted o (yielded ops a.tmps), o.dst, o.op)) = some (true, d, .call { callee := .builtin .append, args := #[s, x], argTypes := #[t, t] }))
  (e : TypeId) (j : TypeInfo) (z : Value) (size bytes : Nat) (ht : P.underlying t = some (.slice e)) (hi : P.info? e = some j) (hz : j.zero = some z)
  (hsize : j.size = size) (hby : j.bytes = bytes) (hzs : z.cells.size = size) (hsz : 0 < size)
  (v : Value) (n : Nat) (xs : List Value) (hs : a.eval s = v) (hown : w.ownsRow 0 e size v n xs)
  (ad : Option Addr) (m c : Nat) (news : List Value) (hx : a.eval x = .slice ad m c) (hr : Row w size ad m news) (h1 : ∀ u ∈ news, u.oneCell' = true)
  (h63 : n + m ≤ maxLen) (hbytes : (n + m) * bytes ≤ 140737488355328)
  (h : ∀ v' w', w'.ownsRow 0 e size v' (n + m) (xs ++ news) → w.grownBy w' v.ownBlock → (v'.ownBlock = v.ownBlock ∨ v'.ownBlock = some w.heap.size) → S w' ∧ (S w' → wpAnyL P md ops Q F S fuel (listed.setIfInBounds i true) (a.put d v') w')) : LOp P md ops Q F S fuel listed a w i := by
 refine LStep.op (fun K hK => ?_)
 cases hoi : ops[i]? with
 | none => rw [hoi] at ho; cases ho
 | some o =>
  rw [hoi, Tre.qd, Tre.qe, Prod.mk.injEq, Prod.mk.injEq] at ho
  show if Region.wanted o (yielded ops a.tmps) = true then _ else _
  rw [if_pos ho.1]
  refine wp_append_row w s x t ho.2.2 e j z size bytes ht hi hz hsize hby hzs hsz v n xs hs hown ad m c news hx hr h1 h63 hbytes ?_
  rw [ho.2.1]
  exact fun v' w' h3 h4 h5 => hK _ _ (h v' w' h3 h4 h5).1 (h v' w' h3 h4 h5).2
theorem LFall.app {i : Nat} (hf : F.any (fun f => (listed.setIfInBounds i true).getD f true) = true) (d : Option Tmp) (s x : Operand) (t : TypeId)
  (ho : (ops[i]?).map (fun o => (Region.wanted o (yielded ops a.tmps), o.dst, o.op)) = some (true, d, .call { callee := .builtin .append, args := #[s, x], argTypes := #[t, t] }))
  (e : TypeId) (j : TypeInfo) (z : Value) (size bytes : Nat) (ht : P.underlying t = some (.slice e)) (hi : P.info? e = some j) (hz : j.zero = some z)
  (hsize : j.size = size) (hby : j.bytes = bytes) (hzs : z.cells.size = size) (hsz : 0 < size)
  (v : Value) (n : Nat) (xs : List Value) (hs : a.eval s = v) (hown : w.ownsRow 0 e size v n xs)
  (ad : Option Addr) (m c : Nat) (news : List Value) (hx : a.eval x = .slice ad m c) (hr : Row w size ad m news) (h1 : ∀ u ∈ news, u.oneCell' = true)
  (h63 : n + m ≤ maxLen) (hbytes : (n + m) * bytes ≤ 140737488355328)
  (h : ∀ v' w', w'.ownsRow 0 e size v' (n + m) (xs ++ news) → w.grownBy w' v.ownBlock → (v'.ownBlock = v.ownBlock ∨ v'.ownBlock = some w.heap.size) → wpAnyL P md ops Q F S fuel (listed.setIfInBounds i true) (a.put d v') w') : LOp P md ops Q F S fuel listed a w i := by
 refine LFall.op hf (fun K hK => ?_)
 cases hoi : ops[i]? with
 | none => rw [hoi] at ho; cases ho
 | some o =>
  rw [hoi, Tre.qd, Tre.qe, Prod.mk.injEq, Prod.mk.injEq] at ho
  show if Region.wanted o (yielded ops a.tmps) = true then _ else _
  rw [if_pos ho.1]
  refine wp_append_row w s x t ho.2.2 e j z size bytes ht hi hz hsize hby hzs hsz v n xs hs hown ad m c news hx hr h1 h63 hbytes ?_
  rw [ho.2.1]
  exact fun v' w' h3 h4 h5 => hK _ _ (h v' w' h3 h4 h5)
end
end Go.Tre
