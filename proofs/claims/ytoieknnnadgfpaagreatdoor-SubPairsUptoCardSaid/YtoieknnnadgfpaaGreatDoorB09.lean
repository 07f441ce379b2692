/- Drawn regions that make memory: each state that is reached is shown once, whatever the order in which it was. Small words on rows and worlds. -/
import Derived.Test.YtoieknnnadgfpaaGreatDoorB08
import Derived.Test.YtoieknnnadgfpaaGreatDoorB05
import Derived.Test.YtoieknnnadgfpaaGreatDoorB03
set_option linter.unusedVariables false
namespace Go.Tre
section
variable {P : Program} {ops : Array Oper} {Q : Exit → Act → World → Prop} {md : Region.Mode} {S : World → Prop} {F : List Nat}
variable {fuel : Nat} {listed : Array Bool} {a : Act} {w : World}
theorem lFour (i j k l : Nat) (hr : Region.ready md ops listed = [i, j, k, l]) (h1 : LOp P md ops Q F S fuel listed a w i) (h2 : LOp P md ops Q F S fuel listed a w j) (h3 : LOp P md ops Q F S fuel listed a w k) (h4 : LOp P md ops Q F S fuel listed a w l) : wpAnyL P md ops Q F S (fuel + 1) listed a w :=
 lNext hr (by simp) (fun m hm => by
  simp at hm
  rcases hm with rfl | rfl | rfl | rfl
  ·exact h1
  ·exact h2
  ·exact h3
  ·exact h4)
end
def bt (n k : Nat) : Array Bool := ((List.range n).map fun i => k.testBit i).toArray
structure Kept (p : Prop) : Type where
 out : p
abbrev GFun := Nat → Array Bool → Act → World → Prop
theorem with_G {G0 : GFun} {f : Nat} {l : Array Bool} {a : Act} {w : World} (h : ∀ G : GFun, Kept (G = G0) → ∀ a0 : Act, Kept (a0 = a) → G f l a0 w) : G0 f l a w := h _ ⟨rfl⟩ _ ⟨rfl⟩
theorem into_G {G G0 : GFun} (e : Kept (G = G0)) {f : Nat} {l : Array Bool} {a : Act} {w : World} (h : G0 f l a w) : G f l a w := e.out ▸ h
theorem outof_G {G G0 : GFun} (e : Kept (G = G0)) {f : Nat} {l l' : Array Bool} {a a' : Act} {w : World} (h : G f l' a' w) (hl : l = l') (ha : a = a') : G0 f l a w := e.out ▸ hl ▸ ha ▸ h
end Go.Tre
namespace Go.Tre
open Go.RowKit
section
variable {P : Program} {ops : Array Oper} {Q : Exit → Act → World → Prop} {md : Region.Mode} {S : World → Prop} {F : List Nat}
variable {fuel : Nat} {listed : Array Bool} {a : Act} {w : World}
def pureB (md : Region.Mode) (ops : Array Oper) (F : List Nat) (listed : Array Bool) (i : Nat) (d : Option Tmp) : Bool :=
 decide ((ops[i]?).map (·.dst) = some d) && (Region.noSelect ops && (Region.free md ops listed i && ((Region.ready md ops listed).contains i && !(F.contains i))))
theorem lPu (i : Nat) (d : Option Tmp) (v : Value) (hc : pureB md ops F listed i d = true) (hQ : ∀ c a w, Q (.panic c) (a.put d v) w → Q (.panic c) a w)
  (hy : ∀ w, (ops[i]?).map (fun o => (Region.wanted o (yielded ops a.tmps), (execOp a.eval o).run P w)) = some (true, .ok (.value v) w)) (hk : Keep F S listed w) (h : wpAnyL P md ops Q F S fuel (listed.setIfInBounds i true) (a.put d v) w) :
  wpAnyL P md ops Q F S (fuel + 1) listed a w := by
 unfold pureB at hc
 simp only [Bool.and_eq_true, decide_eq_true_eq, Bool.not_eq_true'] at hc
 obtain ⟨h1, h2, h3, h4, h5⟩ := hc
 cases ho : ops[i]? with
 | none => rw [ho] at h1; cases h1
 | some o =>
  refine lPure d h1 h2 h3 h4 h5 hQ ?_ (fun w => ?_) hk h
  ·have := hy w
   rw [ho, zqd, zqe, Prod.mk.injEq] at this
   rw [ho, zqd, this.1]
  ·have := hy w
   rw [ho, zqd, zqe, Prod.mk.injEq] at this
   rw [ho, zqd, this.2]
theorem lPv (i : Nat) (d : Option Tmp) (v : Value) (hk : Keep F S listed w) (h : wpAnyL P md ops Q F S fuel (listed.setIfInBounds i true) (a.put d v) w) (hc : pureB md ops F listed i d = true := by kernel_rfl) (hQ : ∀ c a w, Q (.panic c) (a.put d v) w → Q (.panic c) a w := by exact fun _ _ _ h => h)
  (hy : ∀ w, (ops[i]?).map (fun o => (Region.wanted o (yielded ops a.tmps), (execOp a.eval o).run P w)) = some (true, .ok (.value v) w) := by intro w; kernel_rfl) : wpAnyL P md ops Q F S (fuel + 1) listed a w := lPu i d v hc hQ hy hk h
theorem wp_value {o : Oper} {v : Value} {w' : World} {K : Act → World → Prop} (h : (execOp a.eval o).run P w = .ok (.value v) w') (hK : K (a.put o.dst v) w') : o.wp P a w K Q := by
 unfold Oper.wp
 rw [h]
 exact hK
theorem LStep.made {i : Nat} (d : Option Tmp) (v : Value) (w' : World) (hd : (ops[i]?).map (·.dst) = some d) (hy : (ops[i]?).map (fun o => (Region.wanted o (yielded ops a.tmps), (execOp a.eval o).run P w)) = some (true, .ok (.value v) w'))
  (hS : S w') (h : wpAnyL P md ops Q F S fuel (listed.setIfInBounds i true) (a.put d v) w') : LOp P md ops Q F S fuel listed a w i := by
 refine LStep.op (fun K hK => ?_)
 cases ho : ops[i]? with
 | none => rw [ho] at hd; cases hd
 | some o =>
  rw [ho, zqd, zqe] at hd hy
  rw [Prod.mk.injEq] at hy
  show if Region.wanted o (yielded ops a.tmps) = true then _ else _
  rw [if_pos hy.1]
  refine wp_value hy.2 ?_
  rw [hd]
  exact hK _ _ hS (fun _ => h)
theorem LFall.made {i : Nat} (d : Option Tmp) (v : Value) (w' : World) (hi : F.any (fun f => (listed.setIfInBounds i true).getD f true) = true) (hd : (ops[i]?).map (·.dst) = some d) (hy : (ops[i]?).map (fun o => (Region.wanted o (yielded ops a.tmps), (execOp a.eval o).run P w)) = some (true, .ok (.value v) w'))
  (h : wpAnyL P md ops Q F S fuel (listed.setIfInBounds i true) (a.put d v) w') : LOp P md ops Q F S fuel listed a w i := by
 refine LFall.op hi (fun K hK => ?_)
 cases ho : ops[i]? with
 | none => rw [ho] at hd; cases hd
 | some o =>
  rw [ho, zqd, zqe] at hd hy
  rw [Prod.mk.injEq] at hy
  show if Region.wanted o (yielded ops a.tmps) = true then _ else _
  rw [if_pos hy.1]
  refine wp_value hy.2 ?_
  rw [hd]
  exact hK _ _ h
theorem LStep.app {i : Nat} (d : Option Tmp) (s x : Operand) (t : TypeId)
  (ho : (ops[i]?).map (fun o => (Region.wanted o (yielded ops a.tmps), o.dst, o.op)) = some (true, d, .call { callee := .builtin .append, args := #[s, x], argTypes := #[t, t] }))
  (e : TypeId) (j : TypeInfo) (z : Value) (size bytes : Nat) (ht : P.underlying t = some (.slice e)) (hi : P.info? e = some j) (hz : j.zero = some z)
  (hsize : j.size = size) (hby : j.bytes = bytes) (hzs : z.cells.size = size) (hsz : 0 < size)
  (v : Value) (n : Nat) (xs : List Value) (hs : a.eval s = v) (hown : w.ownsRow 0 e size v n xs)
  (ad : Option Addr) (m c : Nat) (news : List Value) (hx : a.eval x = .slice ad m c) (hr : Row w size ad m news) (h1 : ∀ u ∈ news, u.oneCell' = true)
  (h63 : n + m ≤ maxLen) (hbytes : (n + m) * bytes ≤ 140737488355328)
  (h : ∀ v' w', w'.ownsRow 0 e size v' (n + m) (xs ++ news) → w.grownBy w' v.ownBlock → (v'.ownBlock = v.ownBlock ∨ v'.ownBlock = some w.heap.size) → S w' ∧ (S w' → wpAnyL P md ops Q F S fuel (listed.setIfInBounds i true) (a.put d v') w')) : LOp P md ops Q F S fuel listed a w i := by
 refine LStep.op (fun K hK => ?_)
 cases hoi : ops[i]? with
 | none => rw [hoi] at ho; cases ho
 | some o =>
  rw [hoi, zqd, zqe, Prod.mk.injEq, Prod.mk.injEq] at ho
  show if Region.wanted o (yielded ops a.tmps) = true then _ else _
  rw [if_pos ho.1]
  refine wp_append_row w s x t ho.2.2 e j z size bytes ht hi hz hsize hby hzs hsz v n xs hs hown ad m c news hx hr h1 h63 hbytes ?_
  rw [ho.2.1]
  exact fun v' w' h3 h4 h5 => hK _ _ (h v' w' h3 h4 h5).1 (h v' w' h3 h4 h5).2
theorem LFall.app {i : Nat} (hf : F.any (fun f => (listed.setIfInBounds i true).getD f true) = true) (d : Option Tmp) (s x : Operand) (t : TypeId)
  (ho : (ops[i]?).map (fun o => (Region.wanted o (yielded ops a.tmps), o.dst, o.op)) = some (true, d, .call { callee := .builtin .append, args := #[s, x], argTypes := #[t, t] }))
  (e : TypeId) (j : TypeInfo) (z : Value) (size bytes : Nat) (ht : P.underlying t = some (.slice e)) (hi : P.info? e = some j) (hz : j.zero = some z)
  (hsize : j.size = size) (hby : j.bytes = bytes) (hzs : z.cells.size = size) (hsz : 0 < size)
  (v : Value) (n : Nat) (xs : List Value) (hs : a.eval s = v) (hown : w.ownsRow 0 e size v n xs)
  (ad : Option Addr) (m c : Nat) (news : List Value) (hx : a.eval x = .slice ad m c) (hr : Row w size ad m news) (h1 : ∀ u ∈ news, u.oneCell' = true)
  (h63 : n + m ≤ maxLen) (hbytes : (n + m) * bytes ≤ 140737488355328)
  (h : ∀ v' w', w'.ownsRow 0 e size v' (n + m) (xs ++ news) → w.grownBy w' v.ownBlock → (v'.ownBlock = v.ownBlock ∨ v'.ownBlock = some w.heap.size) → wpAnyL P md ops Q F S fuel (listed.setIfInBounds i true) (a.put d v') w') : LOp P md ops Q F S fuel listed a w i := by
 refine LFall.op hf (fun K hK => ?_)
 cases hoi : ops[i]? with
 | none => rw [hoi] at ho; cases ho
 | some o =>
  rw [hoi, zqd, zqe, Prod.mk.injEq, Prod.mk.injEq] at ho
  show if Region.wanted o (yielded ops a.tmps) = true then _ else _
  rw [if_pos ho.1]
  refine wp_append_row w s x t ho.2.2 e j z size bytes ht hi hz hsize hby hzs hsz v n xs hs hown ad m c news hx hr h1 h63 hbytes ?_
  rw [ho.2.1]
  exact fun v' w' h3 h4 h5 => hK _ _ (h v' w' h3 h4 h5)
end
end Go.Tre
namespace Go.Tre
open Go.RowKit
theorem row_none (W : World) (sz : Nat) : Row W sz none 0 [] := ⟨by simp, fun j u hu => by simp at hu⟩
end Go.Tre
namespace Go.Proofs.YtoieknnnadgfpaaGreatDoor.gr
open Go.RowKit Go.Shelf Go.Maps Go.Tre lex
theorem heapSize_alloc (w : World) (o : Obj) : (w.alloc o).heap.size = w.heap.size + 1 := by simp
theorem infoN : (Tryz.prog.info? 33).map (fun i => (i.zero, i.size, i.bytes)) = some (some (.agg #[.int .i64 0, .string ByteArray.empty, .slice none 0 0, .slice none 0 0, .bool false]), 5, 80) := by kernel_rfl
theorem five {w0 w : World} {rs : List Res} {b : Nat} {t : TypeId} {x0 x1 x2 x3 x4 : Value} (h : Mem w0 w rs) (i : Nat) (hi : rs[i]? = some (cellsR b t #[x0, x1, x2, x3, x4])) :
  w.cell? ⟨b, 0, none⟩ = some x0 ∧ w.cell? ⟨b, 1, none⟩ = some x1 ∧ w.cell? ⟨b, 2, none⟩ = some x2 ∧ w.cell? ⟨b, 3, none⟩ = some x3 ∧ w.cell? ⟨b, 4, none⟩ = some x4 :=
 ⟨h.cell i hi 0 rfl, h.cell i hi 1 rfl, h.cell i hi 2 rfl, h.cell i hi 3 rfl, h.cell i hi 4 rfl⟩
end Go.Proofs.YtoieknnnadgfpaaGreatDoor.gr
