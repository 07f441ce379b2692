/- Drawn regions that make memory: each state that is reached is shown once, whatever the order in which it was. CanonRings: the walk. -/
import Derived.Test.YtaleodkbghogfaaGreatDoorB08
import Derived.Test.YtaleodkbghogfaaGreatDoorB09
import Derived.Test.YtaleodkbghogfaaGreatDoorB37
import Derived.Test.YtaleodkbghogfaaGreatDoorB26
import Derived.Deep.DeepCutAuto
import Derived.IntWalk
set_option linter.unusedVariables false
namespace Go.Tre
section
variable {P : Program} {ops : Array Oper} {Q : Exit → Act → World → Prop} {md : Region.Mode} {S : World → Prop} {F : List Nat}
variable {fuel : Nat} {listed : Array Bool} {a : Act} {w : World}
theorem lFour (i j k l : Nat) (hr : Region.ready md ops listed = [i, j, k, l]) (h1 : LOp P md ops Q F S fuel listed a w i) (h2 : LOp P md ops Q F S fuel listed a w j) (h3 : LOp P md ops Q F S fuel listed a w k) (h4 : LOp P md ops Q F S fuel listed a w l) : wpAnyL P md ops Q F S (fuel + 1) listed a w :=
 lNext hr (by simp) (fun m hm => by
  simp at hm
  rcases hm with rfl | rfl | rfl | rfl
  ·exact h1
  ·exact h2
  ·exact h3
  ·exact h4)
theorem lFive (i j k l n : Nat) (hr : Region.ready md ops listed = [i, j, k, l, n]) (h1 : LOp P md ops Q F S fuel listed a w i) (h2 : LOp P md ops Q F S fuel listed a w j) (h3 : LOp P md ops Q F S fuel listed a w k) (h4 : LOp P md ops Q F S fuel listed a w l) (h5 : LOp P md ops Q F S fuel listed a w n) : wpAnyL P md ops Q F S (fuel + 1) listed a w :=
 lNext hr (by simp) (fun m hm => by
  simp at hm
  rcases hm with rfl | rfl | rfl | rfl | rfl
  ·exact h1
  ·exact h2
  ·exact h3
  ·exact h4
  ·exact h5)
end
def bt (n k : Nat) : Array Bool := ((List.range n).map fun i => k.testBit i).toArray
structure Kept (p : Prop) : Type where
 out : p
abbrev GFun := Nat → Array Bool → Act → World → Prop
theorem with_G {G0 : GFun} {f : Nat} {l : Array Bool} {a : Act} {w : World} (h : ∀ G : GFun, Kept (G = G0) → ∀ a0 : Act, Kept (a0 = a) → G f l a0 w) : G0 f l a w := h _ ⟨rfl⟩ _ ⟨rfl⟩
theorem into_G {G G0 : GFun} (e : Kept (G = G0)) {f : Nat} {l : Array Bool} {a : Act} {w : World} (h : G0 f l a w) : G f l a w := e.out ▸ h
theorem outof_G {G G0 : GFun} (e : Kept (G = G0)) {f : Nat} {l l' : Array Bool} {a a' : Act} {w : World} (h : G f l' a' w) (hl : l = l') (ha : a = a') : G0 f l a w := e.out ▸ hl ▸ ha ▸ h
end Go.Tre
namespace Go.Tre
open Go.RowKit
section
variable {P : Program} {ops : Array Oper} {Q : Exit → Act → World → Prop} {md : Region.Mode} {S : World → Prop} {F : List Nat}
variable {fuel : Nat} {listed : Array Bool} {a : Act} {w : World}
def pureB (md : Region.Mode) (ops : Array Oper) (F : List Nat) (listed : Array Bool) (i : Nat) (d : Option Tmp) : Bool :=
 decide ((ops[i]?).map (·.dst) = some d) && (Region.noSelect ops && (Region.free md ops listed i && ((Region.ready md ops listed).contains i && !(F.contains i))))
theorem lPu (i : Nat) (d : Option Tmp) (v : Value) (hc : pureB md ops F listed i d = true) (hQ : ∀ c a w, Q (.panic c) (a.put d v) w → Q (.panic c) a w)
  (hy : ∀ w, (ops[i]?).map (fun o => (Region.wanted o (yielded ops a.tmps), (execOp a.eval o).run P w)) = some (true, .ok (.value v) w)) (hk : Keep F S listed w) (h : wpAnyL P md ops Q F S fuel (listed.setIfInBounds i true) (a.put d v) w) :
  wpAnyL P md ops Q F S (fuel + 1) listed a w := by
 unfold pureB at hc
 simp only [Bool.and_eq_true, decide_eq_true_eq, Bool.not_eq_true'] at hc
 obtain ⟨h1, h2, h3, h4, h5⟩ := hc
 cases ho : ops[i]? with
 | none => rw [ho] at h1; cases h1
 | some o =>
  refine lPure d h1 h2 h3 h4 h5 hQ ?_ (fun w => ?_) hk h
  ·have := hy w
   rw [ho, Tre.qd, Tre.qe, Prod.mk.injEq] at this
   rw [ho, Tre.qd, this.1]
  ·have := hy w
   rw [ho, Tre.qd, Tre.qe, Prod.mk.injEq] at this
   rw [ho, Tre.qd, this.2]
theorem wp_value {o : Oper} {v : Value} {w' : World} {K : Act → World → Prop} (h : (execOp a.eval o).run P w = .ok (.value v) w') (hK : K (a.put o.dst v) w') : o.wp P a w K Q := by
 unfold Oper.wp
 rw [h]
 exact hK
theorem LStep.made {i : Nat} (d : Option Tmp) (v : Value) (w' : World) (hd : (ops[i]?).map (·.dst) = some d) (hy : (ops[i]?).map (fun o => (Region.wanted o (yielded ops a.tmps), (execOp a.eval o).run P w)) = some (true, .ok (.value v) w'))
  (hS : S w') (h : wpAnyL P md ops Q F S fuel (listed.setIfInBounds i true) (a.put d v) w') : LOp P md ops Q F S fuel listed a w i := by
 refine LStep.op (fun K hK => ?_)
 cases ho : ops[i]? with
 | none => rw [ho] at hd; cases hd
 | some o =>
  rw [ho, Tre.qd, Tre.qe] at hd hy
  rw [Prod.mk.injEq] at hy
  show if Region.wanted o (yielded ops a.tmps) = true then _ else _
  rw [if_pos hy.1]
  refine wp_value hy.2 ?_
  rw [hd]
  exact hK _ _ hS (fun _ => h)
theorem LFall.made {i : Nat} (d : Option Tmp) (v : Value) (w' : World) (hi : F.any (fun f => (listed.setIfInBounds i true).getD f true) = true) (hd : (ops[i]?).map (·.dst) = some d) (hy : (ops[i]?).map (fun o => (Region.wanted o (yielded ops a.tmps), (execOp a.eval o).run P w)) = some (true, .ok (.value v) w'))
  (h : wpAnyL P md ops Q F S fuel (listed.setIfInBounds i true) (a.put d v) w') : LOp P md ops Q F S fuel listed a w i := by
 refine LFall.op hi (fun K hK => ?_)
 cases ho : ops[i]? with
 | none => rw [ho] at hd; cases hd
 | some o =>
  rw [ho, Tre.qd, Tre.qe] at hd hy
  rw [Prod.mk.injEq] at hy
  show if Region.wanted o (yielded ops a.tmps) = true then _ else _
  rw [if_pos hy.1]
  refine wp_value hy.2 ?_
  rw [hd]
  exact hK _ _ h
theorem LStep.app {i : Nat} (d : Option Tmp) (s x : Operand) (t : TypeId)
  (ho : (ops[i]?).map (fun o => (Region.wanted o (yielded ops a.tmps), o.dst, o.op)) = some (true, d, .call { callee := .builtin .append, args := #[s, x], argTypes := #[t, t] }))
  (e : TypeId) (j : TypeInfo) (z : Value) (size bytes : Nat) (ht : P.underlying t = some (.slice e)) (hi : P.info? e = some j) (hz : j.zero = some z)
  (hsize : j.size = size) (hby : j.bytes = bytes) (hzs : z.cells.size = size) (hsz : 0 < size)
  (v : Value) (n : Nat) (xs : List Value) (hs : a.eval s = v) (hown : w.ownsRow 0 e size v n xs)
  (ad : Option Addr) (m c : Nat) (news : List Value) (hx : a.eval x = .slice ad m c) (hr : Row w size ad m news) (h1 : ∀ u ∈ news, u.oneCell' = true)
  (h63 : n + m ≤ maxLen) (hbytes : (n + m) * bytes ≤ 140737488355328)
  (h : ∀ v' w', w'.ownsRow 0 e size v' (n + m) (xs ++ news) → w.grownBy w' v.ownBlock → (v'.ownBlock = v.ownBlock ∨ v'.ownBlock = some w.heap.size) → S w' ∧ (S w' → wpAnyL P md ops Q F S fuel (listed.setIfInBounds i true) (a.put d v') w')) : LOp P md ops Q F S fuel listed a w i := by
 refine LStep.op (fun K hK => ?_)
 cases hoi : ops[i]? with
 | none => rw [hoi] at ho; cases ho
 | some o =>
  rw [hoi, Tre.qd, Tre.qe, Prod.mk.injEq, Prod.mk.injEq] at ho
  show if Region.wanted o (yielded ops a.tmps) = true then _ else _
  rw [if_pos ho.1]
  refine wp_append_row w s x t ho.2.2 e j z size bytes ht hi hz hsize hby hzs hsz v n xs hs hown ad m c news hx hr h1 h63 hbytes ?_
  rw [ho.2.1]
  exact fun v' w' h3 h4 h5 => hK _ _ (h v' w' h3 h4 h5).1 (h v' w' h3 h4 h5).2
theorem LFall.app {i : Nat} (hf : F.any (fun f => (listed.setIfInBounds i true).getD f true) = true) (d : Option Tmp) (s x : Operand) (t : TypeId)
  (ho : (ops[i]?).map (fun o => (Region.wanted o (yielded ops a.tmps), o.dst, o.op)) = some (true, d, .call { callee := .builtin .append, args := #[s, x], argTypes := #[t, t] }))
  (e : TypeId) (j : TypeInfo) (z : Value) (size bytes : Nat) (ht : P.underlying t = some (.slice e)) (hi : P.info? e = some j) (hz : j.zero = some z)
  (hsize : j.size = size) (hby : j.bytes = bytes) (hzs : z.cells.size = size) (hsz : 0 < size)
  (v : Value) (n : Nat) (xs : List Value) (hs : a.eval s = v) (hown : w.ownsRow 0 e size v n xs)
  (ad : Option Addr) (m c : Nat) (news : List Value) (hx : a.eval x = .slice ad m c) (hr : Row w size ad m news) (h1 : ∀ u ∈ news, u.oneCell' = true)
  (h63 : n + m ≤ maxLen) (hbytes : (n + m) * bytes ≤ 140737488355328)
  (h : ∀ v' w', w'.ownsRow 0 e size v' (n + m) (xs ++ news) → w.grownBy w' v.ownBlock → (v'.ownBlock = v.ownBlock ∨ v'.ownBlock = some w.heap.size) → wpAnyL P md ops Q F S fuel (listed.setIfInBounds i true) (a.put d v') w') : LOp P md ops Q F S fuel listed a w i := by
 refine LFall.op hf (fun K hK => ?_)
 cases hoi : ops[i]? with
 | none => rw [hoi] at ho; cases ho
 | some o =>
  rw [hoi, Tre.qd, Tre.qe, Prod.mk.injEq, Prod.mk.injEq] at ho
  show if Region.wanted o (yielded ops a.tmps) = true then _ else _
  rw [if_pos ho.1]
  refine wp_append_row w s x t ho.2.2 e j z size bytes ht hi hz hsize hby hzs hsz v n xs hs hown ad m c news hx hr h1 h63 hbytes ?_
  rw [ho.2.1]
  exact fun v' w' h3 h4 h5 => hK _ _ (h v' w' h3 h4 h5)
end
end Go.Tre
namespace Go.Proofs.YtaleodkbghogfaaGreatDoor.gr
open Go.RowKit Go.Shelf Go.Maps Go.Tre lex
theorem nrow5r {w : World} {a : Option Addr} {c n : Nat} {L : List Value} (h : w.ownsRow 0 33 5 (.slice a n c) n L) : Row w 5 a n L := by
 obtain ⟨a', c', e, _, r⟩ := row_read h
 cases e
 exact r
theorem push2h {w0 w : World} {h n a b : Res} {l rs : List Res} (M : Mem w0 w (h :: n :: b :: a :: manyR l :: rs)) : Mem w0 w (h :: n :: manyR (l ++ [a, b]) :: rs) := by
 have h1 : Mem w0 w (manyR l :: h :: n :: b :: a :: rs) := M.front 4 rfl
 have h2 : Mem w0 w (a :: manyR l :: h :: n :: b :: rs) := h1.front 4 rfl
 have h3 : Mem w0 w (b :: manyR (l ++ [a]) :: h :: n :: rs) := h2.into.front 3 rfl
 have h4 : Mem w0 w (n :: manyR ((l ++ [a]) ++ [b]) :: h :: rs) := h3.into.front 2 rfl
 have h5 : Mem w0 w (h :: n :: manyR ((l ++ [a]) ++ [b]) :: rs) := h4.front 2 rfl
 rw [List.append_assoc] at h5
 exact h5
theorem nodes_set_row {e : TypeId} (v : Value) (ds : List NodeV) (k j : Nat) (d d' : NodeV) (u : Value) (hd : ds[k]? = some d) (hj : j < 5) (hc : d.cells.set j u = d'.cells) (he : e = 33) : rowR e 5 v ds.length ((ds.flatMap NodeV.cells).set (k * 5 + j) u) = nodesR v (ds.set k d') := by
 subst he
 unfold nodesR
 rw [List.length_set, cells_set ds k j d d' u hd hj hc]
theorem vals_kids {w : World} {ds : List NodeV} (h : (kidsR ds).P w) : ∀ d ∈ ds, NodeVal w d := fun d hd =>
 NodeVal.kids (fun r hr => h r (List.mem_flatMap.2 ⟨d, hd, hr⟩))
theorem vals_set {w : World} {ds : List NodeV} {k : Nat} {d' : NodeV} (h : ∀ d ∈ ds, NodeVal w d) (h' : NodeVal w d') : ∀ d ∈ ds.set k d', NodeVal w d := fun d hd => by
 rcases List.mem_or_eq_of_mem_set hd with e | rfl
 ·exact h d e
 ·exact h'
theorem ring_call {k : Nat} {lab : Nat → ByteArray} {op : Nat → Bool} (w : World) (aN : Option Addr) (cN : Nat) (ds : List NodeV) (hX : MaxAt w) (hT : TabAt w) (hds : ds.map NodeV.n = (ringG k lab op).ns) (hv : ∀ d ∈ ds, NodeVal w d) (hn : (nodesR (.slice aN ds.length cN) ds).P w) (hl : ∀ i, (lab i).size ≤ 5) (h0 : 0 < k) (hk : k ≤ 21) (hnm : ∀ i, isName (lab i) = true) :
  Calls Tryz.prog 13 #[.agg #[.slice aN ds.length cN, .int .i64 0]] w fun e w' => ∃ v dh, e = .returned (.agg #[v, .int .i64 0]) ∧ dh.length = (ringG k lab op).leastG.ns.length ∧ Mem w w' [nodesR v dh, kidsR dh] := by
 have NA := nodesAt_of hn hv
 rw [hds] at NA
 have hl2 : (ringG k lab op).ns.length = ds.length := by rw [← hds, List.length_map]
 have K := least_any aN cN (ringG k lab op) w NA (by have := ring_weight (op := op) hl hk; omega) hX hT (ring_ok h0 (by omega) hnm)
 rw [hl2] at K
 refine K.mono ?_
 rintro e w' ⟨v, dh, rfl, hd, m⟩
 exact ⟨v, dh, rfl, by rw [← hd, List.length_map], m⟩
set_option maxRecDepth 100000 in
set_option maxHeartbeats 16000000 in
theorem cringsLaw (N M : Nat) (op : Bool) (w : World) (hN : N ≤ 255) (hM : M ≤ 255) (E : LexEnv w) (ht : TabAt w) :
  Calls Tryz.prog 4 #[.int .u8 (N : Int), .int .u8 (M : Int), .bool op] w fun e w' => e = .returned (.bool true) ∧ Below w.heap.size w w' := by
 have HX := Tre.hid E.max
 have HT := Tre.hid ht
 have HAL := Tre.hid (alive09 _ E ht)
 clear E ht
 obtain ⟨ni, I1, I2, I3, I4⟩ := info_parts infoN
 have J1 := Tre.hid I1
 have J2 := Tre.hid I2
 have J3 := Tre.hid I3
 have J4 := Tre.hid I4
 clear I1 I2 I3 I4
 go_enter Tryz.func4, Tryz.ntmps4
 go_wp2_with fail
 refine HAL.out.mono ?_
 rintro e w1 ⟨rfl, b1⟩
 have HM1 := Tre.hid ((Mem.nil w).quiet b1)
 clear b1 HAL
 obtain ⟨k, hk⟩ : ∃ k : Nat, k = N % 20 + 2 := ⟨_, rfl⟩
 have hk2 : 2 ≤ k := by omega
 have hk21 : k ≤ 21 := by omega
 have hkI : (N : Int) % 20 + 2 = (k : Int) := by omega
 clear hk
 have MB0 := HM1.out.allocR #[.slice none 0 0, .int .i64 0] 24
 have HMB : Hid (Mem w _ [cellsR w1.heap.size 24 #[.slice none 0 0, .int .i64 0], nodesR (.slice none 0 0) [], kidsR []]) := (MB0.addMany.addNil 33 5).front 2 rfl
 clear MB0
 go_wp2_with fail
 clear hkI HM1
 generalize w1.alloc (.cells #[.slice none 0 0, .int .i64 0] 24) = wz at *
 generalize w1.heap.size = b8 at *
 go_loopw [18] (fun v18 wr => ∃ (i : Nat) (aN : Option Addr) (cN : Nat) (ds : List NodeV), i ≤ k ∧ v18 = .int .i64 (i : Int) ∧ Hid (ds.map NodeV.n = (List.range i).map (ringNode k (fun _ => nextB) (fun _ => false))) ∧ Hid (Mem w wr [cellsR b8 24 #[.slice aN ds.length cN, .int .i64 0], nodesR (.slice aN ds.length cN) ds, kidsR ds]))
  (fun v18 _ => k - (intOf v18).toNat)
 case atStart => exact ⟨0, none, 0, [], Nat.zero_le _, rfl, rfl, HMB.out⟩
 case round =>
  obtain ⟨i, aN, cN, ds, hi, rfl, hds, HQ⟩ := hrel
  have hd4 : ds.length ≤ 21 := by have := congrArg List.length hds.out; rw [List.length_map, List.length_map, List.length_range] at this; omega
  by_cases hlt : i < k
  ·obtain ⟨q, hq⟩ : ∃ q : Nat, (i + 1) % k = q := ⟨_, rfl⟩
   have HQV : Hid ((q : Int) = (((i + 1) % k : Nat) : Int)) := by show _ = _; rw [hq]
   have HKN : Hid (((i : Int) + 1).tmod (k : Int) = (q : Int)) := by show _ = _; rw [Int.tmod_eq_emod_of_nonneg (by omega), ← hq, Int.natCast_emod]; rfl
   clear hq
   go_upto_region 8 with fail
   have hn0 : ¬ k = 0 := by omega
   have hkq := HKN.out
   have HWI : Hid (IntKind.i64.wrap ((i : Int) + 1) = (i : Int) + 1) := IntWalk.i64_in _ (by omega)
   have hkq2 : ((i : Int) + 1) % (k : Int) = (q : Int) := by rw [← hkq, Int.tmod_eq_emod_of_nonneg (by omega)]
   have hi1 : (i : Int) + 1 ≤ 400 := by omega
   first | rw [show decide ((i : Int) < (k : Int)) = true from decide_eq_true (by omega)] | rw [show decide (i < k) = true from decide_eq_true hlt] | skip
   have HLT := Tre.hid hlt
   clear hlt
   refine wp_region_keep (S := (fun w' => w'.cell? ⟨b8, 0, none⟩ = some (.slice aN ds.length cN))) [10, 12] (by kernel_rfl) ?_ (fun hH => ?_)
   ·exact HQ.out.drew.cell 0 rfl 0 rfl
   have HC := Tre.hid HQ.out.drew
   generalize hq : World.drew _ = wq0 at HC hH ⊢
   clear hq
   refine lPu 0 (some 21) (.pointer (some ⟨b8, 0, none⟩)) (by kernel_rfl) (fun _ _ _ h => h) (fun w => by kernel_rfl) (keep_of hH) ?_
   try simp only [Act.put, Tre.qf, Tre.qg, Tre.qh]
   refine lTake (i := 1) (some 22) (v := ?_) (by rfl) (by kernel_rfl) (by kernel_rfl) (by kernel_rfl) (by kernel_rfl) (by kernel_rfl) (fun _ _ _ h => h) (by rfl) ?_ hH ?_
   rotate_left
   ·intro w hSw; (try dsimp only at hSw); simp only [Tre.qa, Tre.qb, Tre.qc, Tre.qd, Tre.qe]; (first | (go_simp; done) | (go_simp; with_reducible rfl))
   try simp only [Act.put, Tre.qf, Tre.qg, Tre.qh]
   refine lPu 3 (some 24) (.int .i64 (i : Int)) (by kernel_rfl) (fun _ _ _ h => h) (fun w => by kernel_rfl) (keep_of hH) ?_
   refine lPu 4 (some 25) (.int .i64 ((i : Int) + 1)) (by kernel_rfl) (fun _ _ _ h => h) (fun w => Eq.trans (b := some (true, .ok (.value (.int .i64 (IntKind.i64.wrap ((i : Int) + 1)))) w)) (by kernel_rfl) (by rw [HWI.out])) (keep_of hH) ?_
   refine lPu 5 (some 26) (.int .i64 (k : Int)) (by kernel_rfl) (fun _ _ _ h => h) (fun w => by kernel_rfl) (keep_of hH) ?_
   try simp only [Act.put, Tre.qf, Tre.qg, Tre.qh]
   refine lPure (i := 6) (some 27) (v := ?_) (by rfl) (by kernel_rfl) (by kernel_rfl) (by kernel_rfl) (by kernel_rfl) (fun _ _ _ h => h) (by rfl) ?_ (keep_of hH) ?_
   rotate_left
   ·intro w; simp only [Tre.qa, Tre.qb, Tre.qc, Tre.qd, Tre.qe]; (first | (go_simp; done) | (go_simp; with_reducible rfl))
   try simp only [Act.put, Tre.qf, Tre.qg, Tre.qh]
   refine with_G (G0 := wpAnyL _ _ _ _ _ _) ?_
   intro G hG a0 hA
   have Z0 : Kept (∀ (b23 : Nat) (b28 : Nat) (b30 : Nat) (a31 : Option Addr) (c31 : Nat) (wq : World), Hid (Mem w wq [cellsR b8 24 #[.slice a31 (ds.length + 1) c31, .int .i64 0], rowR 33 5 (.slice a31 (ds.length + 1) c31) (ds.length + 1) ((ds.flatMap NodeV.cells) ++ [.int .i64 3, .string { data := #[] }, .slice (some ⟨b28, 0, none⟩) 1 1, .slice (some ⟨b23, 0, none⟩) 1 1, .bool false]), rowR 9 1 (.slice (some ⟨b23, 0, none⟩) 1 1) 1 [.string { data := #[110, 101, 120, 116] }], rowR 3 1 (.slice (some ⟨b28, 0, none⟩) 1 1) 1 [.int .i64 (q : Int)], kidsR ds]) → G 0 (bt 13 8191) ((((((a0.put (some 23) (.slice (some ⟨b23, 0, none⟩) 1 1)).put (some 28) (.slice (some ⟨b28, 0, none⟩) 1 1)).put (some 29) (.agg #[.int .i64 3, .string { data := #[] }, .slice (some ⟨b28, 0, none⟩) 1 1, .slice (some ⟨b23, 0, none⟩) 1 1, .bool false])).put (some 30) (.slice (some ⟨b30, 0, none⟩) 1 1)).put (some 31) (.slice a31 (ds.length + 1) c31)).put (some 32) (.pointer (some ⟨b8, 0, none⟩))) wq) := ⟨by
    intro b23 b28 b30 a31 c31 wq HC
    refine into_G hG ?_
    rw [hA.out]
    simp only [Act.put, Tre.qf, Tre.qg, Tre.qh]
    refine lDone (by kernel_rfl) ?_
    clear hA hG
    go_wp2_with fail
    go_roundw
    case rel =>
     refine ⟨i + 1, a31, c31, ds ++ [⟨ringNode k (fun _ => nextB) (fun _ => false) i, .slice (some ⟨b28, 0, none⟩) 1 1, .slice (some ⟨b23, 0, none⟩) 1 1⟩], by have := HLT.out; omega, by go_num, ?_, ?_⟩
     ·show _ = _
      rw [List.map_append, hds.out, List.range_succ, List.map_append]
      rfl
     ·have hl1 : (ds ++ [(⟨ringNode k (fun _ => nextB) (fun _ => false) i, .slice (some ⟨b28, 0, none⟩) 1 1, .slice (some ⟨b23, 0, none⟩) 1 1⟩ : NodeV)]).length = ds.length + 1 := by simp
      rw [hl1]
      show Mem _ _ _
      rw [nodesR_snoc, kidsR_snoc]
      have HQ2 := HC.out
      rw [show (q : Int) = (((i + 1) % k : Nat) : Int) from HQV.out] at HQ2
      exact push2h HQ2
    case measure => have := HLT.out; simp [intOf]; omega
   ⟩
   have Z1 : Kept (∀ (b23 : Nat) (b28 : Nat) (b30 : Nat) (a31 : Option Addr) (c31 : Nat) (wq : World), Hid (Mem w wq [cellsR b8 24 #[.slice aN ds.length cN, .int .i64 0], rowR 33 5 (.slice a31 (ds.length + 1) c31) (ds.length + 1) ((ds.flatMap NodeV.cells) ++ [.int .i64 3, .string { data := #[] }, .slice (some ⟨b28, 0, none⟩) 1 1, .slice (some ⟨b23, 0, none⟩) 1 1, .bool false]), rowR 9 1 (.slice (some ⟨b23, 0, none⟩) 1 1) 1 [.string { data := #[110, 101, 120, 116] }], rowR 3 1 (.slice (some ⟨b28, 0, none⟩) 1 1) 1 [.int .i64 (q : Int)], kidsR ds]) → G 1 (bt 13 4095) ((((((a0.put (some 23) (.slice (some ⟨b23, 0, none⟩) 1 1)).put (some 28) (.slice (some ⟨b28, 0, none⟩) 1 1)).put (some 29) (.agg #[.int .i64 3, .string { data := #[] }, .slice (some ⟨b28, 0, none⟩) 1 1, .slice (some ⟨b23, 0, none⟩) 1 1, .bool false])).put (some 30) (.slice (some ⟨b30, 0, none⟩) 1 1)).put (some 31) (.slice a31 (ds.length + 1) c31)).put (some 32) (.pointer (some ⟨b8, 0, none⟩))) wq) := ⟨by
    intro b23 b28 b30 a31 c31 wq HC
    refine into_G hG ?_
    rw [hA.out]
    simp only [Act.put, Tre.qf, Tre.qg, Tre.qh]
    refine lOne 12 (by kernel_rfl) ?_
    ·
     refine (LFall.op (by kernel_rfl) (fun K hK => ?_))
     have z0 := HC.out.free 0 rfl 0
     have y0 := HC.out.cell 0 rfl 0 rfl
     have HN := Tre.hid (HC.out.setCell 0 rfl 0 (.slice a31 (ds.length + 1) c31))
     go_simp
     clear z0 y0
     generalize hw : wq.setCell ⟨b8, 0, none⟩ _ = wr at HN ⊢
     clear hw
     refine hK.out _ _ ?_
     exact outof_G hG (Z0.out b23 b28 b30 a31 c31 wr HN) (by kernel_rfl) (by rw [hA.out]; try kernel_rfl)
   ⟩
   have Z2 : Kept (∀ (b23 : Nat) (b28 : Nat) (b30 : Nat) (wq : World), Hid (Mem w wq [cellsR b8 24 #[.slice aN ds.length cN, .int .i64 0], nodesR (.slice aN ds.length cN) ds, rowR 33 5 (.slice (some ⟨b30, 0, none⟩) 1 1) 1 [.int .i64 3, .string { data := #[] }, .slice (some ⟨b28, 0, none⟩) 1 1, .slice (some ⟨b23, 0, none⟩) 1 1, .bool false], rowR 9 1 (.slice (some ⟨b23, 0, none⟩) 1 1) 1 [.string { data := #[110, 101, 120, 116] }], rowR 3 1 (.slice (some ⟨b28, 0, none⟩) 1 1) 1 [.int .i64 (q : Int)], kidsR ds]) → G 3 (bt 13 1023) ((((a0.put (some 23) (.slice (some ⟨b23, 0, none⟩) 1 1)).put (some 28) (.slice (some ⟨b28, 0, none⟩) 1 1)).put (some 29) (.agg #[.int .i64 3, .string { data := #[] }, .slice (some ⟨b28, 0, none⟩) 1 1, .slice (some ⟨b23, 0, none⟩) 1 1, .bool false])).put (some 30) (.slice (some ⟨b30, 0, none⟩) 1 1)) wq) := ⟨by
    intro b23 b28 b30 wq HC
    refine into_G hG ?_
    rw [hA.out]
    have hH := HC.out.cell 0 rfl 0 rfl
    refine lOne 10 (by kernel_rfl) ?_
    ·
     refine LFall.app (by kernel_rfl) (some 31) (.tmp 22) (.tmp 30) 22 (by kernel_rfl) 33 ni _ 5 80 Tryz.underlying22 J1.out J2.out J3.out J4.out rfl (by omega) (.slice aN ds.length cN) ds.length (ds.flatMap NodeV.cells) (by kernel_rfl) (HC.out.row 1 rfl) (some ⟨b30, 0, none⟩) 1 1 [.int .i64 3, .string { data := #[] }, .slice (some ⟨b28, 0, none⟩) 1 1, .slice (some ⟨b23, 0, none⟩) 1 1, .bool false] (by kernel_rfl) (nrow5r (HC.out.row 2 rfl)) (by simp [Value.oneCell']) (by unfold maxLen; omega) (by omega) ?_
     intro v' wr hown4 hgrow4 hat4
     have M4 := HC.out.grow 1 rfl hgrow4 hown4 hat4
     obtain ⟨a31, c31, rfl, _⟩ := M4.val 1 rfl
     have HN := Tre.hid (M4.del 2)
     clear M4 hown4 hgrow4 hat4
     refine lPu 11 (some 32) (.pointer (some ⟨b8, 0, none⟩)) (by kernel_rfl) (fun _ _ _ h => h) (fun w => by kernel_rfl) (keep_fell (by kernel_rfl)) ?_
     exact outof_G hG (Z1.out b23 b28 b30 a31 c31 wr HN) (by kernel_rfl) (by rw [hA.out]; try kernel_rfl)
   ⟩
   have Z3 : Kept (∀ (b23 : Nat) (b28 : Nat) (wq : World), Hid (Mem w wq [cellsR b8 24 #[.slice aN ds.length cN, .int .i64 0], nodesR (.slice aN ds.length cN) ds, rowR 9 1 (.slice (some ⟨b23, 0, none⟩) 1 1) 1 [.string { data := #[110, 101, 120, 116] }], rowR 3 1 (.slice (some ⟨b28, 0, none⟩) 1 1) 1 [.int .i64 (q : Int)], kidsR ds]) → G 4 (bt 13 511) (((a0.put (some 23) (.slice (some ⟨b23, 0, none⟩) 1 1)).put (some 28) (.slice (some ⟨b28, 0, none⟩) 1 1)).put (some 29) (.agg #[.int .i64 3, .string { data := #[] }, .slice (some ⟨b28, 0, none⟩) 1 1, .slice (some ⟨b23, 0, none⟩) 1 1, .bool false])) wq) := ⟨by
    intro b23 b28 wq HC
    refine into_G hG ?_
    rw [hA.out]
    have hH := HC.out.cell 0 rfl 0 rfl
    refine lOne 9 (by kernel_rfl) ?_
    ·
     have HN := Tre.hid (HC.out.allocRow #[.int .i64 3, .string { data := #[] }, .slice (some ⟨b28, 0, none⟩) 1 1, .slice (some ⟨b23, 0, none⟩) 1 1, .bool false] 33 5 1 (by unfold maxLen; omega) rfl)
     have HC := Tre.hid (((HN.out.front 0 rfl).front 2 rfl).front 2 rfl)
     clear HN
     have hH2 := HC.out.cell 0 rfl 0 rfl
     refine LStep.made (some 30) (.slice (some ⟨wq.heap.size, 0, none⟩) 1 1) _ (by kernel_rfl) (by kernel_rfl) hH2 ?_
     exact outof_G hG (Z2.out b23 b28 wq.heap.size _ HC) (by kernel_rfl) (by rw [hA.out]; try kernel_rfl)
   ⟩
   have Z4 : Kept (∀ (b23 : Nat) (wq : World), Hid (Mem w wq [cellsR b8 24 #[.slice aN ds.length cN, .int .i64 0], nodesR (.slice aN ds.length cN) ds, rowR 9 1 (.slice (some ⟨b23, 0, none⟩) 1 1) 1 [.string { data := #[110, 101, 120, 116] }], kidsR ds]) → G 6 (bt 13 127) (a0.put (some 23) (.slice (some ⟨b23, 0, none⟩) 1 1)) wq) := ⟨by
    intro b23 wq HC
    refine into_G hG ?_
    rw [hA.out]
    have hH := HC.out.cell 0 rfl 0 rfl
    refine lOne 7 (by kernel_rfl) ?_
    ·
     have HN := Tre.hid (HC.out.allocRow #[.int .i64 (q : Int)] 3 1 1 (by unfold maxLen; omega) rfl)
     have HC := Tre.hid ((((HN.out.front 0 rfl).front 3 rfl).front 3 rfl).front 3 rfl)
     clear HN
     have hH2 := HC.out.cell 0 rfl 0 rfl
     refine LStep.made (some 28) (.slice (some ⟨wq.heap.size, 0, none⟩) 1 1) _ (by kernel_rfl) (by kernel_rfl) hH2 ?_
     refine lPu 8 (some 29) (.agg #[.int .i64 3, .string { data := #[] }, .slice (some ⟨wq.heap.size, 0, none⟩) 1 1, .slice (some ⟨b23, 0, none⟩) 1 1, .bool false]) (by kernel_rfl) (fun _ _ _ h => h) (fun w => by kernel_rfl) (keep_of hH2) ?_
     exact outof_G hG (Z3.out b23 wq.heap.size _ HC) (by kernel_rfl) (by rw [hA.out]; try kernel_rfl)
   ⟩
   have Z5 : Kept (∀ (b28 : Nat) (wq : World), Hid (Mem w wq [cellsR b8 24 #[.slice aN ds.length cN, .int .i64 0], nodesR (.slice aN ds.length cN) ds, rowR 3 1 (.slice (some ⟨b28, 0, none⟩) 1 1) 1 [.int .i64 (q : Int)], kidsR ds]) → G 6 (bt 13 251) (a0.put (some 28) (.slice (some ⟨b28, 0, none⟩) 1 1)) wq) := ⟨by
    intro b28 wq HC
    refine into_G hG ?_
    rw [hA.out]
    have hH := HC.out.cell 0 rfl 0 rfl
    refine lOne 2 (by kernel_rfl) ?_
    ·
     have HN := Tre.hid (HC.out.allocRow #[.string { data := #[110, 101, 120, 116] }] 9 1 1 (by unfold maxLen; omega) rfl)
     have HC := Tre.hid (((HN.out.front 0 rfl).front 2 rfl).front 2 rfl)
     clear HN
     have hH2 := HC.out.cell 0 rfl 0 rfl
     refine LStep.made (some 23) (.slice (some ⟨wq.heap.size, 0, none⟩) 1 1) _ (by kernel_rfl) (by kernel_rfl) hH2 ?_
     refine lPu 8 (some 29) (.agg #[.int .i64 3, .string { data := #[] }, .slice (some ⟨b28, 0, none⟩) 1 1, .slice (some ⟨wq.heap.size, 0, none⟩) 1 1, .bool false]) (by kernel_rfl) (fun _ _ _ h => h) (fun w => by kernel_rfl) (keep_of hH2) ?_
     exact outof_G hG (Z3.out wq.heap.size b28 _ HC) (by kernel_rfl) (by rw [hA.out]; try kernel_rfl)
   ⟩
   have Z6 : Kept (∀ (wq : World), Hid (Mem w wq [cellsR b8 24 #[.slice aN ds.length cN, .int .i64 0], nodesR (.slice aN ds.length cN) ds, kidsR ds]) → G 7 (bt 13 123) (a0) wq) := ⟨by
    intro  wq HC
    refine into_G hG ?_
    rw [hA.out]
    have hH := HC.out.cell 0 rfl 0 rfl
    refine lTwo 2 7 (by kernel_rfl) ?_ ?_
    ·
     have HN := Tre.hid (HC.out.allocRow #[.string { data := #[110, 101, 120, 116] }] 9 1 1 (by unfold maxLen; omega) rfl)
     have HC := Tre.hid (((HN.out.front 0 rfl).front 2 rfl).front 2 rfl)
     clear HN
     have hH2 := HC.out.cell 0 rfl 0 rfl
     refine LStep.made (some 23) (.slice (some ⟨wq.heap.size, 0, none⟩) 1 1) _ (by kernel_rfl) (by kernel_rfl) hH2 ?_
     exact outof_G hG (Z4.out wq.heap.size _ HC) (by kernel_rfl) (by rw [hA.out]; try kernel_rfl)
    ·
     have HN := Tre.hid (HC.out.allocRow #[.int .i64 (q : Int)] 3 1 1 (by unfold maxLen; omega) rfl)
     have HC := Tre.hid (((HN.out.front 0 rfl).front 2 rfl).front 2 rfl)
     clear HN
     have hH2 := HC.out.cell 0 rfl 0 rfl
     refine LStep.made (some 28) (.slice (some ⟨wq.heap.size, 0, none⟩) 1 1) _ (by kernel_rfl) (by kernel_rfl) hH2 ?_
     exact outof_G hG (Z5.out wq.heap.size _ HC) (by kernel_rfl) (by rw [hA.out]; try kernel_rfl)
   ⟩
   exact Z6.out  wq0 HC
  ·have e : i = k := by omega
   have hns : ds.map NodeV.n = (ringG k (fun _ => nextB) (fun _ => false)).ns := by rw [hds.out, e]; rfl
   have HDS := Tre.hid hns
   have HDL : Hid (ds.length = k) := by show _ = _; have := congrArg List.length hns; rw [List.length_map, ring_len] at this; exact this
   have HCL : Hid (∀ W, Mem w W [cellsR b8 24 #[.slice aN ds.length cN, .int .i64 0], nodesR (.slice aN ds.length cN) ds, kidsR ds] → Calls Tryz.prog 13 #[.agg #[.slice aN ds.length cN, .int .i64 0]] W fun e w' => ∃ v dh, e = .returned (.agg #[v, .int .i64 0]) ∧ dh.length = 1 ∧ Mem W w' [nodesR v dh, kidsR dh]) := fun W hW => by
    have K := ring_call W aN cN ds (HX.out.below hW.below) (HT.out.below hW.below) hns (vals_kids (hW.at_ 2 rfl)) (hW.at_ 1 rfl) (fun _ => by decide) (by omega) (by omega) names_next
    rw [ring_first (by omega) (by omega)] at K
    exact K
   clear e hns hds
   have hfd := fieldG
   obtain ⟨g0, g1⟩ := HQ.out.two 0 rfl
   go_wp2_with fail
   refine (HCL.out _ HQ.out).mono ?_
   rintro e w2 ⟨v, dh, rfl, hdh, mq⟩
   obtain ⟨aL, cL, rfl, _⟩ := mq.val 0 rfl
   rw [hdh]
   have HQ2 := Tre.hid ((HQ.out.call mq).drop1.drop1)
   clear mq hdh g0 g1 HQ HCL
   obtain ⟨q, hq⟩ : ∃ q : Nat, M % k = q := ⟨_, rfl⟩
   have hqk : q < k := by rw [← hq]; exact Nat.mod_lt _ (by omega)
   have hq1 : (M : Int).tmod (k : Int) = (q : Int) := by rw [Int.tmod_eq_emod_of_nonneg (by omega), ← hq]; omega
   have hq2 : (M : Int) % (k : Int) = (q : Int) := by rw [← hq]; omega
   have hn0 : ¬ k = 0 := by omega
   clear hq
   have hqd : q < ds.length := by rw [HDL.out]; exact hqk
   obtain ⟨d, hd⟩ : ∃ d, ds[q]? = some d := ⟨_, List.getElem?_eq_getElem hqd⟩
   have hdn : d.n = ringNode k (fun _ => nextB) (fun _ => false) q := by
    have h1 := congrArg (fun l => l[q]?) HDS.out
    simp only [List.getElem?_map, hd, Tre.qd] at h1
    rw [show (ringG k (fun _ => nextB) (fun _ => false)).ns = (List.range k).map (ringNode k (fun _ => nextB) (fun _ => false)) from rfl, List.getElem?_map, List.getElem?_range hqk] at h1
    exact Option.some.inj h1
   have HD := Tre.hid hd
   have HDN := Tre.hid hdn
   have hmem := List.mem_of_getElem? hd
   have HDM := Tre.hid hmem
   obtain ⟨gN, rfl, _, _, hc4⟩ := HQ2.out.getRow 1 rfl (q * 5 + 4) ((cells_at ds q 4 d hd (by omega)).trans rfl)
   have m1 : (0 : Int) ≤ (q : Int) := by omega
   have m2 : (q : Int) < (ds.length : Int) := by omega
   have f4 := HQ2.out.freeAt 1 rfl (q * 5 + 4)
   have p0 := HQ2.out.cell 0 rfl 0 rfl
   clear hd hdn hmem
   cases op with
   | true =>
    have M3 := HQ2.out.setRow 1 rfl (q * 5 + 4) (.bool true)
    obtain ⟨r0, r1⟩ := M3.two 0 rfl
    have HM3 := Tre.hid M3
    clear M3
    go_wp2_with fail
    generalize hw : w2.setCell ⟨gN, q * 5 + 4, none⟩ (.bool true) = w3 at *
    clear hw
    have e1 := nodes_set_row (e := 33) (.slice (some ⟨gN, 0, none⟩) ds.length cN) ds q 4 d { d with n := { d.n with isOpen := true } } (.bool true) HD.out (by omega) rfl rfl
    have hN : (nodesR (.slice (some ⟨gN, 0, none⟩) (ds.set q { d with n := { d.n with isOpen := true } }).length cN) (ds.set q { d with n := { d.n with isOpen := true } })).P w3 := by rw [List.length_set, ← e1]; exact HM3.out.at_ 1 rfl
    have hV := vals_kids (HM3.out.at_ 2 rfl)
    have hns2 : (ds.set q { d with n := { d.n with isOpen := true } }).map NodeV.n = (ringG k (fun _ => nextB) (fun m => if m = q then true else false)).ns := by
     rw [List.map_set, HDS.out, ← ring_open true hqk]
     show _ = List.set _ _ _
     rw [← HDN.out]
    have hV2 : NodeVal w3 ({ d with n := { d.n with isOpen := true } } : NodeV) := hV d HDM.out
    have K := ring_call w3 (some ⟨gN, 0, none⟩) cN _ (HX.out.below HM3.out.below) (HT.out.below HM3.out.below) hns2 (vals_set hV hV2) hN (fun _ => by decide) (by omega) (by omega) names_next
    rw [ring_opened (by omega) hqk, List.length_set] at K
    have HK := Tre.hid K
    clear K hN hV hV2 hns2 e1
    refine HK.out.mono ?_
    rintro e w4 ⟨v, dh, rfl, hdh, mq⟩
    obtain ⟨aL, cL, rfl, _⟩ := mq.val 0 rfl
    rw [hdh]
    have HB := Tre.hid (HM3.out.quiet mq.below).below
    clear mq hdh HK
    go_wp2_with fail
    go_ret
    exact ⟨rfl, HB.out⟩
   | false =>
    have M3 := HQ2.out.setRow 1 rfl (q * 5 + 4) (.bool false)
    have e1 := nodes_set_row (e := 33) (.slice (some ⟨gN, 0, none⟩) ds.length cN) ds q 4 d d (.bool false) HD.out (by omega) (by show [_, _, _, _, _] = [_, _, _, _, _]; rw [HDN.out]; rfl) rfl
    have e2 : ds.set q d = ds := by
     refine List.ext_getElem? (fun i => ?_)
     rw [List.getElem?_set]
     split
     ·rename_i h; subst h; exact HD.out.symm
     ·rfl
    rw [e2] at e1
    have HM3 : Hid (Mem w (w2.setCell ⟨gN, q * 5 + 4, none⟩ (.bool false)) [cellsR b8 24 #[.slice (some ⟨gN, 0, none⟩) ds.length cN, .int .i64 0], nodesR (.slice (some ⟨gN, 0, none⟩) ds.length cN) ds, kidsR ds]) := by show Mem _ _ _; rw [← e1]; exact M3
    clear M3 e1 e2
    go_upto_region 14 with fail
    generalize hw : w2.setCell ⟨gN, q * 5 + 4, none⟩ (.bool false) = w3 at *
    clear hw p0 f4 hc4
    have hc3 := HM3.out.cellAt 1 rfl (q * 5 + 3) ((cells_at ds q 3 d HD.out (by omega)).trans rfl)
    have f3 := HM3.out.freeAt 1 rfl (q * 5 + 3)
    have p0 := HM3.out.cell 0 rfl 0 rfl
    have MA := HM3.out.allocRow #[.string ⟨#[111, 116, 104, 101, 114]⟩] 9 1 1 (by unfold maxLen; omega) rfl
    have f5 := MA.freeAt 2 rfl (q * 5 + 3)
    have c5 := MA.cellAt 2 rfl (q * 5 + 3) ((cells_at ds q 3 d HD.out (by omega)).trans rfl)
    have p5 := MA.cell 1 rfl 0 rfl
    have M4 := MA.setRow 2 rfl (q * 5 + 3) (.slice (some ⟨w3.heap.size, 0, none⟩) 1 1)
    obtain ⟨r0, r1⟩ := M4.two 1 rfl
    have HM4 := Tre.hid M4
    clear M4 MA
    go_wp2_with fail
    generalize hw : (w3.alloc (.cells #[.string ⟨#[111, 116, 104, 101, 114]⟩] 9)).setCell ⟨gN, q * 5 + 3, none⟩ (.slice (some ⟨w3.heap.size, 0, none⟩) 1 1) = w4 at *
    generalize hb : w3.heap.size = b54 at *
    clear hw hb r0 r1 f5 c5 p5 f3 hc3 p0
    have e1 := nodes_set_row (e := 33) (.slice (some ⟨gN, 0, none⟩) ds.length cN) ds q 3 d ⟨{ d.n with labels := [otherB] }, d.va, .slice (some ⟨b54, 0, none⟩) 1 1⟩ (.slice (some ⟨b54, 0, none⟩) 1 1) HD.out (by omega) rfl rfl
    have hN : (nodesR (.slice (some ⟨gN, 0, none⟩) (ds.set q ⟨{ d.n with labels := [otherB] }, d.va, .slice (some ⟨b54, 0, none⟩) 1 1⟩).length cN) (ds.set q ⟨{ d.n with labels := [otherB] }, d.va, .slice (some ⟨b54, 0, none⟩) 1 1⟩)).P w4 := by rw [List.length_set, ← e1]; exact HM4.out.at_ 2 rfl
    have hV := vals_kids (HM4.out.at_ 3 rfl)
    have hns2 : (ds.set q ⟨{ d.n with labels := [otherB] }, d.va, .slice (some ⟨b54, 0, none⟩) 1 1⟩).map NodeV.n = (ringG k (fun m => if m = q then otherB else nextB) (fun _ => false)).ns := by
     rw [List.map_set, HDS.out, ← ring_other hqk]
     show _ = List.set _ _ _
     rw [← HDN.out]
    have hV2 : NodeVal w4 (⟨{ d.n with labels := [otherB] }, d.va, .slice (some ⟨b54, 0, none⟩) 1 1⟩ : NodeV) := by
     obtain ⟨aa, ca, al, cl, ea, el, ra, rl, la, ll⟩ := hV d HDM.out
     obtain ⟨al', cl', el', ll', rl'⟩ := row_read (HM4.out.at_ 0 rfl : (rowR 9 1 (.slice (some ⟨b54, 0, none⟩) 1 1) 1 [.string otherB]).P w4)
     exact ⟨aa, ca, al', cl', ea, el', ra, rl', la, ll'⟩
    have K := ring_call w4 (some ⟨gN, 0, none⟩) cN _ (HX.out.below HM4.out.below) (HT.out.below HM4.out.below) hns2 (vals_set hV hV2) hN (fun m => by by_cases e : m = q <;> simp [e] <;> decide) (by omega) (by omega) (names_other q)
    rw [ring_othered (by omega) hqk, List.length_set] at K
    have HK := Tre.hid K
    clear K hN hV hV2 hns2 e1
    refine HK.out.mono ?_
    rintro e w5 ⟨v, dh2, rfl, hdh, mq⟩
    obtain ⟨aL2, cL2, rfl, _⟩ := mq.val 0 rfl
    rw [hdh]
    have HB := Tre.hid (HM4.out.quiet mq.below).below
    clear mq hdh HK
    go_wp2_with fail
    go_ret
    exact ⟨rfl, HB.out⟩
theorem cringsLaw' (a b : Int) (op : Bool) (w : World) (wa : (Lit.int .u8 a).wf = true) (wb : (Lit.int .u8 b).wf = true) (E : LexEnv w) (ht : TabAt w) :
  Calls Tryz.prog 4 #[.int .u8 a, .int .u8 b, .bool op] w fun e w' => e = .returned (.bool true) ∧ Below w.heap.size w w' := by
 have ha : 0 ≤ a ∧ a ≤ 255 := by simpa [Lit.wf, IntKind.min, IntKind.max, IntKind.signed, IntKind.bits] using wa
 have hb : 0 ≤ b ∧ b ≤ 255 := by simpa [Lit.wf, IntKind.min, IntKind.max, IntKind.signed, IntKind.bits] using wb
 obtain ⟨N, rfl⟩ := Int.eq_ofNat_of_zero_le ha.1
 obtain ⟨M, rfl⟩ := Int.eq_ofNat_of_zero_le hb.1
 exact cringsLaw N M op w (by omega) (by omega) E ht
end Go.Proofs.YtaleodkbghogfaaGreatDoor.gr
