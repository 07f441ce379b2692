/- graph.Reach's memory: what its loop holds, and how it is carried. graph.Reach. -/
import Derived.Test.YtljmcmdabdlldaaGreatDoorB01
import Derived.Test.YtljmcmdabdlldaaGreatDoorB03
import Derived.Sort.LoopGhostIn
import Derived.RangeFuncCalls
import Derived.Maps.AppendAt
import Derived.Maps.OwnIn
import Derived.Deep.AppendLies
set_option linter.unusedVariables false
namespace Go.Proofs.YtljmcmdabdlldaaGreatDoor.gr
open Go.RowKit Go.Shelf Go.Maps Go.Tre lex
theorem infoB : (Tryz.prog.info? 4).map (fun i => (i.zero, i.size, i.bytes)) = some (some (.bool false), 1, 1) := by kernel_rfl
theorem infoI : (Tryz.prog.info? 3).map (fun i => (i.zero, i.size, i.bytes)) = some (some (.int .i64 0), 1, 8) := by kernel_rfl
def rk (k : Nat) : Value := .int .i64 (k : Int)
theorem own_cells {w w' : World} {base : Nat} {e : TypeId} {size n : Nat} {v : Value} {xs : List Value} (h : w.ownsRow base e size v n xs) (hc : CellsKept w w') : w'.ownsRow base e size v n xs := by
 refine ⟨h.1, ?_⟩
 rcases h.2 with h | ⟨g, cap, cur, h1, h2, h3, h4⟩
 ·exact .inl h
 ·exact .inr ⟨g, cap, cur, h1, h2, hc _ _ _ _ h3, h4⟩
theorem own_base {w : World} {base base' : Nat} {e : TypeId} {size n : Nat} {v : Value} {xs : List Value} (h : w.ownsRow base e size v n xs) (hb : base' ≤ base) : w.ownsRow base' e size v n xs := by
 refine ⟨h.1, ?_⟩
 rcases h.2 with h | ⟨g, cap, cur, h1, h2, h3, h4⟩
 ·exact .inl h
 ·exact .inr ⟨g, cap, cur, h1, by omega, h3, h4⟩
theorem own_at {w : World} {base : Nat} {e : TypeId} {size n : Nat} {v : Value} {xs : List Value} (h : w.ownsRow base e size v n xs) {r : Nat} (hr : v.ownBlock = some r) : ∃ cs : Array Value, w.heap[r]? = some (.cells cs e) := by
 rcases h.2 with ⟨rfl, _⟩ | ⟨g, cap, cur, rfl, _, h3, _⟩
 ·cases hr
 ·cases hr; exact ⟨cur, h3⟩
theorem rows_apart {w : World} {b1 b2 : Nat} {e1 e2 : TypeId} {s1 s2 n1 n2 : Nat} {v1 v2 : Value} {x1 x2 : List Value} (h1 : w.ownsRow b1 e1 s1 v1 n1 x1) (h2 : w.ownsRow b2 e2 s2 v2 n2 x2) (hne : e1 ≠ e2) : v1.ownBlock = none ∨ v1.ownBlock ≠ v2.ownBlock := by
 cases hv : v1.ownBlock with
 | none => exact .inl rfl
 | some r =>
  refine .inr fun e => ?_
  obtain ⟨cs, hc⟩ := own_at h1 hv
  obtain ⟨cs', hc'⟩ := own_at h2 e.symm
  rw [hc] at hc'
  cases hc'
  exact hne rfl
theorem marks_kept {base : Nat} {w w' : World} {Ds : List Nat} {row : Option Nat} (m : Marks base w Ds) (hg : w.grownBy w' row) (hr : ∀ r, row = some r → ∃ (cs : Array Value) (t : TypeId), w.heap[r]? = some (.cells cs t)) : Marks base w' Ds :=
 ⟨m.1, fun D hD => ⟨(m.2 D hD).1, by
  have hk := (m.2 D hD).2
  refine (hg.block D (lt_heap hk) ?_).trans hk
  intro e
  obtain ⟨cs, t, hc⟩ := hr D e.symm
  rw [hk] at hc
  cases hc⟩⟩
def metL (g : Tre.Graph) (out : List Nat) : List Value := (List.range g.ns.length).map fun i => Value.bool (decide (i ∈ out))
theorem metL_set (g : Tre.Graph) (out : List Nat) (x : Nat) : metL g (out ++ [x]) = (metL g out).set x (.bool true) := by
 unfold metL
 apply List.ext_getElem
 ·simp
 ·intro i h1 h2
  simp only [List.getElem_map, List.getElem_range, List.getElem_set, List.mem_append, List.mem_singleton]
  by_cases e : x = i
  ·simp [e]
  ·rw [if_neg e]
   have : ¬ i = x := fun h => e h.symm
   simp [this]

structure RM (n0 bm bw : Nat) (w : World) (a : Option Addr) (ca : Nat) (g : Tre.Graph) (v5 vW : Value) (Ds s out : List Nat) (wr : World) : Prop where
 box : Boxed wr bw 37 vW
 wait : wr.ownsRow (n0 + 1) 3 1 vW s.length (s.reverse.map rk)
 outs : wr.ownsRow (n0 + 1) 3 1 v5 out.length (out.map rk)
 met : wr.ownsRow (n0 + 1) 4 1 (.slice (some ⟨bm, 0, none⟩) g.ns.length g.ns.length) g.ns.length (metL g out)
 sep : ∀ b, vW.ownBlock = some b → v5.ownBlock ≠ some b
 below : Below n0 w wr
 gcell : wr.cell? ⟨n0, 0, none⟩ = some (.slice a g.ns.length ca)
 marks : Marks (n0 + 1) wr Ds
 lo : n0 < wr.heap.size
theorem RM.put {n0 bm bw : Nat} {w wr : World} {a : Option Addr} {ca : Nat} {g : Tre.Graph} {v5 vW : Value} {Ds s out : List Nat} (st : RM n0 bm bw w a ca g v5 vW Ds s out wr) (hbw : n0 < bw) (v' : Value) (s' : List Nat)
  (hown : wr.ownsRow (n0 + 1) 3 1 v' s'.length (s'.reverse.map rk)) (hsep : ∀ b, v'.ownBlock = some b → v5.ownBlock ≠ some b) : RM n0 bm bw w a ca g v5 v' Ds s' out (wr.setCell ⟨bw, 0, none⟩ v') := by
 have hg := grownBy_setCell' wr bw v'
 exact ⟨st.box.set v', hown.kept hg (.inr (st.box.not_row (by decide) hown).symm), st.outs.kept hg (.inr (st.box.not_row (by decide) st.outs).symm), st.met.kept hg (.inr (st.box.not_row (by decide) st.met).symm), hsep,
  st.below.setCell (by show n0 ≤ bw; omega) v', hg.cell st.gcell (by simp; omega), marks_kept st.marks hg (fun r e => by cases e; exact ⟨_, _, st.box⟩), Nat.lt_of_lt_of_le st.lo hg.size⟩
theorem RM.visit {n0 bm bw : Nat} {w wr : World} {a : Option Addr} {ca : Nat} {g : Tre.Graph} {v5 vW : Value} {Ds s out : List Nat} (st : RM n0 bm bw w a ca g v5 vW Ds s out wr) (hbm : n0 < bm) {x : Nat} {tmp : Obj} {v5' : Value} {w4 : World}
  (hown : w4.ownsRow (n0 + 1) 3 1 v5' (out.length + 1) (out.map rk ++ [rk x])) (hgrow : ((wr.setCell ⟨bm, x, none⟩ (.bool true)).alloc tmp).grownBy w4 v5.ownBlock)
  (hat : v5'.ownBlock = v5.ownBlock ∨ v5'.ownBlock = some ((wr.setCell ⟨bm, x, none⟩ (.bool true)).alloc tmp).heap.size) : RM n0 bm bw w a ca g v5' vW Ds s (out ++ [x]) w4 := by
 obtain ⟨m2, hg2⟩ := st.met.stored x (.bool true)
 have box2 := st.box.kept hg2 (by have := st.box.not_row (by decide) st.met; simpa [Value.ownBlock] using this)
 have wait2 := st.wait.kept hg2 (rows_apart st.wait st.met (by decide))
 have outs2 := st.outs.kept hg2 (rows_apart st.outs st.met (by decide))
 have gc2 := hg2.cell st.gcell (by simp; omega)
 have mk2 := marks_kept st.marks hg2 (fun r e => by cases e; obtain ⟨cs, hc⟩ := own_at st.met (r := bm) rfl; exact ⟨cs, _, hc⟩)
 have lo2 := Nat.lt_of_lt_of_le st.lo hg2.size
 have be2 := (st.below.setCell (p := ⟨bm, x, none⟩) (by show n0 ≤ bm; omega) (.bool true))
 generalize wr.setCell ⟨bm, x, none⟩ (.bool true) = W2 at *
 have ga : W2.grownBy (W2.alloc tmp) none := World.grownBy_alloc W2 tmp none
 refine ⟨(box2.alloc tmp).kept hgrow (box2.not_row (by decide) outs2), (wait2.alloc tmp).kept hgrow ?_, ?_, ?_, ?_, ?_, ?_, ?_, ?_⟩
 ·cases hv : vW.ownBlock with
  | none => exact .inl rfl
  | some b => exact .inr (fun e => st.sep b hv e.symm)
 ·rw [List.length_append, List.length_singleton, List.map_append]; exact hown
 ·rw [metL_set]; exact (m2.alloc tmp).kept hgrow (rows_apart m2 outs2 (by decide))
 ·intro b hb e
  rcases hat with h | h
  ·exact st.sep b hb (by rw [← h, e])
  ·rw [h] at e
   cases e
   obtain ⟨cs, hc⟩ := own_at (wait2.alloc tmp) hb
   exact Nat.lt_irrefl _ (lt_heap hc)
 ·exact (be2.alloc (Nat.le_of_lt lo2) tmp).grown hgrow (by simp; omega) (fun k e => Nat.le_of_succ_le (own_ge st.outs e))
 ·exact hgrow.cell (ga.cell gc2 (by simp)) (own_ne st.outs (by show n0 < n0 + 1; omega)).symm
 ·exact marks_kept (marks_kept mk2 ga (fun r e => by cases e)) hgrow (fun r e => by obtain ⟨cs, hc⟩ := own_at (outs2.alloc tmp) e; exact ⟨cs, _, hc⟩)
 ·have := hgrow.size; simp at this; omega
theorem RM.push {n0 bm bw : Nat} {w wr : World} {a : Option Addr} {ca : Nat} {g : Tre.Graph} {v5 vW : Value} {Ds s out : List Nat} (st : RM n0 bm bw w a ca g v5 vW Ds s out wr) (hbw : n0 < bw) {y : Nat} {tmp : Obj} {v' : Value} {w4 : World}
  (hown : w4.ownsRow (n0 + 1) 3 1 v' (s.length + 1) (s.reverse.map rk ++ [rk y])) (hgrow : (wr.alloc tmp).grownBy w4 vW.ownBlock) (hat : v'.ownBlock = vW.ownBlock ∨ v'.ownBlock = some (wr.alloc tmp).heap.size) :
  RM n0 bm bw w a ca g v5 v' Ds (y :: s) out (w4.setCell ⟨bw, 0, none⟩ v') := by
 have ga : wr.grownBy (wr.alloc tmp) none := World.grownBy_alloc wr tmp none
 have hg := grownBy_setCell' w4 bw v'
 have box4 := (st.box.alloc tmp).kept hgrow (st.box.not_row (by decide) st.wait)
 have outs4 : w4.ownsRow (n0 + 1) 3 1 v5 out.length (out.map rk) := (st.outs.alloc tmp).kept hgrow (by
  cases hv : v5.ownBlock with
  | none => exact .inl rfl
  | some b => exact .inr (fun e => st.sep b e.symm hv))
 have met4 := (st.met.alloc tmp).kept hgrow (rows_apart st.met st.wait (by decide))
 have own' : w4.ownsRow (n0 + 1) 3 1 v' (y :: s).length ((y :: s).reverse.map rk) := by rw [List.length_cons, List.reverse_cons, List.map_append]; exact hown
 have mk4 := marks_kept (marks_kept st.marks ga (fun r e => by cases e)) hgrow (fun r e => by obtain ⟨cs, hc⟩ := own_at (st.wait.alloc tmp) e; exact ⟨cs, _, hc⟩)
 refine ⟨box4.set v', own'.kept hg (.inr (box4.not_row (by decide) own').symm), outs4.kept hg (.inr (box4.not_row (by decide) outs4).symm), met4.kept hg (.inr (box4.not_row (by decide) met4).symm), ?_, ?_, ?_, ?_, ?_⟩
 ·intro b hb e
  rcases hat with h | h
  ·exact st.sep b (by rw [← h, hb]) e
  ·rw [h] at hb
   cases hb
   obtain ⟨cs, hc⟩ := own_at (st.outs.alloc tmp) e
   exact Nat.lt_irrefl _ (lt_heap hc)
 ·exact ((st.below.alloc (Nat.le_of_lt st.lo) tmp).grown hgrow (by have := st.lo; simp; omega) (fun k e => Nat.le_of_succ_le (own_ge st.wait e))).setCell (by show n0 ≤ bw; omega) v'
 ·exact hg.cell (hgrow.cell (ga.cell st.gcell (by simp)) (own_ne st.wait (by show n0 < n0 + 1; omega)).symm) (by simp; omega)
 ·exact marks_kept mk4 hg (fun r e => by cases e; exact ⟨_, _, box4⟩)
 ·have h1 := hgrow.size
  have h2 := hg.size
  have h3 := st.lo
  simp at h1
  omega
theorem RM.kept {n0 bm bw : Nat} {w wr : World} {a : Option Addr} {ca : Nat} {g : Tre.Graph} {v5 vW : Value} {Ds s out : List Nat} (st : RM n0 bm bw w a ca g v5 vW Ds s out wr) {B : Nat} (hB : n0 < B) (hD : ∀ D ∈ Ds, D < B) {W' : World} {row : Option Nat}
  (hg : wr.grownBy W' row) (hr : ∀ r, row = some r → B ≤ r ∧ ∃ o : Obj, wr.heap[r]? = some o ∧ o.isCells = false) : RM n0 bm bw w a ca g v5 vW Ds s out W' := by
 have nr : ∀ {base : Nat} {e : TypeId} {size n : Nat} {v : Value} {xs : List Value}, wr.ownsRow base e size v n xs → v.ownBlock = none ∨ v.ownBlock ≠ row := fun h => by
  rename_i v _
  cases hv : v.ownBlock with
  | none => exact .inl rfl
  | some b =>
   refine .inr fun e => ?_
   obtain ⟨_, o, ho, hc⟩ := hr b e.symm
   obtain ⟨cs, hcs⟩ := own_at h hv
   rw [ho] at hcs
   cases hcs
   cases hc
 refine ⟨st.box.kept hg (fun e => ?_), st.wait.kept hg (nr st.wait), st.outs.kept hg (nr st.outs), st.met.kept hg (nr st.met), st.sep, st.below.grown hg (Nat.le_of_lt st.lo) (fun k e => by have := (hr k e).1; omega), hg.cell st.gcell (fun e => by have := (hr n0 e.symm).1; omega), ⟨st.marks.1, fun D hd => ⟨(st.marks.2 D hd).1, ?_⟩⟩, Nat.lt_of_lt_of_le st.lo hg.size⟩
 ·obtain ⟨_, o, ho, hc⟩ := hr bw e.symm
  rw [show wr.heap[bw]? = _ from st.box] at ho
  cases ho
  cases hc
 ·have hk := (st.marks.2 D hd).2
  refine (hg.block D (lt_heap hk) (fun e => ?_)).trans hk
  have h1 := (hr D e.symm).1
  have h2 := hD D hd
  omega
end Go.Proofs.YtljmcmdabdlldaaGreatDoor.gr
namespace Go.Proofs.YtljmcmdabdlldaaGreatDoor.gr
open Go.RowKit Go.Shelf Go.Maps Go.Tre lex
attribute [local go_sem] Oper.semAt_some

theorem zip2 {α β : Type} (a b : α) (c d : β) : #[a, b].zip #[c, d] = #[(a, c), (b, d)] := by simp
theorem foldl2 {α β : Type} (f : β → α → β) (a b : α) (t : β) : #[a, b].foldl f t = f (f t a) b := by simp
structure RSt (n0 bm bw : Nat) (w : World) (a : Option Addr) (ca : Nat) (g : Tre.Graph) (gk : Nat) (v5 vW : Value) (Ds s out : List Nat) (wr : World) : Prop extends RM n0 bm bw w a ca g v5 vW Ds s out wr where
 dfs : g.dfs s out = g.dfs [g.root.toNat] []
 sl : ∀ x ∈ s, x < g.ns.length
 num : gk = g.budget out + s.length
 le : gk ≤ 2097153
 ob : out.length + g.budget out ≤ 2097152
theorem back_all (xs : List Nat) : ((upto (back xs) xs.length).map (·.2)).reverse = xs := by
 unfold upto
 rw [List.map_map]
 apply List.ext_getElem
 ·simp
 ·intro i h1 h2
  rw [List.getElem_reverse]
  simp only [List.length_map, List.length_range, List.getElem_map, List.getElem_range, Function.comp_apply, back]
  rw [show xs.length - 1 - (xs.length - 1 - i) = i by omega, List.getElem?_eq_getElem h2]
  rfl
theorem lt_heap_own {w : World} {base : Nat} {e : TypeId} {size g n cap k : Nat} {xs : List Value} (h : w.ownsRow base e size (.slice (some ⟨g, 0, none⟩) n cap) k xs) : g < w.heap.size := by
 rcases h.2 with ⟨h', _⟩ | ⟨g', cap', cur, h', _, hg, _⟩
 ·cases h'
 ·cases h'; exact lt_heap hg
set_option maxRecDepth 100000 in
set_option maxHeartbeats 4000000 in
theorem reach_ok (a : Option Addr) (ca : Nat) (g : Tre.Graph) (w : World) (hg : NodesAt w a g.ns) (wg : g.weight ≤ 2097152) (hm : MaxAt w) (c0 : g.checkC = 0) :
  CallsIn Fence.wide 3 Tryz.prog 30 #[.agg #[.slice a g.ns.length ca, .int .i64 g.root]] w fun e w' =>
   ∃ v, e = .returned v ∧ w'.ownsRow w.heap.size 3 1 v (g.reachL).length ((g.reachL).map fun k : Nat => Value.int .i64 (k : Int)) ∧ Below w.heap.size w w' := by
 have b2 : Below w.heap.size w (w.alloc (.cells #[.slice a g.ns.length ca, .int .i64 g.root] 33)) := (Below.refl _ _).alloc (Nat.le_refl _) _
 have HM := Tre.hid hm
 have HG := Tre.hid hg
 have OG := Graph.ok_of c0
 have HC0 := Tre.hid c0
 have r0 : Hid (g.root = ((g.root.toNat : Nat) : Int)) := by have := OG.root0; show _ = _; omega
 clear hg hm c0
 refine callsIn_of_wp_marks Tryz.func30 rfl trivial ?_ rfl
 simp only [Tryz.ntmps30, List.size_toArray, List.length_cons, List.length_nil, Nat.reduceAdd, Nat.reduceSub, Array.replicate_succ, Array.replicate_zero, List.push_toArray, List.append_toArray, List.nil_append, List.cons_append]
 have hC := fun W (h : Below w.heap.size w W) => callsIn_wide (n := 2).2 (check_any a ca g W (HG.out.below h) (by omega) (HM.out.below h))
 have HCk := Tre.hid hC
 clear hC
 obtain ⟨ib, hb1, hb2, hb3, hb4⟩ := info_parts infoB
 gi_wp2_with (refine ⟨trivial, ?_⟩; gi_at_call 11; refine (HCk.out _ b2).mono ?_; rintro e w1 ⟨rfl, d1⟩; rw [HC0.out]; have g0 := cell_below d1 (cell_new1 _ _ _ 0 _ rfl); have g1 := cell_below d1 (cell_new1 _ _ _ 1 _ rfl); have HD1 := Tre.hid (after1 d1); have s1 : w.heap.size < w1.heap.size := (by have := d1.size; simp at this; omega); obtain ⟨wm, hmk, hmo, hmg⟩ := run_make_full (P := Tryz.prog) w1 (w.heap.size + 1) 112 4 ib _ 1 Tryz.underlying112 hb1 hb2 hb3 .i64 .i64 g.ns.length (by rw [hb4]; have := OG.len; omega) (by have := OG.len; unfold maxLen; omega) s1; have g1' := hmg.cell g1 (by simp); have HMO := Tre.hid hmo; have HMG := Tre.hid hmg; have s2 : w1.heap.size < wm.heap.size := (lt_heap_own hmo); clear d1 g1 hmo hmg)
 refine wpIn_loop_ghost_k (fun gk a' wr => ∃ (v5 u6 u19 u20 u21 u22 u23 u24 u25 u26 u27 u28 u29 u30 u31 u32 u33 u34 u35 u36 u37 u38 u39 u40 u41 u42 u43 u44 u45 u46 u47 u48 u49 u50 : Value) (Ds : List Nat), Hid (∃ vW s out, RSt w.heap.size w1.heap.size (wm.heap.size + 1) w a ca g gk v5 vW Ds s out wr) ∧ a' = { tmps := #[Value.agg #[.slice a g.ns.length ca, .int .i64 g.root], .pointer (some ⟨w.heap.size, 0, none⟩), .slice none 0 0, .slice (some ⟨w1.heap.size, 0, none⟩) g.ns.length g.ns.length, .pointer (some ⟨wm.heap.size + 1, 0, none⟩), v5, u6, undef, undef, .agg #[.slice a g.ns.length ca, .int .i64 g.root], .int .i64 0, .bool false, .pointer (some ⟨w.heap.size, 0, none⟩), .slice a g.ns.length ca, .int .i64 (g.ns.length : Int), .slice (some ⟨w1.heap.size, 0, none⟩) g.ns.length g.ns.length, .pointer (some ⟨w.heap.size, 1, none⟩), .int .i64 g.root, .slice (some ⟨wm.heap.size, 0, none⟩) 1 1, u19, u20, u21, u22, u23, u24, u25, u26, u27, u28, u29, u30, u31, u32, u33, u34, u35, u36, u37, u38, u39, u40, u41, u42, u43, u44, u45, u46, u47, u48, u49, u50, undef, undef, undef, undef, undef, undef, undef], defers := Ds.map Tre.mark }) (g.budget [] + 1) ?_ ?_
 ·refine ⟨_, _, _, _, _, _, _, _, _, _, _, _, _, _, _, _, _, _, _, _, _, _, _, _, _, _, _, _, _, _, _, _, _, _, [], ⟨.slice (some ⟨wm.heap.size, 0, none⟩) 1 1, [g.root.toNat], [], ?_⟩, rfl⟩
  have hbl := g.budget_le
  have s2' := s2
  have z1 : ∀ o : Obj, (wm.alloc o).heap.size = wm.heap.size + 1 := fun o => by simp
  have eb := Boxed.new (wm.alloc (.cells #[.int .i64 g.root] 3)) 37 (.slice (some ⟨wm.heap.size, 0, none⟩) 1 1)
  rw [z1] at eb
  refine ⟨⟨eb, ?_, World.ownsRow_nil _ _ _ _, ?_, (fun b hb e => by cases e), ?_, ?_, ⟨List.nodup_nil, by simp⟩, (by simp; omega)⟩, rfl, fun y hy => ?_, rfl, by omega, (by simp; omega)⟩
  ·have := World.ownsRow_lit (base := w.heap.size + 1) (e := 3) (size := 1) wm #[.int .i64 g.root] 1 (by omega) (by unfold maxLen; omega) rfl
   have e : [g.root.toNat].reverse.map rk = [Value.int .i64 g.root] := by simp only [List.reverse_singleton, List.map_cons, List.map_nil, rk, ← r0.out]
   rw [e]
   exact this.alloc _
  ·have e : metL g [] = (madeCells (Value.bool false).cells (g.ns.length * 1)).toList := by
    rw [show (Value.bool false).cells = #[Value.bool false] from rfl, toList_madeCells_one, Nat.mul_one]
    unfold metL
    apply List.ext_getElem
    ·simp
    ·intro i h1 h2
     simp
   rw [e]
   exact (HMO.out.alloc _).alloc _
  ·exact ((HD1.out.grown HMG.out (Nat.le_of_lt s1) (fun k e => by cases e)).alloc (by omega) _).alloc (by simp; omega) _
  ·have h1 := HMG.out.cell g0 (by simp)
   have h2 := (World.grownBy_alloc wm (.cells #[.int .i64 g.root] 3) none).cell h1 (by simp)
   exact (World.grownBy_alloc _ _ none).cell h2 (by simp)
  ·simp at hy; rw [hy]; exact OG.root1
 ·intro gk a' wr hI J K hJ hK
  obtain ⟨v5, u6, u19, u20, u21, u22, u23, u24, u25, u26, u27, u28, u29, u30, u31, u32, u33, u34, u35, u36, u37, u38, u39, u40, u41, u42, u43, u44, u45, u46, u47, u48, u49, u50, Ds, hst, rfl⟩ := hI
  obtain ⟨vW, s, out, st⟩ := hst.out
  have ST := Tre.hid st
  clear st hst
  have cw := ST.out.box.cell
  have g0r := ST.out.gcell
  cases s with
  | nil =>
   obtain ⟨oo, cap, rfl⟩ := own_any ST.out.wait
   gi_wp2
   refine leaves_marks (by simp) (w.heap.size + 1) Ds wr ST.out.marks (fun w' hb hc => ⟨_, results_tmp rfl _ _ _, _, rfl, ?_, ST.out.below.trans (hb.mono (by omega))⟩)
   show w'.ownsRow _ _ _ v5 _ _
   have e : g.reachL = out := by
    have := ST.out.dfs
    rw [g.dfs_nil] at this
    unfold Graph.reachL
    rw [if_pos HC0.out, this]
   rw [e]
   exact own_base (own_cells ST.out.outs hc) (by omega)
  | cons x s =>
   have hnum := ST.out.num
   have hle := ST.out.le
   rw [List.length_cons] at hnum
   have hxl : x < g.ns.length := ST.out.sl x (by simp)
   have hgl := OG.len
   have i1 : (0 : Int) ≤ x := by omega
   have i2 : (x : Int) < g.ns.length := by omega
   have hsl : s.length + 1 ≤ 2097153 := by omega
   have hwt := ST.out.wait
   rw [List.length_cons, List.reverse_cons, List.map_append] at hwt
   obtain ⟨gb, cap, rfl, hcap⟩ := own_pos hwt
   have k0 : wr.cell? ⟨gb, s.length, none⟩ = some (.int .i64 (x : Int)) := by
    rw [hwt.cellAt _ (by omega), List.getElem?_append_right (by simp), List.length_map, List.length_reverse]; simp [rk]
   have hpop : wr.ownsRow (w.heap.size + 1) 3 1 (.slice (some ⟨gb, 0, none⟩) s.length cap) s.length (s.reverse.map rk) := ownsRow_pop (by simp) hwt
   have HPOP := Tre.hid hpop
   have nB : w.heap.size + 1 ≤ wm.heap.size := by omega
   have m0 : wr.cell? ⟨w1.heap.size, x, none⟩ = some (.bool (decide (x ∈ out))) := by
    rw [ST.out.met.cellAt _ (by omega), metL, List.getElem?_map, List.getElem?_range hxl]; rfl
   have nb1 : some w1.heap.size ≠ some (wm.heap.size + 1) := by simp; omega
   have hg1 := grownBy_setCell' wr (wm.heap.size + 1) (.slice (some ⟨gb, 0, none⟩) s.length cap)
   have m1 := hg1.cell m0 (by simp; omega)
   have gk1 := hg1.cell g0r (by simp; omega)
   have HST1 : Hid (x ∈ out → RSt w.heap.size w1.heap.size (wm.heap.size + 1) w a ca g (g.budget out + s.length) v5 (.slice (some ⟨gb, 0, none⟩) s.length cap) Ds s out (wr.setCell ⟨wm.heap.size + 1, 0, none⟩ (.slice (some ⟨gb, 0, none⟩) s.length cap))) := fun hm =>
    ⟨ST.out.put (by omega) _ s HPOP.out (fun b hb => ST.out.sep b hb), by rw [← ST.out.dfs, Graph.dfs_skip hm], fun y hy => ST.out.sl y (by simp [hy]), rfl, by omega, ST.out.ob⟩
   have fz := ST.out.box.frozen
   have HN := Tre.hid hnum
   clear hwt hpop hg1 hnum
   by_cases hm : x ∈ out
   ·have em : decide (x ∈ out) = true := by simp [hm]
    rw [em] at m0 m1
    have HIN := Tre.hid hm
    clear em hm
    gi_wp2
    exact Handed.intro (g.budget out + s.length) (by have := HN.out; omega) (hJ _ _ _ ⟨_, _, _, _, _, _, _, _, _, _, _, _, _, _, _, _, _, _, _, _, _, _, _, _, _, _, _, _, _, _, _, _, _, _, Ds, ⟨_, s, out, HST1.out HIN.out⟩, rfl⟩)
   ·have em : decide (x ∈ out) = false := by simp [hm]
    rw [em] at m0 m1
    have HIN := Tre.hid hm
    clear em hm
    have st1 := ST.out.put (by omega) (.slice (some ⟨gb, 0, none⟩) s.length cap) s HPOP.out (fun b hb => ST.out.sep b hb)
    obtain ⟨m2, hg2⟩ := st1.met.stored x (.bool true)
    have outs2 := (st1.outs.kept hg2 (rows_apart st1.outs st1.met (by decide))).alloc (.cells #[.int .i64 (x : Int)] 3)
    have fz1 : (wr.setCell ⟨wm.heap.size + 1, 0, none⟩ (.slice (some ⟨gb, 0, none⟩) s.length cap)).frozen? ⟨w1.heap.size, x, none⟩ = false := by
     obtain ⟨cs, hc⟩ := own_at st1.met (r := w1.heap.size) rfl
     simp [World.frozen?, hc]
    have ST1 := Tre.hid st1
    have OUTS2 := Tre.hid outs2
    have hol : out.length ≤ 2097153 := by have := ST.out.ob; omega
    have HNB : Hid (((((wr.setCell ⟨wm.heap.size + 1, 0, none⟩ (.slice (some ⟨gb, 0, none⟩) s.length cap)).setCell ⟨w1.heap.size, x, none⟩ (.bool true)).alloc (.cells #[.int .i64 (x : Int)] 3)).heap[wr.heap.size]? = some (.cells #[.int .i64 (x : Int)] 3))) := by
     have := heap_alloc_new ((wr.setCell ⟨wm.heap.size + 1, 0, none⟩ (.slice (some ⟨gb, 0, none⟩) s.length cap)).setCell ⟨w1.heap.size, x, none⟩ (.bool true)) (.cells #[.int .i64 (x : Int)] 3)
     have e : ((wr.setCell ⟨wm.heap.size + 1, 0, none⟩ (.slice (some ⟨gb, 0, none⟩) s.length cap)).setCell ⟨w1.heap.size, x, none⟩ (.bool true)).heap.size = wr.heap.size := by simp [World.setCell]
     rw [e] at this
     exact this
    have HLO : Hid (w.heap.size + 1 ≤ ((((wr.setCell ⟨wm.heap.size + 1, 0, none⟩ (.slice (some ⟨gb, 0, none⟩) s.length cap)).setCell ⟨w1.heap.size, x, none⟩ (.bool true)).alloc (.cells #[.int .i64 (x : Int)] 3)).heap.size)) := by
     have := ST.out.lo
     show _ ≤ _
     simp [World.setCell]
     omega
    obtain ⟨ii, I1, I2, I3, I4⟩ := info_parts infoI
    have J1 := Tre.hid I1
    have J2 := Tre.hid I2
    have J3 := Tre.hid I3
    have J4 := Tre.hid I4
    clear st1 m2 hg2 outs2 I1 I2 I3 I4
    obtain ⟨b1, o1, rfl, nx⟩ := HG.out.at_ x (g.nd x) (by rw [Graph.nd_eq hxl]; exact List.getElem?_eq_getElem hxl)
    generalize hX : g.nd x = X at *
    have HX := Tre.hid hX
    obtain ⟨ax, cx, lx, dx, x0, x1, x2, x3, x4, xA, xL, _, _⟩ := nx
    have HXA := Tre.hid xA
    clear hX x0 x1 x3 x4 xA xL
    have hb1 : b1 < w.heap.size := World.block_lt_of_cell? w _ x2
    gi_wp2_with (first
     | (gi_at_builtin; refine wpListIn_append_own_at _ rfl _ _ 37 rfl (w.heap.size + 1) 3 ii _ 1 8 Tryz.underlying37 J1.out J2.out J3.out J4.out rfl (by omega) v5 out.length (out.map rk) rfl OUTS2.out ⟨wr.heap.size, 0, none⟩ 1 1 [.int .i64 (x : Int)] rfl rfl (World.news_of_block (cs := #[.int .i64 (x : Int)]) (t := 3) (fr := (0, 0)) HNB.out) (by simp [Value.oneCell']) (by unfold maxLen; omega) (by omega) HLO.out ?_; intro v5' w4 hown4 hgrow4 hnil4 hat4; have rm5 := ST1.out.visit (x := x) (by omega) hown4 hgrow4 hat4; have gc4 := rm5.gcell; have x2' := cell_below rm5.below x2; have RM5 := Tre.hid rm5; clear rm5 hown4 hgrow4 hnil4 hat4)
     | (refine ⟨trivial, ?_⟩; gi_at_call 53; refine (back_in Fence.wide 2 trivial rfl _ _ _ _).mono ?_; rintro e w5 ⟨rfl, rfl⟩))
    have hxa : X.args = (g.kids x).map (fun k : Nat => (k : Int)) := by rw [← HX.out]; exact OG.kids_eq hxl
    have hkl : (g.kids x).length = X.args.length := by rw [hxa, List.length_map]
    have bN := Boxed.new w4 37 (.slice ax X.args.length cx)
    have bN' : (w4.alloc (.cells #[.slice ax X.args.length cx] 37)).cell? ⟨w4.heap.size, 0, none⟩ = some (.slice ax (g.kids x).length cx) := by rw [hkl]; exact bN.cell
    have hk8 : (g.kids x).length ≤ 8388608 := by have h1 := args_len X; have h2 : X.weight ≤ g.weight := (by rw [← HX.out, Graph.nd_eq hxl]; exact node_weight (List.getElem_mem hxl)); omega
    have hIn : IntsIn w.heap.size (w4.alloc (.cells #[.slice ax X.args.length cx] 37)) ax (g.kids x) := by
     intro j u hu
     obtain ⟨b3, o3, e3, h3⟩ := HXA.out.at_ j (.int .i64 (u : Int)) (by rw [hxa, List.map_map, List.getElem?_map, hu]; rfl)
     exact ⟨b3, o3, e3, World.block_lt_of_cell? w _ h3, cell_below (RM5.out.below.alloc (by have := RM5.out.lo; omega) _) h3⟩
    obtain ⟨F, hF⟩ : ∃ F, F = Fence.wide := ⟨_, rfl⟩
    have hro : F.round = none := by rw [hF]; rfl
    have hfn : F.fn 66 := by rw [hF]; trivial
    rw [← hF]
    clear hF
    refine wpIn_rangeFunc_ownG hro (by omega) (gf := 66) (lb := #[.pointer (some ⟨w4.heap.size, 0, none⟩)]) rfl hfn (enters_of Tryz.func66 (by kernel_rfl) rfl)
     (back_stops F 2 hfn hro (by omega) w4.heap.size w.heap.size ax cx (g.kids x) hk8 _ (by simp) (by have := RM5.out.lo; simp; omega) bN' hIn) KeepBox.trans
     ?hKb (Below.refl _ _) (fun _ => rfl)
     (fun pre W => ∃ vW, RM w.heap.size w1.heap.size (wm.heap.size + 1) w (some ⟨b1, o1, none⟩) ca g v5' vW Ds ((pre.map (·.2)).reverse ++ s) (out ++ [x]) W ∧ Boxed W w4.heap.size 37 (.slice ax X.args.length cx))
     (fun _ _ _ => False) ?hI (fun _ _ _ _ _ hs _ _ => hs) ?h0 ?a1 ?assign ?body ?done ?stop
    case assign =>
     intro l p W K hK
     rw [zip2, foldl2]
     simp only [zqf, zqh, zqg]
     gi_wp2
     exact hK
    case hKb =>
     intro W l o o' hl ho hc _
     have hg := grownBy_putObj' W l o'
     simp at hl
     have hk4 := RM5.out.lo
     exact ⟨⟨hg.os, hg.tape, hg.output, hg.size, fun k hk => World.putObj_heap_other (by omega)⟩, World.putObj_heap_other (by omega)⟩
    case hI =>
     rintro pre W W' row ⟨vW', rm, bx⟩ hg hr
     refine ⟨vW', rm.kept (B := w4.heap.size + 1) (by have := RM5.out.lo; omega) (fun D hD => by have := lt_heap (RM5.out.marks.2 D hD).2; omega) hg (fun r e => by have := hr r e; simpa using this), bx.kept hg (fun e => ?_)⟩
     have := (hr _ e.symm).1
     simp at this
     omega
    case h0 => exact ⟨_, RM5.out.kept (B := w4.heap.size) (by have := RM5.out.lo; omega) (fun D hD => lt_heap (RM5.out.marks.2 D hD).2) (World.grownBy_alloc w4 _ none) (fun r e => by cases e), bN⟩
    case body =>
     rintro l pre p W ⟨vW', rm, bx⟩ hlt
     have cwb := rm.box.cell
     have fzb := rm.box.frozen
     generalize hS2 : (pre.map (·.2)).reverse ++ s = S2 at rm
     have hS2l : S2.length ≤ 16777216 := by rw [← hS2]; simp; omega
     have RMH := Tre.hid rm
     have BX := Tre.hid bx
     have HS2 := Tre.hid hS2
     have HOW := Tre.hid (rm.wait.alloc (.cells #[.int .i64 (p.2 : Int)] 3))
     have hlo : w.heap.size + 1 ≤ (W.alloc (.cells #[.int .i64 (p.2 : Int)] 3)).heap.size := by have := rm.lo; simp; omega
     have HLO2 := Tre.hid hlo
     clear rm bx hS2 hlo
     gi_wp2_with (gi_at_builtin; refine wpListIn_append_own_at _ rfl _ _ 37 rfl (w.heap.size + 1) 3 ii _ 1 8 Tryz.underlying37 J1.out J2.out J3.out J4.out rfl (by omega) vW' S2.length (S2.reverse.map rk) rfl HOW.out ⟨W.heap.size, 0, none⟩ 1 1 [.int .i64 (p.2 : Int)] rfl rfl (cell_one_new _ _ _) (by simp [Value.oneCell']) (by unfold maxLen; omega) (by omega) HLO2.out ?_; intro v' w6 hown6 hgrow6 hnil6 hat6; obtain ⟨g6, cap6, rfl⟩ := ownsRow_succ hown6; have ap := RMH.out.box.appended (by decide) RMH.out.wait RMH.out.lo (by omega) hown6 hgrow6; have cw6 := ap.1.cell; have fz6 := ap.1.frozen; have AP := Tre.hid ap; have HO6 := Tre.hid hown6; have HG6 := Tre.hid hgrow6; have HA6 := Tre.hid hat6; clear ap hown6 hgrow6 hnil6 hat6)
     simp only [Act.put, zqf, zqh, zqg]
     gi_wp2
     have pu := RMH.out.push (by omega) (y := p.2) HO6.out HG6.out HA6.out
     have bx6 := (BX.out.alloc (.cells #[.int .i64 (p.2 : Int)] 3)).kept HG6.out (BX.out.not_row (by decide) RMH.out.wait)
     have bx7 := bx6.kept (grownBy_setCell' w6 (wm.heap.size + 1) (.slice (some ⟨g6, 0, none⟩) (S2.length + 1) cap6)) (by have := RM5.out.box.lt; simp; omega)
     have es : ((pre ++ [p]).map (·.2)).reverse ++ s = p.2 :: S2 := by rw [← HS2.out]; simp
     rw [← es] at pu
     exact ⟨AP.out.2.2.2.1.from _, ⟨AP.out.2.2.2.2.mono (by omega), bx7.trans BX.out.symm⟩, ⟨_, pu, bx7⟩⟩
    case done =>
     rintro D ys W hD rfl ⟨vW', rm, bx⟩ hKD
     gi_wp2
     rw [back_all] at rm
     have hbs := Graph.budget_step (g := g) (out := out) (a := x) hxl HIN.out
     have hkd := g.kids_len x
     have hob := ST.out.ob
     refine Handed.intro (g.budget (out ++ [x]) + (g.kids x ++ s).length) (by rw [List.length_append, HN.out]; omega) (hJ _ _ _ ⟨_, _, _, _, _, _, _, _, _, _, _, _, _, _, _, _, _, _, _, _, _, _, _, _, _, _, _, _, _, _, _, _, _, _, D :: Ds, ⟨vW', g.kids x ++ s, out ++ [x], ?_⟩, rfl⟩)
     refine ⟨{ rm with marks := ⟨List.nodup_cons.2 ⟨fun hm => ?_, rm.marks.1⟩, fun E hE => ?_⟩ }, ?_, ?_, rfl, ?_, ?_⟩
     ·have := lt_heap (RM5.out.marks.2 D hm).2
      simp at hD
      omega
     ·rcases List.mem_cons.1 hE with rfl | hE
      ·refine ⟨?_, hKD⟩
       have := RM5.out.lo
       simp at hD
       omega
      ·exact rm.marks.2 E hE
     ·rw [← ST.out.dfs, Graph.dfs_take HIN.out hxl]
     ·intro y hy
      rcases List.mem_append.1 hy with hy | hy
      ·exact OG.kids_lt hxl y hy
      ·exact ST.out.sl y (by simp [hy])
     ·have := HN.out
      rw [List.length_append]; omega
     ·rw [List.length_append, List.length_singleton]; omega
    case stop =>
     rintro D c pre W _ _ h _
     exact h.elim
end Go.Proofs.YtljmcmdabdlldaaGreatDoor.gr
