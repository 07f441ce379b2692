/- graph.Reach's memory: what its loop holds, and how it is carried. -/
import Derived.Test.YtlkfhbmjemjohaaMarks
import Derived.Test.YtlkfhbmjemjohaaDfs
import Derived.Test.YtlkfhbmjemjohaaSame
import Derived.Sort.LoopGhostIn
import Derived.RangeFuncCalls
import Derived.Maps.AppendAt
import Derived.Maps.OwnIn
namespace Go.Proofs.Ytlkfhbmjemjohaa.gr
open Go.RowKit Go.Shelf Go.Maps Go.Tre lex
theorem infoB : (Try.prog.info? 4).map (fun i => (i.zero, i.size, i.bytes)) = some (some (.bool false), 1, 1) := by kernel_rfl
theorem infoI : (Try.prog.info? 3).map (fun i => (i.zero, i.size, i.bytes)) = some (some (.int .i64 0), 1, 8) := by kernel_rfl
def rk (k : Nat) : Value := .int .i64 (k : Int)
theorem own_cells {w w' : World} {base : Nat} {e : TypeId} {size n : Nat} {v : Value} {xs : List Value} (h : w.ownsRow base e size v n xs) (hc : CellsKept w w') : w'.ownsRow base e size v n xs := by
  refine ⟨h.1, ?_⟩
  rcases h.2 with h | ⟨g, cap, cur, h1, h2, h3, h4⟩
  · exact .inl h
  · exact .inr ⟨g, cap, cur, h1, h2, hc _ _ _ _ h3, h4⟩
theorem own_base {w : World} {base base' : Nat} {e : TypeId} {size n : Nat} {v : Value} {xs : List Value} (h : w.ownsRow base e size v n xs) (hb : base' ≤ base) : w.ownsRow base' e size v n xs := by
  refine ⟨h.1, ?_⟩
  rcases h.2 with h | ⟨g, cap, cur, h1, h2, h3, h4⟩
  · exact .inl h
  · exact .inr ⟨g, cap, cur, h1, by omega, h3, h4⟩
theorem own_at {w : World} {base : Nat} {e : TypeId} {size n : Nat} {v : Value} {xs : List Value} (h : w.ownsRow base e size v n xs) {r : Nat} (hr : v.ownBlock = some r) : ∃ cs : Array Value, w.heap[r]? = some (.cells cs e) := by
  rcases h.2 with ⟨rfl, _⟩ | ⟨g, cap, cur, rfl, _, h3, _⟩
  · cases hr
  · cases hr; exact ⟨cur, h3⟩
theorem rows_apart {w : World} {b1 b2 : Nat} {e1 e2 : TypeId} {s1 s2 n1 n2 : Nat} {v1 v2 : Value} {x1 x2 : List Value} (h1 : w.ownsRow b1 e1 s1 v1 n1 x1) (h2 : w.ownsRow b2 e2 s2 v2 n2 x2) (hne : e1 ≠ e2) : v1.ownBlock = none ∨ v1.ownBlock ≠ v2.ownBlock := by
  cases hv : v1.ownBlock with
  | none => exact .inl rfl
  | some r =>
    refine .inr fun e => ?_
    obtain ⟨cs, hc⟩ := own_at h1 hv
    obtain ⟨cs', hc'⟩ := own_at h2 e.symm
    rw [hc] at hc'
    cases hc'
    exact hne rfl
theorem marks_kept {base : Nat} {w w' : World} {Ds : List Nat} {row : Option Nat} (m : Marks base w Ds) (hg : w.grownBy w' row) (hr : ∀ r, row = some r → ∃ (cs : Array Value) (t : TypeId), w.heap[r]? = some (.cells cs t)) : Marks base w' Ds :=
  ⟨m.1, fun D hD => ⟨(m.2 D hD).1, by
    have hk := (m.2 D hD).2
    refine (hg.block D (lt_heap hk) ?_).trans hk
    intro e
    obtain ⟨cs, t, hc⟩ := hr D e.symm
    rw [hk] at hc
    cases hc⟩⟩
def metL (g : Tre.Graph) (out : List Nat) : List Value := (List.range g.ns.length).map fun i => Value.bool (decide (i ∈ out))
theorem metL_set (g : Tre.Graph) (out : List Nat) (x : Nat) : metL g (out ++ [x]) = (metL g out).set x (.bool true) := by
  unfold metL
  apply List.ext_getElem
  · simp
  · intro i h1 h2
    simp only [List.getElem_map, List.getElem_range, List.getElem_set, List.mem_append, List.mem_singleton]
    by_cases e : x = i
    · simp [e]
    · rw [if_neg e]
      have : ¬ i = x := fun h => e h.symm
      simp [this]

/-- what Reach's loop holds in memory. n0: the heap at the start; bm: met's block; bw: the box of the nodes that wait -/
structure RM (n0 bm bw : Nat) (w : World) (a : Option Addr) (ca : Nat) (g : Tre.Graph) (v5 vW : Value) (Ds s out : List Nat) (wr : World) : Prop where
  box : Boxed wr bw 25 vW
  wait : wr.ownsRow (n0 + 1) 3 1 vW s.length (s.reverse.map rk)
  outs : wr.ownsRow (n0 + 1) 3 1 v5 out.length (out.map rk)
  met : wr.ownsRow (n0 + 1) 4 1 (.slice (some ⟨bm, 0, none⟩) g.ns.length g.ns.length) g.ns.length (metL g out)
  sep : ∀ b, vW.ownBlock = some b → v5.ownBlock ≠ some b
  below : Below n0 w wr
  gcell : wr.cell? ⟨n0, 0, none⟩ = some (.slice a g.ns.length ca)
  marks : Marks (n0 + 1) wr Ds
  lo : n0 < wr.heap.size
/-- the box of the nodes that wait is written -/
theorem RM.put {n0 bm bw : Nat} {w wr : World} {a : Option Addr} {ca : Nat} {g : Tre.Graph} {v5 vW : Value} {Ds s out : List Nat} (st : RM n0 bm bw w a ca g v5 vW Ds s out wr) (hbw : n0 < bw) (v' : Value) (s' : List Nat)
    (hown : wr.ownsRow (n0 + 1) 3 1 v' s'.length (s'.reverse.map rk)) (hsep : ∀ b, v'.ownBlock = some b → v5.ownBlock ≠ some b) : RM n0 bm bw w a ca g v5 v' Ds s' out (wr.setCell ⟨bw, 0, none⟩ v') := by
  have hg := grownBy_setCell' wr bw v'
  exact ⟨st.box.set v', hown.kept hg (.inr (st.box.not_row (by decide) hown).symm), st.outs.kept hg (.inr (st.box.not_row (by decide) st.outs).symm), st.met.kept hg (.inr (st.box.not_row (by decide) st.met).symm), hsep,
    st.below.setCell (by show n0 ≤ bw; omega) v', hg.cell st.gcell (by simp; omega), marks_kept st.marks hg (fun r e => by cases e; exact ⟨_, _, st.box⟩), Nat.lt_of_lt_of_le st.lo hg.size⟩
/-- a node is met, and told -/
theorem RM.visit {n0 bm bw : Nat} {w wr : World} {a : Option Addr} {ca : Nat} {g : Tre.Graph} {v5 vW : Value} {Ds s out : List Nat} (st : RM n0 bm bw w a ca g v5 vW Ds s out wr) (hbm : n0 < bm) {x : Nat} {tmp : Obj} {v5' : Value} {w4 : World}
    (hown : w4.ownsRow (n0 + 1) 3 1 v5' (out.length + 1) (out.map rk ++ [rk x])) (hgrow : ((wr.setCell ⟨bm, x, none⟩ (.bool true)).alloc tmp).grownBy w4 v5.ownBlock)
    (hat : v5'.ownBlock = v5.ownBlock ∨ v5'.ownBlock = some ((wr.setCell ⟨bm, x, none⟩ (.bool true)).alloc tmp).heap.size) : RM n0 bm bw w a ca g v5' vW Ds s (out ++ [x]) w4 := by
  obtain ⟨m2, hg2⟩ := st.met.stored x (.bool true)
  have box2 := st.box.kept hg2 (by have := st.box.not_row (by decide) st.met; simpa [Value.ownBlock] using this)
  have wait2 := st.wait.kept hg2 (rows_apart st.wait st.met (by decide))
  have outs2 := st.outs.kept hg2 (rows_apart st.outs st.met (by decide))
  have gc2 := hg2.cell st.gcell (by simp; omega)
  have mk2 := marks_kept st.marks hg2 (fun r e => by cases e; obtain ⟨cs, hc⟩ := own_at st.met (r := bm) rfl; exact ⟨cs, _, hc⟩)
  have lo2 := Nat.lt_of_lt_of_le st.lo hg2.size
  have be2 := (st.below.setCell (p := ⟨bm, x, none⟩) (by show n0 ≤ bm; omega) (.bool true))
  generalize wr.setCell ⟨bm, x, none⟩ (.bool true) = W2 at *
  have ga : W2.grownBy (W2.alloc tmp) none := World.grownBy_alloc W2 tmp none
  refine ⟨(box2.alloc tmp).kept hgrow (box2.not_row (by decide) outs2), (wait2.alloc tmp).kept hgrow ?_, ?_, ?_, ?_, ?_, ?_, ?_, ?_⟩
  · cases hv : vW.ownBlock with
    | none => exact .inl rfl
    | some b => exact .inr (fun e => st.sep b hv e.symm)
  · rw [List.length_append, List.length_singleton, List.map_append]; exact hown
  · rw [metL_set]; exact (m2.alloc tmp).kept hgrow (rows_apart m2 outs2 (by decide))
  · intro b hb e
    rcases hat with h | h
    · exact st.sep b hb (by rw [← h, e])
    · rw [h] at e
      cases e
      obtain ⟨cs, hc⟩ := own_at (wait2.alloc tmp) hb
      exact Nat.lt_irrefl _ (lt_heap hc)
  · exact (be2.alloc (Nat.le_of_lt lo2) tmp).grown hgrow (by simp; omega) (fun k e => Nat.le_of_succ_le (own_ge st.outs e))
  · exact hgrow.cell (ga.cell gc2 (by simp)) (own_ne st.outs (by show n0 < n0 + 1; omega)).symm
  · exact marks_kept (marks_kept mk2 ga (fun r e => by cases e)) hgrow (fun r e => by obtain ⟨cs, hc⟩ := own_at (outs2.alloc tmp) e; exact ⟨cs, _, hc⟩)
  · have := hgrow.size; simp at this; omega
/-- a node waits -/
theorem RM.push {n0 bm bw : Nat} {w wr : World} {a : Option Addr} {ca : Nat} {g : Tre.Graph} {v5 vW : Value} {Ds s out : List Nat} (st : RM n0 bm bw w a ca g v5 vW Ds s out wr) (hbw : n0 < bw) {y : Nat} {tmp : Obj} {v' : Value} {w4 : World}
    (hown : w4.ownsRow (n0 + 1) 3 1 v' (s.length + 1) (s.reverse.map rk ++ [rk y])) (hgrow : (wr.alloc tmp).grownBy w4 vW.ownBlock) (hat : v'.ownBlock = vW.ownBlock ∨ v'.ownBlock = some (wr.alloc tmp).heap.size) :
    RM n0 bm bw w a ca g v5 v' Ds (y :: s) out (w4.setCell ⟨bw, 0, none⟩ v') := by
  have ga : wr.grownBy (wr.alloc tmp) none := World.grownBy_alloc wr tmp none
  have hg := grownBy_setCell' w4 bw v'
  have box4 := (st.box.alloc tmp).kept hgrow (st.box.not_row (by decide) st.wait)
  have outs4 : w4.ownsRow (n0 + 1) 3 1 v5 out.length (out.map rk) := (st.outs.alloc tmp).kept hgrow (by
    cases hv : v5.ownBlock with
    | none => exact .inl rfl
    | some b => exact .inr (fun e => st.sep b e.symm hv))
  have met4 := (st.met.alloc tmp).kept hgrow (rows_apart st.met st.wait (by decide))
  have own' : w4.ownsRow (n0 + 1) 3 1 v' (y :: s).length ((y :: s).reverse.map rk) := by rw [List.length_cons, List.reverse_cons, List.map_append]; exact hown
  have mk4 := marks_kept (marks_kept st.marks ga (fun r e => by cases e)) hgrow (fun r e => by obtain ⟨cs, hc⟩ := own_at (st.wait.alloc tmp) e; exact ⟨cs, _, hc⟩)
  refine ⟨box4.set v', own'.kept hg (.inr (box4.not_row (by decide) own').symm), outs4.kept hg (.inr (box4.not_row (by decide) outs4).symm), met4.kept hg (.inr (box4.not_row (by decide) met4).symm), ?_, ?_, ?_, ?_, ?_⟩
  · intro b hb e
    rcases hat with h | h
    · exact st.sep b (by rw [← h, hb]) e
    · rw [h] at hb
      cases hb
      obtain ⟨cs, hc⟩ := own_at (st.outs.alloc tmp) e
      exact Nat.lt_irrefl _ (lt_heap hc)
  · exact ((st.below.alloc (Nat.le_of_lt st.lo) tmp).grown hgrow (by have := st.lo; simp; omega) (fun k e => Nat.le_of_succ_le (own_ge st.wait e))).setCell (by show n0 ≤ bw; omega) v'
  · exact hg.cell (hgrow.cell (ga.cell st.gcell (by simp)) (own_ne st.wait (by show n0 < n0 + 1; omega)).symm) (by simp; omega)
  · exact marks_kept mk4 hg (fun r e => by cases e; exact ⟨_, _, box4⟩)
  · have h1 := hgrow.size
    have h2 := hg.size
    have h3 := st.lo
    simp at h1
    omega
/-- the turn of a block that is no cells -/
theorem RM.kept {n0 bm bw : Nat} {w wr : World} {a : Option Addr} {ca : Nat} {g : Tre.Graph} {v5 vW : Value} {Ds s out : List Nat} (st : RM n0 bm bw w a ca g v5 vW Ds s out wr) {B : Nat} (hB : n0 < B) (hD : ∀ D ∈ Ds, D < B) {W' : World} {row : Option Nat}
    (hg : wr.grownBy W' row) (hr : ∀ r, row = some r → B ≤ r ∧ ∃ o : Obj, wr.heap[r]? = some o ∧ o.isCells = false) : RM n0 bm bw w a ca g v5 vW Ds s out W' := by
  have nr : ∀ {base : Nat} {e : TypeId} {size n : Nat} {v : Value} {xs : List Value}, wr.ownsRow base e size v n xs → v.ownBlock = none ∨ v.ownBlock ≠ row := fun h => by
    rename_i v _
    cases hv : v.ownBlock with
    | none => exact .inl rfl
    | some b =>
      refine .inr fun e => ?_
      obtain ⟨_, o, ho, hc⟩ := hr b e.symm
      obtain ⟨cs, hcs⟩ := own_at h hv
      rw [ho] at hcs
      cases hcs
      cases hc
  refine ⟨st.box.kept hg (fun e => ?_), st.wait.kept hg (nr st.wait), st.outs.kept hg (nr st.outs), st.met.kept hg (nr st.met), st.sep, st.below.grown hg (Nat.le_of_lt st.lo) (fun k e => by have := (hr k e).1; omega), hg.cell st.gcell (fun e => by have := (hr n0 e.symm).1; omega), ⟨st.marks.1, fun D hd => ⟨(st.marks.2 D hd).1, ?_⟩⟩, Nat.lt_of_lt_of_le st.lo hg.size⟩
  · obtain ⟨_, o, ho, hc⟩ := hr bw e.symm
    rw [show wr.heap[bw]? = _ from st.box] at ho
    cases ho
    cases hc
  · have hk := (st.marks.2 D hd).2
    refine (hg.block D (lt_heap hk) (fun e => ?_)).trans hk
    have h1 := (hr D e.symm).1
    have h2 := hD D hd
    omega
end Go.Proofs.Ytlkfhbmjemjohaa.gr
