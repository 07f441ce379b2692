/- A row of nodes that is made empty, and filled node by node; what it reads as. -/
import Derived.Test.YtgngnkajjldnlaaNodv
import Derived.Test.YtgngnkajjldnlaaAlive
import Derived.Test.YtgngnkajjldnlaaTurnp
import Derived.Test.YtgngnkajjldnlaaRegw
import Derived.Test.YtgngnkajjldnlaaApp
import Derived.Test.YtgngnkajjldnlaaTrim
namespace Go.Proofs.Ytgngnkajjldnlaa.gr
open Go.RowKit Go.Shelf Go.Maps Go.Tre lex
def zeroV : NodeV := ⟨⟨0, ByteArray.empty, [], [], false⟩, .slice none 0 0, .slice none 0 0⟩
theorem madeNodes (n : Nat) : (madeCells (Value.agg #[.int .i64 0, .string ByteArray.empty, .slice none 0 0, .slice none 0 0, .bool false]).cells (n * 5)).toList = (List.replicate n zeroV).flatMap NodeV.cells := by
  have hl : ((List.replicate n zeroV).flatMap NodeV.cells).length = n * 5 := by rw [cells_len, List.length_replicate]
  apply List.ext_getElem
  · rw [hl]; simp [madeCells]
  · intro j h1 h2
    rw [hl] at h2
    have h3 : j / 5 < n := by omega
    have e := cells_at (List.replicate n zeroV) (j / 5) (j % 5) zeroV (by rw [List.getElem?_replicate, if_pos h3]) (by omega)
    rw [show j / 5 * 5 + j % 5 = j by omega] at e
    have e2 := List.getElem?_eq_getElem (l := (List.replicate n zeroV).flatMap NodeV.cells) (i := j) (by rw [hl]; exact h2)
    rw [e] at e2
    have hj : j % 5 < 5 := by omega
    have e3 : (madeCells (Value.agg #[.int .i64 0, .string ByteArray.empty, .slice none 0 0, .slice none 0 0, .bool false]).cells (n * 5)).toList[j] = #[Value.int .i64 0, .string ByteArray.empty, .slice none 0 0, .slice none 0 0, .bool false][j % 5]! := by
      simp only [madeCells, Array.getElem_toList, Array.getElem_map, Array.getElem_range]
      rfl
    rw [e3]
    have e4 : zeroV.cells[j % 5]? = some (#[Value.int .i64 0, .string ByteArray.empty, .slice none 0 0, .slice none 0 0, .bool false][j % 5]!) := by
      match j % 5, hj with
      | 0, _ => rfl
      | 1, _ => rfl
      | 2, _ => rfl
      | 3, _ => rfl
      | 4, _ => rfl
    rw [e4] at e2
    exact Option.some.inj e2
theorem cells_set : ∀ (ds : List NodeV) (k : Nat) (d : NodeV), k < ds.length →
    (((((ds.flatMap NodeV.cells).set (k * 5) (.int .i64 d.n.kind)).set (k * 5 + 1) (.string d.n.name)).set (k * 5 + 2) d.va).set (k * 5 + 3) d.vl).set (k * 5 + 4) (.bool d.n.isOpen) = (ds.set k d).flatMap NodeV.cells := by
  intro ds
  induction ds with
  | nil => intro k d h; simp at h
  | cons x r ih =>
    intro k d h
    have hl : x.cells.length = 5 := rfl
    cases k with
    | zero => rfl
    | succ k =>
      have h1 := ih k d (by simpa using h)
      rw [List.set_cons_succ, List.flatMap_cons, List.flatMap_cons, ← h1]
      have e : ∀ (l : List Value) (j : Nat) (u : Value), (x.cells ++ l).set (5 + j) u = x.cells ++ l.set j u := fun l j u => by
        rw [List.set_append_right _ _ (by omega), hl, show 5 + j - 5 = j by omega]
      rw [show (k + 1) * 5 = 5 + k * 5 by omega, show 5 + k * 5 + 1 = 5 + (k * 5 + 1) by omega, show 5 + k * 5 + 2 = 5 + (k * 5 + 2) by omega, show 5 + k * 5 + 3 = 5 + (k * 5 + 3) by omega, show 5 + k * 5 + 4 = 5 + (k * 5 + 4) by omega]
      rw [e, e, e, e, e]
theorem cells_set2 (ds : List NodeV) (k : Nat) (d : NodeV) (v : Value) (n' : Tre.Node) (h : ds[k]? = some d) (e1 : n'.kind = d.n.kind) (e2 : n'.name = d.n.name) (e4 : n'.isOpen = d.n.isOpen) : (ds.flatMap NodeV.cells).set (k * 5 + 2) v = (ds.set k ⟨n', v, d.vl⟩).flatMap NodeV.cells := by
  obtain ⟨hk, hd⟩ := List.getElem?_eq_some_iff.1 h
  rw [← cells_set ds k ⟨n', v, d.vl⟩ hk]
  simp only [e1, e2, e4]
  have g := fun j hj => cells_at ds k j d h hj
  have g0 := g 0 (by omega); have g1 := g 1 (by omega); have g3 := g 3 (by omega); have g4 := g 4 (by omega)
  rw [Nat.add_zero] at g0
  have same : ∀ (l : List Value) (j : Nat) (u : Value), l[j]? = some u → l.set j u = l := fun l j u hu => by
    apply List.ext_getElem?
    intro m
    rw [List.getElem?_set]
    split
    · rename_i e; subst e; rw [if_pos (List.getElem?_eq_some_iff.1 hu).1, hu]
    · rfl
  rw [same _ (k * 5) _ (g0.trans rfl), same _ (k * 5 + 1) _ (g1.trans rfl)]
  rw [same (((ds.flatMap NodeV.cells).set (k * 5 + 2) v)) (k * 5 + 3) d.vl (by rw [List.getElem?_set_ne (by omega)]; exact g3.trans rfl)]
  rw [same (((ds.flatMap NodeV.cells).set (k * 5 + 2) v)) (k * 5 + 4) _ (by rw [List.getElem?_set_ne (by omega)]; exact g4.trans rfl)]

def argsR (d : NodeV) : Res := rowR 3 1 d.va d.n.args.length (d.n.args.map (Value.int .i64))
/-- the nodes' arguments are among what is held; their labels lay there from the start -/
structure DS (w : World) (l : List Res) (ds : List NodeV) : Prop where
  row : ∀ d ∈ ds, argsR d ∈ l
  lab : ∀ d ∈ ds, ∃ al cl, d.vl = .slice al d.n.labels.length cl ∧ StrsAt w al d.n.labels ∧ d.n.labels.length ≤ cl
theorem DS.val {w W : World} {l : List Res} {ds : List NodeV} (h : DS w l ds) (b : Below w.heap.size w W) (hl : (manyR l).P W) : ∀ d ∈ ds, NodeVal W d := fun d hd => by
  obtain ⟨aa, ca, ea, la, ra⟩ := row_read (hl _ (h.row d hd) : World.ownsRow _ _ _ _ _ _ _)
  obtain ⟨al, cl, el, sl, ll⟩ := h.lab d hd
  exact ⟨aa, ca, al, cl, ea, el, ra, sl.below b, la, ll⟩
theorem DS.more {w : World} {l : List Res} {ds : List NodeV} (h : DS w l ds) (r : Res) : DS w (l ++ [r]) ds := ⟨fun d hd => List.mem_append.2 (.inl (h.row d hd)), h.lab⟩
theorem DS.set {w : World} {l : List Res} {ds : List NodeV} (h : DS w l ds) (k : Nat) (d : NodeV) (h1 : argsR d ∈ l) (h2 : ∃ al cl, d.vl = .slice al d.n.labels.length cl ∧ StrsAt w al d.n.labels ∧ d.n.labels.length ≤ cl) : DS w l (ds.set k d) := by
  refine ⟨fun x hx => ?_, fun x hx => ?_⟩
  · rcases List.mem_or_eq_of_mem_set hx with hx | rfl
    · exact h.row x hx
    · exact h1
  · rcases List.mem_or_eq_of_mem_set hx with hx | rfl
    · exact h.lab x hx
    · exact h2
theorem DS.zero (w : World) (n : Nat) : DS w [argsR zeroV] (List.replicate n zeroV) :=
  ⟨fun d hd => by rw [List.eq_of_mem_replicate hd]; simp, fun d hd => by rw [List.eq_of_mem_replicate hd]; exact ⟨none, 0, rfl, row_none _ _, Nat.le_refl _⟩⟩
theorem nodesR_set (v : Value) (ds : List NodeV) (k : Nat) (d : NodeV) (hk : k < ds.length) :
    rowR 33 5 v ds.length ((((((ds.flatMap NodeV.cells).set (k * 5) (.int .i64 d.n.kind)).set (k * 5 + 1) (.string d.n.name)).set (k * 5 + 2) d.va).set (k * 5 + 3) d.vl).set (k * 5 + 4) (.bool d.n.isOpen)) = nodesR v (ds.set k d) := by
  unfold nodesR
  rw [cells_set ds k d hk, List.length_set]
theorem nodesR_len {v : Value} {ds : List NodeV} {n : Nat} (h : ds.length = n) : nodesR v ds = rowR 33 5 v n (ds.flatMap NodeV.cells) := by unfold nodesR; rw [h]
theorem nodesR_put {v : Value} {ds : List NodeV} {k : Nat} {d : NodeV} {n : Nat} (h : ds.length = n) (hk : k < ds.length) :
    rowR 33 5 v n ((((((ds.flatMap NodeV.cells).set (k * 5) (.int .i64 d.n.kind)).set (k * 5 + 1) (.string d.n.name)).set (k * 5 + 2) d.va).set (k * 5 + 3) d.vl).set (k * 5 + 4) (.bool d.n.isOpen)) = nodesR v (ds.set k d) := by
  rw [← h]; exact nodesR_set v ds k d hk
/-- a node is laid: its arguments to the others -/
theorem _root_.Go.Tre.Mem.nodeIn {w0 w : World} {rs l : List Res} {x o b n : Res} (h : Mem w0 w (x :: o :: b :: n :: manyR l :: rs)) : Mem w0 w (n :: manyR (l ++ [x]) :: rs) := by
  have h1 : Mem w0 w (x :: n :: manyR l :: rs) := (h.del 1).del 1
  have h2 : Mem w0 w (manyR l :: x :: n :: rs) := h1.front 2 rfl
  have h3 : Mem w0 w (x :: manyR l :: n :: rs) := h2.front 1 rfl
  exact h3.into.front 1 rfl
theorem argsR_turn (n b : Nat) (X : Tre.Node) (va vl : Value) : rowR 3 1 va X.args.length (X.args.map fun z => Value.int .i64 (turnArg n b z)) = argsR ⟨turnNode n b X, va, vl⟩ := by
  unfold argsR turnNode
  simp only [List.length_map, List.map_map]
  rfl
theorem DS.again {w : World} {l : List Res} {ds : List NodeV} (h : DS w l ds) {d : NodeV} (hd : d ∈ ds) : DS w l (ds ++ [d]) :=
  ⟨fun x hx => by
    rcases List.mem_append.1 hx with hx | hx
    · exact h.row x hx
    · simp at hx; subst hx; exact h.row x hd, fun x hx => by
    rcases List.mem_append.1 hx with hx | hx
    · exact h.lab x hx
    · simp at hx; subst hx; exact h.lab x hd⟩
theorem nodesR_snoc_len {v : Value} {ds : List NodeV} {d : NodeV} {n : Nat} (h : ds.length = n) : nodesR v (ds ++ [d]) = rowR 33 5 v (n + 1) (ds.flatMap NodeV.cells ++ d.cells) := by rw [nodesR_snoc, h]
theorem map_other (k n : Nat) (l : List Int) (h : 0 < l.length) (e : l[0] = (k : Int)) : (l.map (Value.int .i64)).set 0 (.int .i64 (n : Int)) = (otherFirst k n l).map (Value.int .i64) := by
  cases l with
  | nil => simp at h
  | cons a r => simp at e; rw [otherFirst_cons, if_pos e]; rfl
theorem other_same (k n : Nat) (l : List Int) (h : l = [] ∨ ∃ h : 0 < l.length, l[0] ≠ (k : Int)) : otherFirst k n l = l := by
  cases l with
  | nil => rfl
  | cons a r =>
    rcases h with h | ⟨_, h⟩
    · cases h
    · simp at h; rw [otherFirst_cons, if_neg h]
/-- a node's arguments are put elsewhere -/
theorem _root_.Go.Tre.Mem.nodeArgs {w0 w : World} {rs ll : List Res} {v va : Value} {dd : List NodeV} {i k n m : Nat} {x : NodeV} (hx : dd[i]? = some x) (hl : dd.length = m)
    (h : Mem w0 w (rowR 3 1 va x.n.args.length ((otherFirst k n x.n.args).map (Value.int .i64)) :: rowR 33 5 v m ((dd.flatMap NodeV.cells).set (i * 5 + 2) va) :: manyR ll :: rs)) :
    Mem w0 w (nodesR v (dd.set i ⟨twiceNode k n x.n, va, x.vl⟩) :: manyR (ll ++ [argsR ⟨twiceNode k n x.n, va, x.vl⟩]) :: rs) := by
  have e1 : rowR 3 1 va x.n.args.length ((otherFirst k n x.n.args).map (Value.int .i64)) = argsR ⟨twiceNode k n x.n, va, x.vl⟩ := by
    unfold argsR twiceNode
    simp only [otherFirst_len]
  have e2 : rowR 33 5 v m ((dd.flatMap NodeV.cells).set (i * 5 + 2) va) = nodesR v (dd.set i ⟨twiceNode k n x.n, va, x.vl⟩) := by
    unfold nodesR
    rw [cells_set2 dd i x va (twiceNode k n x.n) hx rfl rfl rfl, List.length_set, hl]
  rw [e1, e2] at h
  have h2 := h.front 2 rfl
  have h3 : Mem w0 w (argsR ⟨twiceNode k n x.n, va, x.vl⟩ :: manyR ll :: nodesR v (dd.set i ⟨twiceNode k n x.n, va, x.vl⟩) :: rs) := h2.front 1 rfl
  exact h3.into.front 1 rfl
theorem nodesR_zero (v : Value) (n : Nat) : nodesR v (List.replicate n zeroV) = rowR 33 5 v n ((List.replicate n zeroV).flatMap NodeV.cells) := by
  unfold nodesR; rw [List.length_replicate]
/-- the first k nodes stand where they go -/
def TS (g : Tre.Graph) (b k : Nat) (ds : List NodeV) : Prop :=
  ds.length = g.ns.length ∧ ∀ i, i < g.ns.length → ∃ d, ds[turnAt g.ns.length b i]? = some d ∧ d.n = if i < k then turnNode g.ns.length b (g.nd i) else zeroV.n
theorem TS.start (g : Tre.Graph) (b : Nat) (h : 0 < g.ns.length) : TS g b 0 (List.replicate g.ns.length zeroV) :=
  ⟨List.length_replicate, fun i _ => ⟨zeroV, by rw [List.getElem?_replicate, if_pos (turnAt_lt h)], by rw [if_neg (by omega)]⟩⟩
theorem TS.step {g : Tre.Graph} {b k : Nat} {ds : List NodeV} (h : TS g b k ds) (hk : k < g.ns.length) (d : NodeV) (hd : d.n = turnNode g.ns.length b (g.nd k)) : TS g b (k + 1) (ds.set (turnAt g.ns.length b k) d) := by
  refine ⟨by rw [List.length_set]; exact h.1, fun i hi => ?_⟩
  by_cases e : i = k
  · subst e
    refine ⟨d, ?_, by rw [if_pos (by omega), hd]⟩
    rw [List.getElem?_set_self (by rw [h.1]; exact turnAt_lt (by omega))]
  · obtain ⟨x, h1, h2⟩ := h.2 i hi
    refine ⟨x, ?_, ?_⟩
    · rw [List.getElem?_set_ne (fun e' => e (turnAt_inj hi hk e'.symm))]; exact h1
    · rw [h2]
      by_cases h3 : i < k
      · rw [if_pos h3, if_pos (by omega)]
      · rw [if_neg h3, if_neg (by omega)]
theorem TS.done {g : Tre.Graph} {b : Nat} {ds : List NodeV} {r : Nat} (h : TS g b g.ns.length ds) (hr : g.root = (r : Int)) : Turned g ⟨ds.map NodeV.n, ((turnAt g.ns.length b r : Nat) : Int)⟩ b := by
  refine ⟨by rw [List.length_map, h.1], by rw [hr]; rfl, fun i hi => ?_⟩
  obtain ⟨d, h1, h2⟩ := h.2 i hi
  rw [if_pos hi] at h2
  unfold Graph.nd
  simp only [List.getD_eq_getElem?_getD, List.getElem?_map, h1, Option.map_some, Option.getD_some]
  rw [h2]
  rfl
/-- a row of nodes is made -/
theorem _root_.Go.Tre.Mem.startNodes {w0 w w' : World} {rs : List Res} {n : Nat} (h : Mem w0 w rs) (hg : w.grownBy w' none) (ho : w'.ownsRow 0 33 5 (.slice (some ⟨w.heap.size, 0, none⟩) n n) n ((List.replicate n zeroV).flatMap NodeV.cells)) :
    Mem w0 w' (nodesR (.slice (some ⟨w.heap.size, 0, none⟩) n n) (List.replicate n zeroV) :: manyR [argsR zeroV] :: rs) := by
  have h1 : Mem w0 w (manyR [argsR zeroV] :: rs) := (h.addMany.addNil 3 1).into
  rw [nodesR_zero]
  exact h1.add hg (rowR 33 5 _ n _) ho (fun b hb => by have : some w.heap.size = some b := hb; cases this; exact Nat.le_refl _)
theorem _root_.Go.Tre.Mem.rot3 {w0 w : World} {rs : List Res} {a b c : Res} (h : Mem w0 w (a :: b :: c :: rs)) : Mem w0 w (b :: c :: a :: rs) := by
  have h1 : Mem w0 w (c :: a :: b :: rs) := h.front 2 rfl
  exact (h1.front 2 rfl : Mem w0 w (b :: c :: a :: rs))
end Go.Proofs.Ytgngnkajjldnlaa.gr
