/- How lists, nodes and graphs lie in memory; what stays while other blocks are written. -/
import Derived.WalkKit
namespace Go.Tre
open Go.RowKit

theorem hid {p : Prop} (h : p) : Hid p := h

/-- A slice of n elements of sz cells, at address a: its cells, one behind the other, are cs. -/
structure Row (w : World) (sz : Nat) (a : Option Addr) (n : Nat) (cs : List Value) : Prop where
  len : cs.length = n * sz
  at_ : ∀ j u, cs[j]? = some u → ∃ b off, a = some ⟨b, off, none⟩ ∧ w.cell? ⟨b, off + j, none⟩ = some u

theorem cell_below {w w' : World} (h : Below w.heap.size w w') {p : Addr} {v : Value} (hc : w.cell? p = some v) : w'.cell? p = some v :=
  (h.cell (World.block_lt_of_cell? w p hc)).trans hc

theorem Row.below {w w' : World} {sz : Nat} {a : Option Addr} {n : Nat} {cs : List Value} (h : Row w sz a n cs) (hb : Below w.heap.size w w') : Row w' sz a n cs :=
  ⟨h.len, fun j u hu => by obtain ⟨b, off, e, hc⟩ := h.at_ j u hu; exact ⟨b, off, e, cell_below hb hc⟩⟩

structure Node where
  kind : Int
  name : ByteArray
  args : List Int
  labels : List ByteArray
  isOpen : Bool

structure Graph where
  ns : List Node
  root : Int

abbrev IntsAt (w : World) (a : Option Addr) (xs : List Int) : Prop := Row w 1 a xs.length (xs.map (Value.int .i64))
abbrev StrsAt (w : World) (a : Option Addr) (xs : List ByteArray) : Prop := Row w 1 a xs.length (xs.map Value.string)

/-- The five cells from p on, in block b, are a node. -/
def NodeAt (w : World) (b p : Nat) (n : Node) : Prop :=
  ∃ aa ca al cl, w.cell? ⟨b, p, none⟩ = some (.int .i64 n.kind) ∧ w.cell? ⟨b, p + 1, none⟩ = some (.string n.name) ∧ w.cell? ⟨b, p + 2, none⟩ = some (.slice aa n.args.length ca) ∧
    w.cell? ⟨b, p + 3, none⟩ = some (.slice al n.labels.length cl) ∧ w.cell? ⟨b, p + 4, none⟩ = some (.bool n.isOpen) ∧ IntsAt w aa n.args ∧ StrsAt w al n.labels ∧ n.args.length ≤ ca ∧ n.labels.length ≤ cl

structure NodesAt (w : World) (a : Option Addr) (ns : List Node) : Prop where
  at_ : ∀ (k : Nat) (n : Node), ns[k]? = some n → ∃ b off, a = some ⟨b, off, none⟩ ∧ NodeAt w b (off + k * 5) n

theorem NodeAt.below {w w' : World} {b p : Nat} {n : Node} (h : NodeAt w b p n) (hb : Below w.heap.size w w') : NodeAt w' b p n := by
  obtain ⟨aa, ca, al, cl, h0, h1, h2, h3, h4, h5, h6, h7⟩ := h
  exact ⟨aa, ca, al, cl, cell_below hb h0, cell_below hb h1, cell_below hb h2, cell_below hb h3, cell_below hb h4, h5.below hb, h6.below hb, h7⟩

theorem NodesAt.below {w w' : World} {a : Option Addr} {ns : List Node} (h : NodesAt w a ns) (hb : Below w.heap.size w w') : NodesAt w' a ns :=
  ⟨fun k n hk => by
    obtain ⟨b, off, e, hn⟩ := h.at_ k n hk
    exact ⟨b, off, e, hn.below hb⟩⟩

/-- how much a node weighs -/
def Node.weight (n : Node) : Nat := 1 + n.name.size + n.args.length + (n.labels.map fun s => s.size + 1).sum
def Graph.weight (g : Graph) : Nat := (g.ns.map Node.weight).sum

theorem sum_take_succ {α : Type} (f : α → Nat) (l : List α) (k : Nat) (x : α) (h : l[k]? = some x) : ((l.take (k + 1)).map f).sum = ((l.take k).map f).sum + f x := by
  rw [List.take_add_one, h]; simp
theorem sum_take_le {α : Type} (f : α → Nat) (l : List α) (k : Nat) : ((l.take k).map f).sum ≤ (l.map f).sum := by
  have e : (l.map f).sum = ((l.take k).map f).sum + ((l.drop k).map f).sum := by rw [← List.sum_append, ← List.map_append, List.take_append_drop]
  omega
theorem length_le_sum {α : Type} (f : α → Nat) (h : ∀ x, 1 ≤ f x) (l : List α) : l.length ≤ (l.map f).sum := by
  induction l with
  | nil => simp
  | cons x r ih => simp; have := h x; omega
end Go.Tre
