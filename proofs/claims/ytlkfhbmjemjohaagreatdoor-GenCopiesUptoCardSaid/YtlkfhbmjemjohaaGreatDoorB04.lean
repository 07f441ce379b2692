/- What is reached, in order: plain. Keys that are pairs of nodes, and numbers. Helpers on rows, cells and being the same. graph.Reach's memory: what its loop holds, and how it is carried. -/
import Derived.Test.YtlkfhbmjemjohaaGreatDoorB03
import Derived.DeepKeys4
import Derived.DeepKeys5
import Derived.BigRegion
import Derived.WalkSmall
import Derived.Deep.LoopGhost
import Derived.Deep.DeepCutAuto
import Derived.OpenShut
import Derived.Deep.RegionHeld3
import Derived.Deep.AppendLies
import Derived.Deep.DrawnRows
import Derived.Test.YtlkfhbmjemjohaaGreatDoorB00
import Derived.Sort.LoopGhostIn
import Derived.RangeFuncCalls
import Derived.Maps.AppendAt
import Derived.Maps.OwnIn
set_option linter.unusedVariables false
namespace Go.Tre
def Graph.kids (g : Tre.Graph) (a : Nat) : List Nat := (g.nd a).args.map Int.toNat
theorem Graph.kids_len (g : Tre.Graph) (a : Nat) : (g.kids a).length = g.deg a := by unfold Graph.kids Graph.deg; simp
def Graph.budget (g : Tre.Graph) (out : List Nat) : Nat := ((List.range g.ns.length).map fun a => if a ∈ out then 0 else g.deg a + 1).sum
theorem Graph.budget_step {g : Tre.Graph} {out : List Nat} {a : Nat} (ha : a < g.ns.length) (hn : a ∉ out) : g.budget (out ++ [a]) + (g.deg a + 1) = g.budget out := by
 have := sum_upd (fun x => if x ∈ out ++ [a] then 0 else g.deg x + 1) (fun x => if x ∈ out then 0 else g.deg x + 1) a (List.range g.ns.length) List.nodup_range (List.mem_range.2 ha)
  (fun q hq => by
   have : (q ∈ out ++ [a]) = (q ∈ out) := by simp [hq]
   simp only [this])
 simp only [List.mem_append, List.mem_singleton, or_true, if_true, if_neg hn] at this
 unfold Graph.budget
 simp only [List.mem_append, List.mem_singleton]
 omega
def Graph.dfs (g : Tre.Graph) : List Nat → List Nat → List Nat
 | [], out => out
 | a :: s, out => if _h : a ∈ out ∨ g.ns.length ≤ a then g.dfs s out else g.dfs (g.kids a ++ s) (out ++ [a])
termination_by s out => g.budget out + s.length
decreasing_by
 ·simp
 ·have := Graph.budget_step (g := g) (out := out) (a := a) (by omega) (fun e => _h (.inl e))
  simp only [List.length_append, List.length_cons, g.kids_len]
  omega
theorem Graph.dfs_nil (g : Tre.Graph) (out : List Nat) : g.dfs [] out = out := by rw [Graph.dfs]
theorem Graph.dfs_skip {g : Tre.Graph} {out s : List Nat} {a : Nat} (h : a ∈ out) : g.dfs (a :: s) out = g.dfs s out := by rw [Graph.dfs, dif_pos (.inl h)]
theorem Graph.dfs_take {g : Tre.Graph} {out s : List Nat} {a : Nat} (h : a ∉ out) (hl : a < g.ns.length) : g.dfs (a :: s) out = g.dfs (g.kids a ++ s) (out ++ [a]) := by
 rw [Graph.dfs, dif_neg (fun e => e.elim h (fun e => by omega))]
def Graph.reachL (g : Tre.Graph) : List Nat := if g.checkC = 0 then g.dfs [g.root.toNat] [] else []
theorem Graph.budget_le (g : Tre.Graph) : g.budget [] ≤ g.weight := by
 unfold Graph.budget Graph.weight
 have e2 : ((List.range g.ns.length).map fun a => if a ∈ ([] : List Nat) then 0 else g.deg a + 1) = g.ns.map fun n => n.args.length + 1 := by
  apply List.ext_getElem
  ·simp
  ·intro i h1 h2
   have hi : i < g.ns.length := by simpa using h1
   simp [Graph.deg, Graph.nd_eq hi]
 rw [e2]
 generalize g.ns = ns
 induction ns with
 | nil => simp
 | cons n r ih =>
  have : n.args.length + 1 ≤ n.weight := by unfold Tre.Node.weight; omega
  simp only [List.map_cons, List.sum_cons]
  omega
theorem Graph.Ok.kids_eq {g : Tre.Graph} (h : g.Ok) {a : Nat} (ha : a < g.ns.length) : (g.nd a).args = (g.kids a).map (fun k : Nat => (k : Int)) := by
 unfold Graph.kids
 rw [List.map_map]
 apply List.ext_getElem
 ·simp
 ·intro i h1 h2
  obtain ⟨k, hk, _, _⟩ := h.arg ha (i := i) h1
  rw [List.getElem?_eq_getElem h1] at hk
  rw [List.getElem_map, Option.some.inj hk]
  simp
theorem Graph.Ok.kids_lt {g : Tre.Graph} (h : g.Ok) {a : Nat} (ha : a < g.ns.length) : ∀ b ∈ g.kids a, b < g.ns.length := by
 intro b hb
 unfold Graph.kids at hb
 obtain ⟨z, hz, rfl⟩ := List.mem_map.1 hb
 obtain ⟨i, hi, ez⟩ := List.getElem_of_mem hz
 obtain ⟨q, hq, _, hql⟩ := h.arg ha (i := i) hi
 rw [List.getElem?_eq_getElem hi, ez] at hq
 cases hq
 simpa using hql

/-! what is reached: each once; whatever a node that is reached leads to -/
theorem Graph.dfs_spec (g : Tre.Graph) (og : g.Ok) : ∀ (k : Nat) (s out : List Nat), g.budget out + s.length ≤ k → out.Nodup → (∀ a ∈ out, a < g.ns.length) → (∀ a ∈ s, a < g.ns.length) → (∀ a ∈ out, ∀ b ∈ g.kids a, b ∈ out ∨ b ∈ s) →
  (g.dfs s out).Nodup ∧ (∀ a ∈ g.dfs s out, a < g.ns.length) ∧ (∀ a ∈ g.dfs s out, ∀ b ∈ g.kids a, b ∈ g.dfs s out) ∧ (∃ t, g.dfs s out = out ++ t) ∧ (∀ a ∈ s, a ∈ g.dfs s out) := by
 intro k
 induction k with
 | zero =>
  intro s out hk h1 h2 h3 h4
  have : s = [] := List.length_eq_zero_iff.1 (by omega)
  subst this
  rw [g.dfs_nil]
  exact ⟨h1, h2, fun a ha b hb => (h4 a ha b hb).elim (fun e => e) (fun e => by simp at e), ⟨[], by simp⟩, by simp⟩
 | succ k ih =>
  intro s out hk h1 h2 h3 h4
  cases s with
  | nil =>
   rw [g.dfs_nil]
   exact ⟨h1, h2, fun a ha b hb => (h4 a ha b hb).elim (fun e => e) (fun e => by simp at e), ⟨[], by simp⟩, by simp⟩
  | cons a s =>
   have hal := h3 a (by simp)
   by_cases hm : a ∈ out
   ·rw [Graph.dfs_skip hm]
    obtain ⟨r1, r2, r3, ⟨t, r4⟩, r5⟩ := ih s out (by simp at hk; omega) h1 h2 (fun b hb => h3 b (by simp [hb])) (fun b hb c hc => by
     rcases h4 b hb c hc with e | e
     ·exact .inl e
     ·rcases List.mem_cons.1 e with rfl | e
      ·exact .inl hm
      ·exact .inr e)
    refine ⟨r1, r2, r3, ⟨t, r4⟩, fun b hb => ?_⟩
    rcases List.mem_cons.1 hb with rfl | hb
    ·rw [r4]; simp [hm]
    ·exact r5 b hb
   ·rw [Graph.dfs_take hm hal]
    have hb := Graph.budget_step hal hm
    obtain ⟨r1, r2, r3, ⟨t, r4⟩, r5⟩ := ih (g.kids a ++ s) (out ++ [a]) (by simp only [List.length_append, List.length_cons, g.kids_len] at hk ⊢; omega)
     (List.nodup_append.2 ⟨h1, by simp, fun x hx y hy e => by simp at hy; subst hy; subst e; exact hm hx⟩)
     (fun b hb => by rcases List.mem_append.1 hb with hb | hb; exact h2 b hb; simp at hb; rw [hb]; exact hal)
     (fun b hb => by
      rcases List.mem_append.1 hb with hb | hb
      ·unfold Graph.kids at hb
       obtain ⟨z, hz, rfl⟩ := List.mem_map.1 hb
       obtain ⟨i, hi, ez⟩ := List.getElem_of_mem hz
       obtain ⟨q, hq, _, hql⟩ := og.arg hal (i := i) hi
       rw [List.getElem?_eq_getElem hi, ez] at hq
       cases hq
       simpa using hql
      ·exact h3 b (by simp [hb]))
     (fun b hb c hc => by
      rcases List.mem_append.1 hb with hb | hb
      ·rcases h4 b hb c hc with e | e
       ·exact .inl (by simp [e])
       ·rcases List.mem_cons.1 e with rfl | e
        ·exact .inl (by simp)
        ·exact .inr (by simp [e])
      ·simp at hb; subst hb
       exact .inr (by simp [hc]))
    refine ⟨r1, r2, r3, ⟨a :: t, by rw [r4]; simp⟩, fun b hb => ?_⟩
    rcases List.mem_cons.1 hb with rfl | hb
    ·rw [r4]; simp
    ·exact r5 b (by simp [hb])
end Go.Tre
namespace Go.Proofs.YtlkfhbmjemjohaaGreatDoor.gr
open Go.RowKit Go.Maps Go.Tre lex
theorem laidOut : laidOutB Tryz.prog = true := by kernel_rfl
theorem rowP : 76 < Tryz.prog.types.size := of_decide_eq_true (by kernel_rfl)
theorem wideP : (match Tryz.prog.underlying 76 with | some (.array _ _) | some (.struct _) => true | _ => false) = true := by kernel_rfl
set_option maxRecDepth 100000 in
theorem KP : Keyed Tryz.prog 76 := Keyed.of_law (deep_law_laid laidOut (m := 2) (by omega) rowP (by kernel_rfl) wideP)
theorem kp (a b : Nat) (ha : a ≤ 8388608) (hb : b ≤ 8388608) : ∃ l, keyOf Tryz.prog 76 (.agg #[.int .i64 a, .int .i64 b]) = some l := by
 have h1 : Tryz.prog.keyType 76 = true := by kernel_rfl
 have h2 : (Value.agg #[.int .i64 a, .int .i64 b]).formed Tryz.prog 76 = true := by kernel_rfl
 have c44 : Tryz.prog.cellsOf 76 = 2 := by kernel_rfl
 have c3 : Tryz.prog.cellsOf 3 = 1 := by kernel_rfl
 obtain ⟨m, hm⟩ : ∃ m, Tryz.prog.types.size = m + 1 := Nat.exists_eq_succ_of_ne_zero (by have := rowP; omega)
 have wa : (Lit.int .i64 (a : Int)).wf = true := by simp [Lit.wf, IntKind.min, IntKind.max, IntKind.signed, IntKind.bits]; omega
 have wb : (Lit.int .i64 (b : Int)).wf = true := by simp [Lit.wf, IntKind.min, IntKind.max, IntKind.signed, IntKind.bits]; omega
 have h3 : (Tryz.prog.keyLits (Tryz.prog.types.size + 1) 76 [.int .i64 (a : Int), .int .i64 (b : Int)]) = some [.int .i64 (a : Int), .int .i64 (b : Int)] := by
  rw [hm]
  simp [Program.keyLits, Tryz.underlying76, Tryz.underlying3, c44, c3, wa, wb]
 refine ⟨.string (keyBytes [.int .i64 (a : Int), .int .i64 (b : Int)]), ?_⟩
 unfold keyOf
 rw [Tryz.underlying76]
 simp only [h1, h2, Bool.and_self, if_true]
 show Option.map _ (Tryz.prog.keyLits (Tryz.prog.types.size + 1) 76 [.int .i64 (a : Int), .int .i64 (b : Int)]) = _
 rw [h3]
 rfl

abbrev ep (p : Nat × Nat) : Value := .agg #[.int .i64 (p.1 : Int), .int .i64 (p.2 : Int)]
abbrev en (n : Nat) : Value := .int .i64 (n : Int)
theorem injP (a b : Nat × Nat) (h : ep a = ep b) : a = b := by
 obtain ⟨a1, a2⟩ := a
 obtain ⟨b1, b2⟩ := b
 simp only [ep, Value.agg.injEq] at h
 have h' := congrArg Array.toList h
 simp only [List.cons.injEq, Value.int.injEq, true_and, and_true] at h'
 simp only [Prod.mk.injEq]
 omega
theorem injN (a b : Nat) (h : en a = en b) : a = b := by
 simp only [en, Value.int.injEq, true_and] at h
 omega
theorem KI : Keyed Tryz.prog 3 := int_keyed Tryz.underlying3
theorem kn (a : Nat) (ha : a ≤ 8388608) : keyOf Tryz.prog 3 (en a) = some (.int .i64 (a : Int)) :=
 keyOf_int_mk Tryz.underlying3 (by simp [Lit.wf, IntKind.min, IntKind.max, IntKind.signed, IntKind.bits]; omega)
theorem zb (w : World) : (zeroValue 4).run Tryz.prog w = .ok (.bool false) w := by kernel_rfl
end Go.Proofs.YtlkfhbmjemjohaaGreatDoor.gr
namespace Go.Tre
def pcells (l : List (Nat × Nat)) : List Value := l.flatMap fun p => [.int .i64 (p.1 : Int), .int .i64 (p.2 : Int)]
theorem pcells_len (l : List (Nat × Nat)) : (pcells l).length = l.length * 2 := by
 unfold pcells
 induction l with
 | nil => rfl
 | cons p r ih => simp [List.flatMap_cons, ih]; omega
theorem pcells_snoc (l : List (Nat × Nat)) (p : Nat × Nat) : pcells (l ++ [p]) = pcells l ++ [.int .i64 (p.1 : Int), .int .i64 (p.2 : Int)] := by
 simp [pcells]

section
variable {w : World} {base : Nat} {e : TypeId} {size : Nat} {v : Value} {n : Nat} {xs : List Value}
theorem own_pos (h : w.ownsRow base e size v (n + 1) xs) : ∃ g cap, v = .slice (some ⟨g, 0, none⟩) (n + 1) cap ∧ n + 1 ≤ cap := by
 rcases h.2 with ⟨_, h0⟩ | ⟨g, cap, _, hv, _, _, hc, _⟩
 ·omega
 ·exact ⟨g, cap, hv, hc⟩
theorem own_any (h : w.ownsRow base e size v n xs) : ∃ o cap, v = .slice o n cap := by
 rcases h.2 with ⟨rfl, h0⟩ | ⟨g, cap, _, hv, _⟩
 ·subst h0; exact ⟨none, 0, rfl⟩
 ·exact ⟨_, cap, hv⟩
theorem own_map {α β : Type} {P : Program} {k : TypeId} {ek : α → Value} {ev : β → Value} {b c : Nat} {m : α → Option β} (h : w.ownsRow base e size v n xs) (hm : MapIs P k ek ev w b c m) : v.ownBlock ≠ some b := by
 obtain ⟨es, clock, hb, _⟩ := hm
 rcases h.2 with ⟨rfl, _⟩ | ⟨g, cap, cur, rfl, _, hg, _⟩
 ·simp [Value.ownBlock]
 ·intro e
  simp [Value.ownBlock] at e
  subst e
  rw [hb] at hg
  cases hg
end
end Go.Tre
namespace Go.Proofs.YtlkfhbmjemjohaaGreatDoor.gr
open Go.RowKit Go.Maps Go.Tre lex

theorem cell_of_heap {w : World} {b : Nat} {cs : Array Value} {t : TypeId} {z : Nat × Nat} (h : w.heap[b]? = some (.cells cs t z)) {j : Nat} {u : Value} (hj : cs[j]? = some u) : w.cell? ⟨b, j, none⟩ = some u := by
 simp only [World.cell?, h]; exact hj
theorem heap_one (w : World) (o o2 : Obj) : ((w.alloc o).alloc o2).heap[w.heap.size]? = some o := by
 rw [Below.heap_alloc _ _ _ (by simp), heap_alloc_new]
theorem heap_two (w : World) (o o2 : Obj) : ((w.alloc o).alloc o2).heap[w.heap.size + 1]? = some o2 := by
 have := heap_alloc_new (w.alloc o) o2
 rwa [World.size_alloc] at this
theorem cell_belowS {S : Nat} {w w' : World} (h : Below S w w') (hS : w.heap.size = S) {p : Addr} {v : Value} (hc : w.cell? p = some v) : w'.cell? p = some v := by
 subst hS
 exact cell_below h hc
theorem args_len (n : Tre.Node) : n.args.length ≤ n.weight := by unfold Tre.Node.weight; omega
theorem labels_len (n : Tre.Node) : n.labels.length ≤ n.weight := by
 have := length_le_sum (fun s : ByteArray => s.size + 1) (fun s => by omega) n.labels
 unfold Tre.Node.weight; omega
theorem lt_heap {w : World} {b : Nat} {o : Obj} (h : w.heap[b]? = some o) : b < w.heap.size := (Array.getElem?_eq_some_iff.1 h).1
theorem own_type {w : World} {base : Nat} {e : TypeId} {size : Nat} {v : Value} {n : Nat} {xs : List Value} {b : Nat} {cs : Array Value} {t : TypeId} {fr : Nat × Nat} (h : w.ownsRow base e size v n xs) (hb : w.heap[b]? = some (.cells cs t fr)) (hne : t ≠ e) : v.ownBlock ≠ some b := by
 rcases h.2 with ⟨rfl, _⟩ | ⟨g, cap, cur, rfl, _, hg, _⟩
 ·simp [Value.ownBlock]
 ·intro e'
  simp [Value.ownBlock] at e'
  subst e'
  rw [hb] at hg
  cases hg
  exact hne rfl
theorem own_ne {w : World} {base : Nat} {e : TypeId} {size : Nat} {v : Value} {n : Nat} {xs : List Value} {b : Nat} (h : w.ownsRow base e size v n xs) (hb : b < base) : v.ownBlock ≠ some b := by
 rcases h.2 with ⟨rfl, _⟩ | ⟨g, cap, cur, rfl, h1, _, _⟩
 ·simp [Value.ownBlock]
 ·intro e'
  simp [Value.ownBlock] at e'
  omega
theorem own_ge {w : World} {base : Nat} {e : TypeId} {size : Nat} {v : Value} {n : Nat} {xs : List Value} {b : Nat} (h : w.ownsRow base e size v n xs) (hb : v.ownBlock = some b) : base ≤ b := by
 rcases h.2 with ⟨rfl, _⟩ | ⟨g, cap, cur, rfl, h1, _, _⟩
 ·simp [Value.ownBlock] at hb
 ·simp [Value.ownBlock] at hb
  omega
theorem infoP : (Tryz.prog.info? 76).map (fun i => (i.zero, i.size, i.bytes)) = some (some (.agg #[.int .i64 0, .int .i64 0]), 2, 16) := by kernel_rfl
theorem grown_of {w w' : World} (h : Below w.heap.size w w') : w.grownBy w' none := ⟨h.os, h.tape, h.output, h.size, fun k hk _ => h.block k hk⟩
theorem not_ok {c : Int} (h : c ≠ 0) : (c != 0) = true := by rw [bne_iff_ne]; exact h


open Classical in
theorem sameB_true {g h : Tre.Graph} (s : SameG g h) : sameB g h = true := by unfold sameB; simp [s]
open Classical in
theorem sameB_false {g h : Tre.Graph} (s : ¬ SameG g h) : sameB g h = false := by unfold sameB; simp [s]
end Go.Proofs.YtlkfhbmjemjohaaGreatDoor.gr
namespace Go.Proofs.YtlkfhbmjemjohaaGreatDoor.gr
open Go.RowKit Go.Shelf Go.Maps Go.Tre lex
theorem infoB : (Tryz.prog.info? 4).map (fun i => (i.zero, i.size, i.bytes)) = some (some (.bool false), 1, 1) := by kernel_rfl
theorem infoI : (Tryz.prog.info? 3).map (fun i => (i.zero, i.size, i.bytes)) = some (some (.int .i64 0), 1, 8) := by kernel_rfl
def rk (k : Nat) : Value := .int .i64 (k : Int)
theorem own_cells {w w' : World} {base : Nat} {e : TypeId} {size n : Nat} {v : Value} {xs : List Value} (h : w.ownsRow base e size v n xs) (hc : CellsKept w w') : w'.ownsRow base e size v n xs := by
 refine ⟨h.1, ?_⟩
 rcases h.2 with h | ⟨g, cap, cur, h1, h2, h3, h4⟩
 ·exact .inl h
 ·exact .inr ⟨g, cap, cur, h1, h2, hc _ _ _ _ h3, h4⟩
theorem own_base {w : World} {base base' : Nat} {e : TypeId} {size n : Nat} {v : Value} {xs : List Value} (h : w.ownsRow base e size v n xs) (hb : base' ≤ base) : w.ownsRow base' e size v n xs := by
 refine ⟨h.1, ?_⟩
 rcases h.2 with h | ⟨g, cap, cur, h1, h2, h3, h4⟩
 ·exact .inl h
 ·exact .inr ⟨g, cap, cur, h1, by omega, h3, h4⟩
theorem own_at {w : World} {base : Nat} {e : TypeId} {size n : Nat} {v : Value} {xs : List Value} (h : w.ownsRow base e size v n xs) {r : Nat} (hr : v.ownBlock = some r) : ∃ cs : Array Value, w.heap[r]? = some (.cells cs e) := by
 rcases h.2 with ⟨rfl, _⟩ | ⟨g, cap, cur, rfl, _, h3, _⟩
 ·cases hr
 ·cases hr; exact ⟨cur, h3⟩
theorem rows_apart {w : World} {b1 b2 : Nat} {e1 e2 : TypeId} {s1 s2 n1 n2 : Nat} {v1 v2 : Value} {x1 x2 : List Value} (h1 : w.ownsRow b1 e1 s1 v1 n1 x1) (h2 : w.ownsRow b2 e2 s2 v2 n2 x2) (hne : e1 ≠ e2) : v1.ownBlock = none ∨ v1.ownBlock ≠ v2.ownBlock := by
 cases hv : v1.ownBlock with
 | none => exact .inl rfl
 | some r =>
  refine .inr fun e => ?_
  obtain ⟨cs, hc⟩ := own_at h1 hv
  obtain ⟨cs', hc'⟩ := own_at h2 e.symm
  rw [hc] at hc'
  cases hc'
  exact hne rfl
theorem marks_kept {base : Nat} {w w' : World} {Ds : List Nat} {row : Option Nat} (m : Marks base w Ds) (hg : w.grownBy w' row) (hr : ∀ r, row = some r → ∃ (cs : Array Value) (t : TypeId), w.heap[r]? = some (.cells cs t)) : Marks base w' Ds :=
 ⟨m.1, fun D hD => ⟨(m.2 D hD).1, by
  have hk := (m.2 D hD).2
  refine (hg.block D (lt_heap hk) ?_).trans hk
  intro e
  obtain ⟨cs, t, hc⟩ := hr D e.symm
  rw [hk] at hc
  cases hc⟩⟩
def metL (g : Tre.Graph) (out : List Nat) : List Value := (List.range g.ns.length).map fun i => Value.bool (decide (i ∈ out))
theorem metL_set (g : Tre.Graph) (out : List Nat) (x : Nat) : metL g (out ++ [x]) = (metL g out).set x (.bool true) := by
 unfold metL
 apply List.ext_getElem
 ·simp
 ·intro i h1 h2
  simp only [List.getElem_map, List.getElem_range, List.getElem_set, List.mem_append, List.mem_singleton]
  by_cases e : x = i
  ·simp [e]
  ·rw [if_neg e]
   have : ¬ i = x := fun h => e h.symm
   simp [this]

structure RM (n0 bm bw : Nat) (w : World) (a : Option Addr) (ca : Nat) (g : Tre.Graph) (v5 vW : Value) (Ds s out : List Nat) (wr : World) : Prop where
 box : Boxed wr bw 31 vW
 wait : wr.ownsRow (n0 + 1) 3 1 vW s.length (s.reverse.map rk)
 outs : wr.ownsRow (n0 + 1) 3 1 v5 out.length (out.map rk)
 met : wr.ownsRow (n0 + 1) 4 1 (.slice (some ⟨bm, 0, none⟩) g.ns.length g.ns.length) g.ns.length (metL g out)
 sep : ∀ b, vW.ownBlock = some b → v5.ownBlock ≠ some b
 below : Below n0 w wr
 gcell : wr.cell? ⟨n0, 0, none⟩ = some (.slice a g.ns.length ca)
 marks : Marks (n0 + 1) wr Ds
 lo : n0 < wr.heap.size
theorem RM.put {n0 bm bw : Nat} {w wr : World} {a : Option Addr} {ca : Nat} {g : Tre.Graph} {v5 vW : Value} {Ds s out : List Nat} (st : RM n0 bm bw w a ca g v5 vW Ds s out wr) (hbw : n0 < bw) (v' : Value) (s' : List Nat)
  (hown : wr.ownsRow (n0 + 1) 3 1 v' s'.length (s'.reverse.map rk)) (hsep : ∀ b, v'.ownBlock = some b → v5.ownBlock ≠ some b) : RM n0 bm bw w a ca g v5 v' Ds s' out (wr.setCell ⟨bw, 0, none⟩ v') := by
 have hg := grownBy_setCell' wr bw v'
 exact ⟨st.box.set v', hown.kept hg (.inr (st.box.not_row (by decide) hown).symm), st.outs.kept hg (.inr (st.box.not_row (by decide) st.outs).symm), st.met.kept hg (.inr (st.box.not_row (by decide) st.met).symm), hsep,
  st.below.setCell (by show n0 ≤ bw; omega) v', hg.cell st.gcell (by simp; omega), marks_kept st.marks hg (fun r e => by cases e; exact ⟨_, _, st.box⟩), Nat.lt_of_lt_of_le st.lo hg.size⟩
theorem RM.visit {n0 bm bw : Nat} {w wr : World} {a : Option Addr} {ca : Nat} {g : Tre.Graph} {v5 vW : Value} {Ds s out : List Nat} (st : RM n0 bm bw w a ca g v5 vW Ds s out wr) (hbm : n0 < bm) {x : Nat} {tmp : Obj} {v5' : Value} {w4 : World}
  (hown : w4.ownsRow (n0 + 1) 3 1 v5' (out.length + 1) (out.map rk ++ [rk x])) (hgrow : ((wr.setCell ⟨bm, x, none⟩ (.bool true)).alloc tmp).grownBy w4 v5.ownBlock)
  (hat : v5'.ownBlock = v5.ownBlock ∨ v5'.ownBlock = some ((wr.setCell ⟨bm, x, none⟩ (.bool true)).alloc tmp).heap.size) : RM n0 bm bw w a ca g v5' vW Ds s (out ++ [x]) w4 := by
 obtain ⟨m2, hg2⟩ := st.met.stored x (.bool true)
 have box2 := st.box.kept hg2 (by have := st.box.not_row (by decide) st.met; simpa [Value.ownBlock] using this)
 have wait2 := st.wait.kept hg2 (rows_apart st.wait st.met (by decide))
 have outs2 := st.outs.kept hg2 (rows_apart st.outs st.met (by decide))
 have gc2 := hg2.cell st.gcell (by simp; omega)
 have mk2 := marks_kept st.marks hg2 (fun r e => by cases e; obtain ⟨cs, hc⟩ := own_at st.met (r := bm) rfl; exact ⟨cs, _, hc⟩)
 have lo2 := Nat.lt_of_lt_of_le st.lo hg2.size
 have be2 := (st.below.setCell (p := ⟨bm, x, none⟩) (by show n0 ≤ bm; omega) (.bool true))
 generalize wr.setCell ⟨bm, x, none⟩ (.bool true) = W2 at *
 have ga : W2.grownBy (W2.alloc tmp) none := World.grownBy_alloc W2 tmp none
 refine ⟨(box2.alloc tmp).kept hgrow (box2.not_row (by decide) outs2), (wait2.alloc tmp).kept hgrow ?_, ?_, ?_, ?_, ?_, ?_, ?_, ?_⟩
 ·cases hv : vW.ownBlock with
  | none => exact .inl rfl
  | some b => exact .inr (fun e => st.sep b hv e.symm)
 ·rw [List.length_append, List.length_singleton, List.map_append]; exact hown
 ·rw [metL_set]; exact (m2.alloc tmp).kept hgrow (rows_apart m2 outs2 (by decide))
 ·intro b hb e
  rcases hat with h | h
  ·exact st.sep b hb (by rw [← h, e])
  ·rw [h] at e
   cases e
   obtain ⟨cs, hc⟩ := own_at (wait2.alloc tmp) hb
   exact Nat.lt_irrefl _ (lt_heap hc)
 ·exact (be2.alloc (Nat.le_of_lt lo2) tmp).grown hgrow (by simp; omega) (fun k e => Nat.le_of_succ_le (own_ge st.outs e))
 ·exact hgrow.cell (ga.cell gc2 (by simp)) (own_ne st.outs (by show n0 < n0 + 1; omega)).symm
 ·exact marks_kept (marks_kept mk2 ga (fun r e => by cases e)) hgrow (fun r e => by obtain ⟨cs, hc⟩ := own_at (outs2.alloc tmp) e; exact ⟨cs, _, hc⟩)
 ·have := hgrow.size; simp at this; omega
theorem RM.push {n0 bm bw : Nat} {w wr : World} {a : Option Addr} {ca : Nat} {g : Tre.Graph} {v5 vW : Value} {Ds s out : List Nat} (st : RM n0 bm bw w a ca g v5 vW Ds s out wr) (hbw : n0 < bw) {y : Nat} {tmp : Obj} {v' : Value} {w4 : World}
  (hown : w4.ownsRow (n0 + 1) 3 1 v' (s.length + 1) (s.reverse.map rk ++ [rk y])) (hgrow : (wr.alloc tmp).grownBy w4 vW.ownBlock) (hat : v'.ownBlock = vW.ownBlock ∨ v'.ownBlock = some (wr.alloc tmp).heap.size) :
  RM n0 bm bw w a ca g v5 v' Ds (y :: s) out (w4.setCell ⟨bw, 0, none⟩ v') := by
 have ga : wr.grownBy (wr.alloc tmp) none := World.grownBy_alloc wr tmp none
 have hg := grownBy_setCell' w4 bw v'
 have box4 := (st.box.alloc tmp).kept hgrow (st.box.not_row (by decide) st.wait)
 have outs4 : w4.ownsRow (n0 + 1) 3 1 v5 out.length (out.map rk) := (st.outs.alloc tmp).kept hgrow (by
  cases hv : v5.ownBlock with
  | none => exact .inl rfl
  | some b => exact .inr (fun e => st.sep b e.symm hv))
 have met4 := (st.met.alloc tmp).kept hgrow (rows_apart st.met st.wait (by decide))
 have own' : w4.ownsRow (n0 + 1) 3 1 v' (y :: s).length ((y :: s).reverse.map rk) := by rw [List.length_cons, List.reverse_cons, List.map_append]; exact hown
 have mk4 := marks_kept (marks_kept st.marks ga (fun r e => by cases e)) hgrow (fun r e => by obtain ⟨cs, hc⟩ := own_at (st.wait.alloc tmp) e; exact ⟨cs, _, hc⟩)
 refine ⟨box4.set v', own'.kept hg (.inr (box4.not_row (by decide) own').symm), outs4.kept hg (.inr (box4.not_row (by decide) outs4).symm), met4.kept hg (.inr (box4.not_row (by decide) met4).symm), ?_, ?_, ?_, ?_, ?_⟩
 ·intro b hb e
  rcases hat with h | h
  ·exact st.sep b (by rw [← h, hb]) e
  ·rw [h] at hb
   cases hb
   obtain ⟨cs, hc⟩ := own_at (st.outs.alloc tmp) e
   exact Nat.lt_irrefl _ (lt_heap hc)
 ·exact ((st.below.alloc (Nat.le_of_lt st.lo) tmp).grown hgrow (by have := st.lo; simp; omega) (fun k e => Nat.le_of_succ_le (own_ge st.wait e))).setCell (by show n0 ≤ bw; omega) v'
 ·exact hg.cell (hgrow.cell (ga.cell st.gcell (by simp)) (own_ne st.wait (by show n0 < n0 + 1; omega)).symm) (by simp; omega)
 ·exact marks_kept mk4 hg (fun r e => by cases e; exact ⟨_, _, box4⟩)
 ·have h1 := hgrow.size
  have h2 := hg.size
  have h3 := st.lo
  simp at h1
  omega
theorem RM.kept {n0 bm bw : Nat} {w wr : World} {a : Option Addr} {ca : Nat} {g : Tre.Graph} {v5 vW : Value} {Ds s out : List Nat} (st : RM n0 bm bw w a ca g v5 vW Ds s out wr) {B : Nat} (hB : n0 < B) (hD : ∀ D ∈ Ds, D < B) {W' : World} {row : Option Nat}
  (hg : wr.grownBy W' row) (hr : ∀ r, row = some r → B ≤ r ∧ ∃ o : Obj, wr.heap[r]? = some o ∧ o.isCells = false) : RM n0 bm bw w a ca g v5 vW Ds s out W' := by
 have nr : ∀ {base : Nat} {e : TypeId} {size n : Nat} {v : Value} {xs : List Value}, wr.ownsRow base e size v n xs → v.ownBlock = none ∨ v.ownBlock ≠ row := fun h => by
  rename_i v _
  cases hv : v.ownBlock with
  | none => exact .inl rfl
  | some b =>
   refine .inr fun e => ?_
   obtain ⟨_, o, ho, hc⟩ := hr b e.symm
   obtain ⟨cs, hcs⟩ := own_at h hv
   rw [ho] at hcs
   cases hcs
   cases hc
 refine ⟨st.box.kept hg (fun e => ?_), st.wait.kept hg (nr st.wait), st.outs.kept hg (nr st.outs), st.met.kept hg (nr st.met), st.sep, st.below.grown hg (Nat.le_of_lt st.lo) (fun k e => by have := (hr k e).1; omega), hg.cell st.gcell (fun e => by have := (hr n0 e.symm).1; omega), ⟨st.marks.1, fun D hd => ⟨(st.marks.2 D hd).1, ?_⟩⟩, Nat.lt_of_lt_of_le st.lo hg.size⟩
 ·obtain ⟨_, o, ho, hc⟩ := hr bw e.symm
  rw [show wr.heap[bw]? = _ from st.box] at ho
  cases ho
  cases hc
 ·have hk := (st.marks.2 D hd).2
  refine (hg.block D (lt_heap hk) (fun e => ?_)).trans hk
  have h1 := (hr D e.symm).1
  have h2 := hD D hd
  omega
end Go.Proofs.YtlkfhbmjemjohaaGreatDoor.gr
