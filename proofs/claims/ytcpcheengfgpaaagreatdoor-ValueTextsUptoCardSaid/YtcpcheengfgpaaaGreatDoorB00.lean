/- Laws on a map that a call makes: its block stands for a partial function on plain keys and plain values. How lists, nodes and graphs lie in memory; what stays while other blocks are written. What a call holds in memory: resources, each of its own blocks, no two of them with a block in common. -/
import Derived.WalkKit
import Derived.Maps.OwnSet
import Derived.Maps.Keyed
import Derived.WalkSmall
import Derived.RangeFuncBox
import Derived.RangeFuncOwn
set_option linter.unusedVariables false
namespace Go.Tre
open Go.RowKit Go.Maps Go.MapKept Go.ChangeMaps

theorem below_row {w0 w w' : World} {b : Nat} (h : Below w0.heap.size w0 w) (g : w.grownBy w' (some b)) (hb : w0.heap.size ≤ b) : Below w0.heap.size w0 w' :=
  h.grown g h.size (fun k e => by cases e; exact hb)
theorem below_none {w0 w w' : World} (h : Below w0.heap.size w0 w) (g : w.grownBy w' none) : Below w0.heap.size w0 w' :=
  h.grown g h.size (fun k e => by cases e)

section
variable {α β : Type} {P : Program} {k : TypeId} {ek : α → Value} {ev : β → Value} {w : World} {b n : Nat} {m : α → Option β}

/-- Block b of the world is a map of n entries: just m, its keys and values written by ek and ev. -/
def MapIs (P : Program) (k : TypeId) (ek : α → Value) (ev : β → Value) (w : World) (b n : Nat) (m : α → Option β) : Prop :=
  ∃ es clock, w.heap[b]? = some (.map es clock) ∧ es.size = n ∧ Stamped es clock ∧
    (∀ e ∈ es.toList, ∃ a x l, e.key = ek a ∧ e.val = ev x ∧ m a = some x ∧ keyOf P k (ek a) = some l) ∧
    (∀ a x, m a = some x → ∃ e ∈ es.toList, e.key = ek a ∧ e.val = ev x)

def upd [DecidableEq α] (m : α → Option β) (a : α) (x : β) : α → Option β := fun a' => if a' = a then some x else m a'

theorem MapIs.made (w : World) (P : Program) (k : TypeId) (ek : α → Value) (ev : β → Value) : MapIs P k ek ev (w.alloc (.map #[] 0)) w.heap.size 0 (fun _ => none) :=
  ⟨#[], 0, (MapKept.heap_alloc w _).1, rfl, stamped_empty 0, by simp, by simp⟩

theorem MapIs.lt (h : MapIs P k ek ev w b n m) : b < w.heap.size := by
  obtain ⟨es, clock, hb, _⟩ := h
  exact (Array.getElem?_eq_some_iff.1 hb).1

theorem MapIs.kept {w' : World} {row : Option Nat} (h : MapIs P k ek ev w b n m) (hg : w.grownBy w' row) (hne : some b ≠ row) : MapIs P k ek ev w' b n m := by
  have hlt := h.lt
  obtain ⟨es, clock, hb, r⟩ := h
  exact ⟨es, clock, (hg.block b hlt hne).trans hb, r⟩

theorem MapIs.block {w' : World} (h : MapIs P k ek ev w b n m) (he : w'.heap[b]? = w.heap[b]?) : MapIs P k ek ev w' b n m := by
  obtain ⟨es, clock, hb, r⟩ := h
  exact ⟨es, clock, he.trans hb, r⟩

theorem MapIs.alloc (h : MapIs P k ek ev w b n m) (o : Obj) : MapIs P k ek ev (w.alloc o) b n m := h.kept (World.grownBy_alloc w o none) (by simp)
theorem MapIs.drew (h : MapIs P k ek ev w b n m) : MapIs P k ek ev w.drew b n m := h

/-- what 'm[a]' finds -/
theorem MapIs.find (h : MapIs P k ek ev w b n m) (K : Keyed P k) (inj : ∀ a a', ek a = ek a' → a = a') {a : α} {l : Lit} (hl : keyOf P k (ek a) = some l) :
    ∃ es clock, w.heap[b]? = some (.map es clock) ∧
    ((m a = none ∧ (Instr.findKey k (ek a) es.toList).run P w = .ok none w ∧ ∀ e ∈ es.toList, e.key ≠ ek a) ∨
     (∃ x j e, m a = some x ∧ (Instr.findKey k (ek a) es.toList).run P w = .ok (some (j, ev x)) w ∧ es.toList[j]? = some e ∧ e.key = ek a ∧ e.val = ev x)) := by
  obtain ⟨es, clock, hb, hn, hst, h1, h2⟩ := h
  refine ⟨es, clock, hb, ?_⟩
  rcases K.find w hl es.toList (fun e he => by obtain ⟨a', x, l', e1, _, _, e4⟩ := h1 e he; exact ⟨l', by rw [e1]; exact e4⟩) with ⟨r1, r2⟩ | ⟨j, e, r1, r2, r3⟩
  · refine .inl ⟨?_, r1, r2⟩
    cases hm : m a with
    | none => rfl
    | some x =>
      obtain ⟨e, he, e1, _⟩ := h2 a x hm
      exact (r2 e he e1).elim
  · have hmem : e ∈ es.toList := List.mem_of_getElem? r2
    obtain ⟨a', x, l', e1, e2, e3, _⟩ := h1 e hmem
    have : a' = a := inj _ _ (by rw [← e1, r3])
    subst this
    exact .inr ⟨x, j, e, e3, by rw [r1, e2], r2, r3, e2⟩

theorem MapIs.run_look_ok {t e : TypeId} {z : Value} (h : MapIs P k ek ev w b n m) (K : Keyed P k) (inj : ∀ a a', ek a = ek a' → a = a') (ht : P.underlying t = some (.map k e)) (hz : (zeroValue e).run P w = .ok z w)
    {a : α} {l : Lit} (hl : keyOf P k (ek a) = some l) : (Instr.lookup t (.map (some b)) (ek a) true).run P w = .ok (.tuple #[((m a).map ev).getD z, .bool (m a).isSome]) w := by
  obtain ⟨es, clock, hb, ⟨hm, r1, _⟩ | ⟨x, j, e, hm, r1, _, _, r3⟩⟩ := h.find K inj hl
  · simp [Instr.lookup, run_underlying ht, MapKept.run_getObj_map hb, K.check w _ hl, r1, hz, hm, Result.andThen]
  · simp [Instr.lookup, run_underlying ht, MapKept.run_getObj_map hb, K.check w _ hl, r1, hm, Result.andThen]

theorem MapIs.run_look {t e : TypeId} {z : Value} (h : MapIs P k ek ev w b n m) (K : Keyed P k) (inj : ∀ a a', ek a = ek a' → a = a') (ht : P.underlying t = some (.map k e)) (hz : (zeroValue e).run P w = .ok z w)
    {a : α} {l : Lit} (hl : keyOf P k (ek a) = some l) : (Instr.lookup t (.map (some b)) (ek a) false).run P w = .ok (((m a).map ev).getD z) w := by
  obtain ⟨es, clock, hb, ⟨hm, r1, _⟩ | ⟨x, j, e, hm, r1, _, _, r3⟩⟩ := h.find K inj hl
  · simp [Instr.lookup, run_underlying ht, MapKept.run_getObj_map hb, K.check w _ hl, r1, hz, hm, Result.andThen]
  · simp [Instr.lookup, run_underlying ht, MapKept.run_getObj_map hb, K.check w _ hl, r1, hm, Result.andThen]

theorem modify_set {α : Type} (l : List α) (j : Nat) (f : α → α) (e : α) (h : l[j]? = some e) : l.modify j f = l.set j (f e) := by
  apply List.ext_getElem?
  intro i
  rw [List.getElem?_modify, List.getElem?_set]
  by_cases hij : j = i
  · subst hij
    have := (List.getElem?_eq_some_iff.1 h).1
    have h' : l[j] = e := by rw [List.getElem?_eq_getElem this] at h; exact Option.some.inj h
    simp [this, h']
  · simp [hij]

/-- 'm[a] = x' -/
theorem MapIs.run_store [DecidableEq α] {t e : TypeId} (h : MapIs P k ek ev w b n m) (K : Keyed P k) (inj : ∀ a a', ek a = ek a' → a = a') (ht : P.underlying t = some (.map k e))
    {a : α} {l : Lit} (hl : keyOf P k (ek a) = some l) (x : β) :
    ∃ w', (Instr.mapUpdate t (.map (some b)) (ek a) (ev x)).run P w = .ok () w' ∧ MapIs P k ek ev w' b (if (m a).isSome then n else n + 1) (upd m a x) ∧ w.grownBy w' (some b) := by
  have h0 := h
  obtain ⟨es, clock, hb, hn, hst, h1, h2⟩ := h0
  obtain ⟨es0, clock0, hb0, hf⟩ := h.find K inj hl
  rw [hb] at hb0
  cases hb0
  have keep : ∀ es' clock', w.grownBy (setBlock w b (.map es' clock')) (some b) := fun es' clock' => ⟨rfl, rfl, rfl, by simp [setBlock], fun i _ hi => heap_setBlock_other hb _ (fun e => hi (by rw [e]))⟩
  rcases hf with ⟨hm, r1, r2⟩ | ⟨y, j, e0, hm, r1, r2, r3, r4⟩
  · refine ⟨setBlock w b (.map (es.push ⟨ek a, ev x, clock⟩) (clock + 1)), ?_, ⟨_, _, heap_setBlock_same hb _, by simp [hm, hn], stamped_push hst r2, ?_, ?_⟩, keep _ _⟩
    · simp [Instr.mapUpdate, run_underlying ht, MapKept.run_getObj_map hb, K.check w false hl, r1, MapKept.run_setObj_map _ hb, Result.andThen, setBlock]
    · intro e' he'
      simp only [Array.toList_push, List.mem_append, List.mem_singleton] at he'
      rcases he' with he' | rfl
      · obtain ⟨a', x', l', e1, e2, e3, e4⟩ := h1 e' he'
        have hne : a' ≠ a := fun e => r2 e' he' (by rw [e1, e])
        exact ⟨a', x', l', e1, e2, by simp [upd, hne, e3], e4⟩
      · exact ⟨a, x, l, rfl, rfl, by simp [upd], hl⟩
    · intro a' x' ha'
      simp only [Array.toList_push, List.mem_append, List.mem_singleton]
      by_cases hne : a' = a
      · subst hne
        simp [upd] at ha'
        subst ha'
        exact ⟨_, .inr rfl, rfl, rfl⟩
      · simp [upd, hne] at ha'
        obtain ⟨e', he', e1, e2⟩ := h2 a' x' ha'
        exact ⟨e', .inl he', e1, e2⟩
  · have hj : es[j]? = some e0 := by simpa using r2
    have hjl : j < es.toList.length := (List.getElem?_eq_some_iff.1 r2).1
    have hlist : (es.modify j (fun e' => { e' with key := ek a, val := ev x })).toList = es.toList.set j { e0 with key := ek a, val := ev x } := by rw [Array.toList_modify, modify_set _ _ _ _ r2]
    have nod := hst.2.2
    have who : ∀ e' ∈ es.toList.set j { e0 with key := ek a, val := ev x }, e' = { e0 with key := ek a, val := ev x } ∨ (e' ∈ es.toList ∧ e'.key ≠ ek a) := by
      intro e' he'
      obtain ⟨i, hi, ex⟩ := List.getElem_of_mem he'
      rw [List.getElem_set] at ex
      split at ex
      · exact .inl ex.symm
      · rename_i hne
        have hi' : i < es.toList.length := by simpa using hi
        refine .inr ⟨ex ▸ List.getElem_mem hi', fun hk => hne ?_⟩
        have e5 : (es.toList.map (·.key))[i]? = (es.toList.map (·.key))[j]? := by
          simp only [List.getElem?_map, r2, List.getElem?_eq_getElem hi', Option.map_some, ex, hk, r3]
        exact ((List.getElem?_inj (by simpa using hi') nod).1 e5).symm
    refine ⟨setBlock w b (.map (es.modify j (fun e' => { e' with key := ek a, val := ev x })) clock), ?_, ⟨_, _, heap_setBlock_same hb _, by simp [hm, hn], stamped_modify hst _ _ (fun _ _ => rfl) (fun e' _ he' => ?_), ?_, ?_⟩, keep _ _⟩
    · simp [Instr.mapUpdate, run_underlying ht, MapKept.run_getObj_map hb, K.check w false hl, r1, hj, r3, K.stays w hl, MapKept.run_setObj_map _ hb, Result.andThen, setBlock]
    · rw [hj] at he'; cases he'; exact r3.symm
    · intro e' he'
      rw [hlist] at he'
      rcases who e' he' with rfl | ⟨he', hne⟩
      · exact ⟨a, x, l, rfl, rfl, by simp [upd], hl⟩
      · obtain ⟨a', x', l', e1, e2, e3, e4⟩ := h1 e' he'
        have hne' : a' ≠ a := fun e => hne (by rw [e1, e])
        exact ⟨a', x', l', e1, e2, by simp [upd, hne', e3], e4⟩
    · intro a' x' ha'
      rw [hlist]
      by_cases hne : a' = a
      · subst hne
        simp [upd] at ha'
        subst ha'
        exact ⟨{ e0 with key := ek a', val := ev x }, List.mem_iff_getElem.2 ⟨j, by simpa using hjl, by simp⟩, rfl, rfl⟩
      · simp [upd, hne] at ha'
        obtain ⟨e', he', e1, e2⟩ := h2 a' x' ha'
        obtain ⟨i, hi, ex⟩ := List.getElem_of_mem he'
        have hij : j ≠ i := fun e => by
          subst e
          rw [List.getElem?_eq_getElem hi, ex] at r2
          cases r2
          exact hne (inj _ _ (by rw [← e1, r3]))
        exact ⟨e', List.mem_iff_getElem.2 ⟨i, by simpa using hi, by rw [List.getElem_set_ne hij]; exact ex⟩, e1, e2⟩
end

section
variable {α β : Type} {P : Program} {k : TypeId} {ek : α → Value} {ev : β → Value} {w : World} {b n : Nat} {m : α → Option β}
  {ops : Array Oper} {rest : List Oper} {o : Oper} {a : Act} {Q : Exit → Act → World → Prop}

theorem wpList_look_ok (hg : o.guard = none) (mo xo : Operand) (t : TypeId) (hop : o.op = Op.lookup t mo xo true) (e : TypeId) (K : Keyed P k) (inj : ∀ a a', ek a = ek a' → a = a')
    (ht : P.underlying t = some (.map k e)) {z : Value} (hz : (zeroValue e).run P w = .ok z w) (hm : a.eval mo = .map (some b)) (h : MapIs P k ek ev w b n m) (x : α) (hx : a.eval xo = ek x) {l : Lit} (hl : keyOf P k (ek x) = some l)
    (hK : wpList P ops Q rest (a.put o.dst (.tuple #[((m x).map ev).getD z, .bool (m x).isSome])) w) : wpList P ops Q (o :: rest) a w := by
  refine wpList_plain hg fun K' hK' => ?_
  have hrun := h.run_look_ok K inj ht hz hl
  unfold Oper.wp
  simp [execOp, hop, hm, hx, hrun, Result.andThen]
  exact hK' _ _ hK

theorem wpList_look_some (hg : o.guard = none) (mo xo : Operand) (t : TypeId) (hop : o.op = Op.lookup t mo xo true) (e : TypeId) (K : Keyed P k) (inj : ∀ a a', ek a = ek a' → a = a')
    (ht : P.underlying t = some (.map k e)) {z : Value} (hz : (zeroValue e).run P w = .ok z w) (hm : a.eval mo = .map (some b)) (h : MapIs P k ek ev w b n m) (x : α) (hx : a.eval xo = ek x) {l : Lit} (hl : keyOf P k (ek x) = some l)
    (y : β) (hy : m x = some y) (hK : wpList P ops Q rest (a.put o.dst (.tuple #[ev y, .bool true])) w) : wpList P ops Q (o :: rest) a w :=
  wpList_look_ok hg mo xo t hop e K inj ht hz hm h x hx hl (by rw [hy]; exact hK)

theorem wpList_look_none (hg : o.guard = none) (mo xo : Operand) (t : TypeId) (hop : o.op = Op.lookup t mo xo true) (e : TypeId) (K : Keyed P k) (inj : ∀ a a', ek a = ek a' → a = a')
    (ht : P.underlying t = some (.map k e)) {z : Value} (hz : (zeroValue e).run P w = .ok z w) (hm : a.eval mo = .map (some b)) (h : MapIs P k ek ev w b n m) (x : α) (hx : a.eval xo = ek x) {l : Lit} (hl : keyOf P k (ek x) = some l)
    (hy : m x = none) (hK : wpList P ops Q rest (a.put o.dst (.tuple #[z, .bool false])) w) : wpList P ops Q (o :: rest) a w :=
  wpList_look_ok hg mo xo t hop e K inj ht hz hm h x hx hl (by rw [hy]; exact hK)

theorem wpList_look (hg : o.guard = none) (mo xo : Operand) (t : TypeId) (hop : o.op = Op.lookup t mo xo false) (e : TypeId) (K : Keyed P k) (inj : ∀ a a', ek a = ek a' → a = a')
    (ht : P.underlying t = some (.map k e)) {z : Value} (hz : (zeroValue e).run P w = .ok z w) (hm : a.eval mo = .map (some b)) (h : MapIs P k ek ev w b n m) (x : α) (hx : a.eval xo = ek x) {l : Lit} (hl : keyOf P k (ek x) = some l)
    (hK : wpList P ops Q rest (a.put o.dst (((m x).map ev).getD z)) w) : wpList P ops Q (o :: rest) a w := by
  refine wpList_plain hg fun K' hK' => ?_
  have hrun := h.run_look K inj ht hz hl
  unfold Oper.wp
  simp [execOp, hop, hm, hx, hrun, Result.andThen]
  exact hK' _ _ hK

theorem wpList_look1_some (hg : o.guard = none) (mo xo : Operand) (t : TypeId) (hop : o.op = Op.lookup t mo xo false) (e : TypeId) (K : Keyed P k) (inj : ∀ a a', ek a = ek a' → a = a')
    (ht : P.underlying t = some (.map k e)) {z : Value} (hz : (zeroValue e).run P w = .ok z w) (hm : a.eval mo = .map (some b)) (h : MapIs P k ek ev w b n m) (x : α) (hx : a.eval xo = ek x) {l : Lit} (hl : keyOf P k (ek x) = some l)
    (y : β) (hy : m x = some y) (hK : wpList P ops Q rest (a.put o.dst (ev y)) w) : wpList P ops Q (o :: rest) a w :=
  wpList_look hg mo xo t hop e K inj ht hz hm h x hx hl (by rw [hy]; exact hK)

theorem wpList_look1_none (hg : o.guard = none) (mo xo : Operand) (t : TypeId) (hop : o.op = Op.lookup t mo xo false) (e : TypeId) (K : Keyed P k) (inj : ∀ a a', ek a = ek a' → a = a')
    (ht : P.underlying t = some (.map k e)) {z : Value} (hz : (zeroValue e).run P w = .ok z w) (hm : a.eval mo = .map (some b)) (h : MapIs P k ek ev w b n m) (x : α) (hx : a.eval xo = ek x) {l : Lit} (hl : keyOf P k (ek x) = some l)
    (hy : m x = none) (hK : wpList P ops Q rest (a.put o.dst z) w) : wpList P ops Q (o :: rest) a w :=
  wpList_look hg mo xo t hop e K inj ht hz hm h x hx hl (by rw [hy]; exact hK)

theorem wpList_store [DecidableEq α] (hg : o.guard = none) (mo xo vo : Operand) (t : TypeId) (hop : o.op = Op.mapUpdate t mo xo vo ∨ o.op = Op.insert t mo xo vo) (e : TypeId) (K : Keyed P k) (inj : ∀ a a', ek a = ek a' → a = a')
    (ht : P.underlying t = some (.map k e)) (hm : a.eval mo = .map (some b)) (h : MapIs P k ek ev w b n m) (x : α) (hx : a.eval xo = ek x) {l : Lit} (hl : keyOf P k (ek x) = some l) (y : β) (hy : a.eval vo = ev y)
    (hK : ∀ w', MapIs P k ek ev w' b (if (m x).isSome then n else n + 1) (upd m x y) → w.grownBy w' (some b) → wpList P ops Q rest (a.put o.dst undef) w') : wpList P ops Q (o :: rest) a w := by
  refine wpList_plain hg fun K' hK' => ?_
  obtain ⟨w', hrun, r1, r2⟩ := h.run_store K inj ht hl y
  unfold Oper.wp
  rcases hop with hop | hop
  · simp [execOp, hop, hm, hx, hy, hrun, Result.andThen]
    exact hK' _ _ (hK w' r1 r2)
  · simp [execOp, hop, hm, hx, hy, hrun, Result.andThen]
    exact hK' _ _ (hK w' r1 r2)
end

end Go.Tre
namespace Go.Tre
open Go.RowKit

theorem hid {p : Prop} (h : p) : Hid p := h

/-- A slice of n elements of sz cells, at address a: its cells, one behind the other, are cs. -/
structure Row (w : World) (sz : Nat) (a : Option Addr) (n : Nat) (cs : List Value) : Prop where
  len : cs.length = n * sz
  at_ : ∀ j u, cs[j]? = some u → ∃ b off, a = some ⟨b, off, none⟩ ∧ w.cell? ⟨b, off + j, none⟩ = some u

theorem cell_below {w w' : World} (h : Below w.heap.size w w') {p : Addr} {v : Value} (hc : w.cell? p = some v) : w'.cell? p = some v :=
  (h.cell (World.block_lt_of_cell? w p hc)).trans hc

theorem Row.below {w w' : World} {sz : Nat} {a : Option Addr} {n : Nat} {cs : List Value} (h : Row w sz a n cs) (hb : Below w.heap.size w w') : Row w' sz a n cs :=
  ⟨h.len, fun j u hu => by obtain ⟨b, off, e, hc⟩ := h.at_ j u hu; exact ⟨b, off, e, cell_below hb hc⟩⟩

structure Node where
  kind : Int
  name : ByteArray
  args : List Int
  labels : List ByteArray
  isOpen : Bool

structure Graph where
  ns : List Node
  root : Int

abbrev IntsAt (w : World) (a : Option Addr) (xs : List Int) : Prop := Row w 1 a xs.length (xs.map (Value.int .i64))
abbrev StrsAt (w : World) (a : Option Addr) (xs : List ByteArray) : Prop := Row w 1 a xs.length (xs.map Value.string)

/-- The five cells from p on, in block b, are a node. -/
def NodeAt (w : World) (b p : Nat) (n : Node) : Prop :=
  ∃ aa ca al cl, w.cell? ⟨b, p, none⟩ = some (.int .i64 n.kind) ∧ w.cell? ⟨b, p + 1, none⟩ = some (.string n.name) ∧ w.cell? ⟨b, p + 2, none⟩ = some (.slice aa n.args.length ca) ∧
    w.cell? ⟨b, p + 3, none⟩ = some (.slice al n.labels.length cl) ∧ w.cell? ⟨b, p + 4, none⟩ = some (.bool n.isOpen) ∧ IntsAt w aa n.args ∧ StrsAt w al n.labels ∧ n.args.length ≤ ca ∧ n.labels.length ≤ cl

structure NodesAt (w : World) (a : Option Addr) (ns : List Node) : Prop where
  at_ : ∀ (k : Nat) (n : Node), ns[k]? = some n → ∃ b off, a = some ⟨b, off, none⟩ ∧ NodeAt w b (off + k * 5) n

theorem NodeAt.below {w w' : World} {b p : Nat} {n : Node} (h : NodeAt w b p n) (hb : Below w.heap.size w w') : NodeAt w' b p n := by
  obtain ⟨aa, ca, al, cl, h0, h1, h2, h3, h4, h5, h6, h7⟩ := h
  exact ⟨aa, ca, al, cl, cell_below hb h0, cell_below hb h1, cell_below hb h2, cell_below hb h3, cell_below hb h4, h5.below hb, h6.below hb, h7⟩

theorem NodesAt.below {w w' : World} {a : Option Addr} {ns : List Node} (h : NodesAt w a ns) (hb : Below w.heap.size w w') : NodesAt w' a ns :=
  ⟨fun k n hk => by
    obtain ⟨b, off, e, hn⟩ := h.at_ k n hk
    exact ⟨b, off, e, hn.below hb⟩⟩

/-- how much a node weighs -/
def Node.weight (n : Node) : Nat := 1 + n.name.size + n.args.length + (n.labels.map fun s => s.size + 1).sum
def Graph.weight (g : Graph) : Nat := (g.ns.map Node.weight).sum

theorem sum_take_succ {α : Type} (f : α → Nat) (l : List α) (k : Nat) (x : α) (h : l[k]? = some x) : ((l.take (k + 1)).map f).sum = ((l.take k).map f).sum + f x := by
  rw [List.take_add_one, h]; simp
theorem sum_take_le {α : Type} (f : α → Nat) (l : List α) (k : Nat) : ((l.take k).map f).sum ≤ (l.map f).sum := by
  have e : (l.map f).sum = ((l.take k).map f).sum + ((l.drop k).map f).sum := by rw [← List.sum_append, ← List.map_append, List.take_append_drop]
  omega
theorem length_le_sum {α : Type} (f : α → Nat) (h : ∀ x, 1 ≤ f x) (l : List α) : l.length ≤ (l.map f).sum := by
  induction l with
  | nil => simp
  | cons x r ih => simp; have := h x; omega
end Go.Tre
namespace Go.Tre
open Go.RowKit Go.Maps

/-- A resource: which blocks are its own, what it says of the world; it says so in any world where these are as they were. -/
structure Res where
  own : Nat → Prop
  P : World → Prop
  stable : ∀ w w' : World, P w → (∀ b, own b → w'.heap[b]? = w.heap[b]?) → P w'
  has : ∀ w : World, P w → ∀ b, own b → b < w.heap.size

/-- What has been done since w0: old blocks are as they were; the resources rs are held, apart from each other, in new blocks. -/
structure Mem (w0 w : World) (rs : List Res) : Prop where
  below : Below w0.heap.size w0 w
  all : ∀ r ∈ rs, r.P w ∧ ∀ b, r.own b → w0.heap.size ≤ b
  sep : rs.Pairwise fun r s => ∀ b, r.own b → ¬ s.own b

section
variable {w0 w w' : World} {rs : List Res} {r r' : Res}

theorem Mem.size (h : Mem w0 w rs) : w0.heap.size ≤ w.heap.size := h.below.size
theorem Mem.nil (w : World) : Mem w w [] := ⟨Below.refl _ _, by simp, by simp⟩
theorem Mem.of_below (h : Below w0.heap.size w0 w) : Mem w0 w [] := ⟨h, by simp, by simp⟩
theorem Mem.perm {ss : List Res} (h : Mem w0 w rs) (p : rs.Perm ss) : Mem w0 w ss :=
  ⟨h.below, fun r hr => h.all r (p.mem_iff.2 hr), (p.pairwise_iff (fun hxy b hb hx => hxy b hx hb)).1 h.sep⟩
theorem Mem.drop1 (h : Mem w0 w (r :: rs)) : Mem w0 w rs := ⟨h.below, fun s hs => h.all s (by simp [hs]), (List.pairwise_cons.1 h.sep).2⟩
theorem Mem.none_ (h : Mem w0 w rs) : Mem w0 w [] := ⟨h.below, by simp, by simp⟩
theorem Mem.sub {ss : List Res} (h : Mem w0 w rs) (s : ss.Sublist rs) : Mem w0 w ss := ⟨h.below, fun r hr => h.all r (s.subset hr), h.sep.sublist s⟩

/-- the resource at a place -/
theorem Mem.at_ (h : Mem w0 w rs) (i : Nat) (hi : rs[i]? = some r) : r.P w := (h.all r (List.mem_of_getElem? hi)).1
theorem Mem.lo (h : Mem w0 w rs) (i : Nat) (hi : rs[i]? = some r) : ∀ b, r.own b → w0.heap.size ≤ b := (h.all r (List.mem_of_getElem? hi)).2

/-- no resource is written, blocks come -/
theorem Mem.keep (h : Mem w0 w rs) (hg : w.grownBy w' none) : Mem w0 w' rs :=
  ⟨h.below.grown hg h.below.size (fun k e => by cases e), fun r hr => ⟨r.stable _ _ (h.all r hr).1 (fun b hb => hg.block b (r.has _ (h.all r hr).1 b hb) (by simp)), (h.all r hr).2⟩, h.sep⟩
theorem Mem.alloc (h : Mem w0 w rs) (o : Obj) : Mem w0 (w.alloc o) rs := h.keep (World.grownBy_alloc w o none)
theorem Mem.drew (h : Mem w0 w rs) : Mem w0 w.drew rs := h.keep ⟨rfl, rfl, rfl, Nat.le_refl _, fun _ _ _ => rfl⟩
theorem Mem.drewN (h : Mem w0 w rs) (n : Nat) : Mem w0 (w.drewN n) rs := h.keep ⟨rfl, rfl, rfl, Nat.le_refl _, fun _ _ _ => rfl⟩
theorem grown_below {w w' : World} (h : Below w.heap.size w w') : w.grownBy w' none := ⟨h.os, h.tape, h.output, h.size, fun k hk _ => h.block k hk⟩
theorem Mem.quiet (h : Mem w0 w rs) (k : Below w.heap.size w w') : Mem w0 w' rs := h.keep (grown_below k)
/-- a call -/
theorem Mem.call {ss : List Res} (h : Mem w0 w rs) (k : Mem w w' ss) : Mem w0 w' (ss ++ rs) := by
  have h' := h.quiet k.below
  refine ⟨h'.below, fun r hr => ?_, List.pairwise_append.2 ⟨k.sep, h.sep, fun a ha b hb c hc hcb => ?_⟩⟩
  · rcases List.mem_append.1 hr with hr | hr
    · exact ⟨(k.all r hr).1, fun b hb => Nat.le_trans h.size ((k.all r hr).2 b hb)⟩
    · exact h'.all r hr
  · have h1 := (k.all a ha).2 c hc
    have h2 := b.has _ (h.all b hb).1 c hcb
    omega
/-- a resource comes, of new blocks -/
theorem Mem.add (h : Mem w0 w rs) (hg : w.grownBy w' none) (r : Res) (hP : r.P w') (hb : ∀ b, r.own b → w.heap.size ≤ b) : Mem w0 w' (r :: rs) := by
  have h' := h.keep hg
  refine ⟨h'.below, fun s hs => ?_, List.pairwise_cons.2 ⟨fun s hs b hb' hs' => ?_, h.sep⟩⟩
  · rcases List.mem_cons.1 hs with rfl | hs
    · exact ⟨hP, fun b hb' => Nat.le_trans h.size (hb b hb')⟩
    · exact h'.all s hs
  · have h1 := hb b hb'
    have h2 := s.has _ (h.all s hs).1 b hs'
    omega
theorem Mem.hd (h : Mem w0 w (r :: rs)) : r.P w := (h.all r (by simp)).1
/-- the first resource is written -/
theorem Mem.upd (h : Mem w0 w (r :: rs)) (hs : w.heap.size ≤ w'.heap.size) (ho : w'.os = w.os ∧ w'.tape = w.tape ∧ w'.output = w.output) (hg : ∀ k, k < w.heap.size → ¬ r.own k → w'.heap[k]? = w.heap[k]?) (r' : Res) (hP : r'.P w') (hb : ∀ b, r'.own b → r.own b ∨ w.heap.size ≤ b) : Mem w0 w' (r' :: rs) := by
  have hr := h.all r (by simp)
  have hsep := List.pairwise_cons.1 h.sep
  have hall : ∀ s ∈ rs, s.P w ∧ ∀ b, s.own b → w0.heap.size ≤ b := fun s hs => h.all s (by simp [hs])
  refine ⟨h.below.trans ⟨ho.1, ho.2.1, ho.2.2, hs, fun k hk => hg k (Nat.lt_of_lt_of_le hk h.size) (fun e => by have := hr.2 k e; omega)⟩, fun s hs => ?_, List.pairwise_cons.2 ⟨fun s hs b hb' hs' => ?_, hsep.2⟩⟩
  · rcases List.mem_cons.1 hs with rfl | hs
    · refine ⟨hP, fun b hb' => ?_⟩
      rcases hb b hb' with e | e
      · exact hr.2 b e
      · exact Nat.le_trans h.size e
    · exact ⟨s.stable _ _ (hall s hs).1 (fun b hb' => hg b (s.has _ (hall s hs).1 b hb') (fun e => hsep.1 s hs b e hb')), (hall s hs).2⟩
  · rcases hb b hb' with e | e
    · exact hsep.1 s hs b e hs'
    · have := s.has _ (hall s hs).1 b hs'
      omega

theorem perm_set (i : Nat) : ∀ {rs : List Res} {r : Res}, rs[i]? = some r → ∀ r' : Res, ∃ l : List Res, rs.Perm (r :: l) ∧ (r' :: l).Perm (rs.set i r') := by
  induction i with
  | zero =>
    intro rs r hi r'
    cases rs with
    | nil => cases hi
    | cons a l => simp at hi; subst hi; exact ⟨l, List.Perm.refl _, List.Perm.refl _⟩
  | succ i ih =>
    intro rs r hi r'
    cases rs with
    | nil => cases hi
    | cons a l =>
      simp at hi
      obtain ⟨l', h1, h2⟩ := ih hi r'
      exact ⟨a :: l', (List.Perm.cons a h1).trans (List.Perm.swap r a l'), (List.Perm.swap a r' l').trans (List.Perm.cons a h2)⟩
/-- a resource is written, in its own blocks or in new ones -/
theorem Mem.set (h : Mem w0 w rs) (i : Nat) (hi : rs[i]? = some r) (hs : w.heap.size ≤ w'.heap.size) (ho : w'.os = w.os ∧ w'.tape = w.tape ∧ w'.output = w.output) (hg : ∀ k, k < w.heap.size → ¬ r.own k → w'.heap[k]? = w.heap[k]?) (r' : Res) (hP : r'.P w')
    (hb : ∀ b, r'.own b → r.own b ∨ w.heap.size ≤ b) : Mem w0 w' (rs.set i r') := by
  obtain ⟨l, h1, h2⟩ := perm_set i hi r'
  exact ((h.perm h1).upd hs ho hg r' hP hb).perm h2
theorem Mem.set_row {row : Option Nat} (h : Mem w0 w rs) (i : Nat) (hi : rs[i]? = some r) (hg : w.grownBy w' row) (hr : ∀ k, row = some k → r.own k) (r' : Res) (hP : r'.P w') (hb : ∀ b, r'.own b → r.own b ∨ w.heap.size ≤ b) : Mem w0 w' (rs.set i r') :=
  h.set i hi hg.size ⟨hg.os, hg.tape, hg.output⟩ (fun k hk hn => hg.block k hk (fun e => hn (hr k e.symm))) r' hP hb

/-! the resources -/
/-- a slice that was made, and its row -/
def rowR (e : TypeId) (size : Nat) (v : Value) (n : Nat) (xs : List Value) : Res where
  own b := v.ownBlock = some b
  P w := w.ownsRow 0 e size v n xs
  stable w w' h hs := by
    refine ⟨h.1, ?_⟩
    rcases h.2 with hn | ⟨g, cap, cur, rfl, hb, hgg, rest⟩
    · exact .inl hn
    · exact .inr ⟨g, cap, cur, rfl, hb, (hs g rfl).trans hgg, rest⟩
  has w h b hb := (h.lt b hb).2
/-- a block of cells -/
def cellsR (b : Nat) (t : TypeId) (cs : Array Value) : Res where
  own b' := b' = b
  P w := w.heap[b]? = some (.cells cs t (0, 0))
  stable w w' h hs := (hs b rfl).trans h
  has w h b' hb := by subst hb; exact (Array.getElem?_eq_some_iff.1 h).1
/-- a variable's box -/
abbrev boxR (b : Nat) (t : TypeId) (v : Value) : Res := cellsR b t #[v]
/-- a map -/
def mapR {α β : Type} (P : Program) (k : TypeId) (ek : α → Value) (ev : β → Value) (b n : Nat) (m : α → Option β) : Res where
  own b' := b' = b
  P w := MapIs P k ek ev w b n m
  stable w w' h hs := h.block (hs b rfl)
  has w h b' hb := by subst hb; exact h.lt
/-- two at once -/
def Res.join (r s : Res) : Res where
  own b := r.own b ∨ s.own b
  P w := r.P w ∧ s.P w
  stable _ _ h hs := ⟨r.stable _ _ h.1 (fun b hb => hs b (.inl hb)), s.stable _ _ h.2 (fun b hb => hs b (.inr hb))⟩
  has w h b hb := hb.elim (r.has w h.1 b) (s.has w h.2 b)
/-- nothing -/
def emptyR : Res where
  own _ := False
  P _ := True
  stable _ _ _ _ := trivial
  has _ _ _ h := h.elim
theorem Mem.join (h : Mem w0 w (r :: r' :: rs)) : Mem w0 w (r.join r' :: rs) := by
  have h1 := List.pairwise_cons.1 h.sep
  have h2 := List.pairwise_cons.1 h1.2
  refine ⟨h.below, fun s hs => ?_, List.pairwise_cons.2 ⟨fun s hs b hb hs' => ?_, h2.2⟩⟩
  · rcases List.mem_cons.1 hs with rfl | hs
    · have a := h.all r (by simp)
      have c := h.all r' (by simp)
      exact ⟨⟨a.1, c.1⟩, fun b hb => hb.elim (a.2 b) (c.2 b)⟩
    · exact h.all s (by simp [hs])
  · rcases hb with hb | hb
    · exact h1.1 s (by simp [hs]) b hb hs'
    · exact h2.1 s hs b hb hs'
theorem Mem.addEmpty (h : Mem w0 w rs) : Mem w0 w (emptyR :: rs) :=
  ⟨h.below, fun s hs => by rcases List.mem_cons.1 hs with rfl | hs; exact ⟨trivial, fun b hb => hb.elim⟩; exact h.all s hs, List.pairwise_cons.2 ⟨fun _ _ _ hb _ => hb.elim, h.sep⟩⟩
/-- what a resource says may be said otherwise -/
theorem Mem.as_ (h : Mem w0 w rs) (i : Nat) (hi : rs[i]? = some r) (r' : Res) (hP : r.P w → r'.P w) (hb : ∀ b, r'.own b → r.own b) : Mem w0 w (rs.set i r') :=
  h.set i hi (Nat.le_refl _) ⟨rfl, rfl, rfl⟩ (fun _ _ _ => rfl) r' (hP (h.at_ i hi)) (fun b hb' => .inl (hb b hb'))

/-- a list of them -/
def manyR (l : List Res) : Res where
  own b := ∃ r ∈ l, r.own b
  P w := ∀ r ∈ l, r.P w
  stable w w' h hs := fun r hr => r.stable _ _ (h r hr) (fun b hb => hs b ⟨r, hr, hb⟩)
  has w h b hb := by obtain ⟨r, hr, hb⟩ := hb; exact r.has w (h r hr) b hb
theorem Mem.into {l : List Res} (h : Mem w0 w (r :: manyR l :: rs)) : Mem w0 w (manyR (l ++ [r]) :: rs) := by
  have hj := h.join
  have hr := hj.all _ (List.mem_cons_self ..)
  exact hj.as_ 0 rfl (manyR (l ++ [r])) (fun hp s hs => by
    rcases List.mem_append.1 hs with hs | hs
    · exact hp.2 s hs
    · simp at hs; subst hs; exact hp.1) (fun b hb => by
    obtain ⟨s, hs, hb⟩ := hb
    rcases List.mem_append.1 hs with hs | hs
    · exact .inr ⟨s, hs, hb⟩
    · simp at hs; subst hs; exact .inl hb)
theorem Mem.addMany (h : Mem w0 w rs) : Mem w0 w (manyR [] :: rs) :=
  ⟨h.below, fun s hs => by
    rcases List.mem_cons.1 hs with rfl | hs
    · exact ⟨fun r hr => by simp at hr, fun b hb => by obtain ⟨r, hr, _⟩ := hb; simp at hr⟩
    · exact h.all s hs, List.pairwise_cons.2 ⟨fun _ _ _ hb _ => by obtain ⟨r, hr, _⟩ := hb; simp at hr, h.sep⟩⟩

theorem perm_front : ∀ (i : Nat) {l : List Res} {r : Res}, l[i]? = some r → l.Perm (r :: l.eraseIdx i)
  | 0, [], _, h => by cases h
  | 0, a :: l, r, h => by simp at h; subst h; exact List.Perm.refl _
  | i + 1, [], _, h => by cases h
  | i + 1, a :: l, r, h => by
    simp at h
    exact (List.Perm.cons a (perm_front i h)).trans (List.Perm.swap r a _)
theorem Mem.front (h : Mem w0 w rs) (i : Nat) (hi : rs[i]? = some r) : Mem w0 w (r :: rs.eraseIdx i) :=
  h.perm (perm_front i hi)
theorem Mem.del (h : Mem w0 w rs) (i : Nat) : Mem w0 w (rs.eraseIdx i) := h.sub (List.eraseIdx_sublist ..)
/-- two rows go to the others -/
theorem Mem.push2 {a b c n : Res} {l : List Res} (h : Mem w0 w (a :: b :: c :: n :: manyR l :: rs)) : Mem w0 w (n :: manyR (l ++ [a, b]) :: rs) := by
  have h1 : Mem w0 w (a :: b :: n :: manyR l :: rs) := h.del 2
  have h2 : Mem w0 w (manyR l :: a :: b :: n :: rs) := h1.front 3 rfl
  have h3 : Mem w0 w (a :: manyR l :: b :: n :: rs) := h2.front 1 rfl
  have h4 : Mem w0 w (b :: manyR (l ++ [a]) :: n :: rs) := h3.into.front 1 rfl
  have h5 : Mem w0 w (n :: manyR ((l ++ [a]) ++ [b]) :: rs) := h4.into.front 1 rfl
  rw [List.append_assoc] at h5
  exact h5

/-! steps -/
theorem Mem.allocR (h : Mem w0 w rs) (cs : Array Value) (t : TypeId) : Mem w0 (w.alloc (.cells cs t)) (cellsR w.heap.size t cs :: rs) :=
  h.add (World.grownBy_alloc w _ none) (cellsR w.heap.size t cs) (heap_alloc_new w _) (fun _ hb => Nat.le_of_eq hb.symm)
theorem Mem.allocRow (h : Mem w0 w rs) (cs : Array Value) (e : TypeId) (size n : Nat) (hm : n ≤ maxLen) (hs : cs.size = n * size) : Mem w0 (w.alloc (.cells cs e)) (rowR e size (.slice (some ⟨w.heap.size, 0, none⟩) n n) n cs.toList :: rs) :=
  h.add (World.grownBy_alloc w _ none) (rowR e size _ n cs.toList) (World.ownsRow_lit w cs n (Nat.zero_le _) hm hs) (fun b hb => by have : some w.heap.size = some b := hb; cases this; exact Nat.le_refl _)
theorem Mem.allocMap {α β : Type} (h : Mem w0 w rs) (P : Program) (k : TypeId) (ek : α → Value) (ev : β → Value) : Mem w0 (w.alloc (.map #[] 0)) (mapR P k ek ev w.heap.size 0 (fun _ => none) :: rs) :=
  h.add (World.grownBy_alloc w _ none) (mapR P k ek ev _ _ _) (MapIs.made w P k ek ev) (fun _ hb => Nat.le_of_eq hb.symm)
theorem Mem.addNil (h : Mem w0 w rs) (e : TypeId) (size : Nat) : Mem w0 w (rowR e size (.slice none 0 0) 0 [] :: rs) :=
  h.add ⟨rfl, rfl, rfl, Nat.le_refl _, fun _ _ _ => rfl⟩ (rowR e size _ _ _) (World.ownsRow_nil w _ e size) (fun b hb => by cases hb)
theorem heap_set_at (w : World) (b i : Nat) (t : TypeId) (cs : Array Value) (u : Value) (h : w.heap[b]? = some (.cells cs t (0, 0))) : (w.setCell ⟨b, i, none⟩ u).heap[b]? = some (.cells (cs.setIfInBounds i u) t (0, 0)) := by
  simp [World.setCell, Array.getElem?_modify, h]
theorem grown_set (w : World) (b i : Nat) (u : Value) : w.grownBy (w.setCell ⟨b, i, none⟩ u) (some b) :=
  ⟨rfl, rfl, rfl, by simp [World.setCell], fun k _ hk => Below.heap_setCell w ⟨b, i, none⟩ u k (fun e => hk (by rw [e]))⟩
/-- a cell of a block -/
theorem Mem.setCell {b : Nat} {t : TypeId} {cs : Array Value} (h : Mem w0 w rs) (i : Nat) (hi : rs[i]? = some (cellsR b t cs)) (j : Nat) (u : Value) : Mem w0 (w.setCell ⟨b, j, none⟩ u) (rs.set i (cellsR b t (cs.setIfInBounds j u))) :=
  h.set_row i hi (grown_set w b j u) (fun k e => by cases e; rfl) _ (heap_set_at w b j t cs u (h.at_ i hi)) (fun b' hb => .inl hb)
/-- a cell of a row -/
theorem Mem.setRow {e : TypeId} {size n g cap : Nat} {xs : List Value} (h : Mem w0 w rs) (i : Nat) (hi : rs[i]? = some (rowR e size (.slice (some ⟨g, 0, none⟩) n cap) n xs)) (j : Nat) (u : Value) : Mem w0 (w.setCell ⟨g, j, none⟩ u) (rs.set i (rowR e size (.slice (some ⟨g, 0, none⟩) n cap) n (xs.set j u))) :=
  h.set_row i hi (grown_set w g j u) (fun k e => by cases e; rfl) _ ((h.at_ i hi : World.ownsRow _ _ _ _ _ _ _).stored j u).1 (fun b' hb => .inl hb)
/-- an append's -/
theorem Mem.grow {e : TypeId} {size n n' : Nat} {v v' : Value} {xs xs' : List Value} (h : Mem w0 w rs) (i : Nat) (hi : rs[i]? = some (rowR e size v n xs)) (hg : w.grownBy w' v.ownBlock) (hown : w'.ownsRow 0 e size v' n' xs') (hat : v'.ownBlock = v.ownBlock ∨ v'.ownBlock = some w.heap.size) :
    Mem w0 w' (rs.set i (rowR e size v' n' xs')) :=
  h.set_row i hi hg (fun k e => e) _ hown (fun b hb => by
    have hb' : v'.ownBlock = some b := hb
    rcases hat with e | e
    · exact .inl (e.symm.trans hb')
    · rw [e] at hb'; cases hb'; exact .inr (Nat.le_refl _))
/-- a map's -/
theorem Mem.put {α β : Type} {P : Program} {k : TypeId} {ek : α → Value} {ev : β → Value} {b n n' : Nat} {m m' : α → Option β} (h : Mem w0 w rs) (i : Nat) (hi : rs[i]? = some (mapR P k ek ev b n m)) (hg : w.grownBy w' (some b)) (hm : MapIs P k ek ev w' b n' m') : Mem w0 w' (rs.set i (mapR P k ek ev b n' m')) :=
  h.set_row i hi hg (fun k e => by cases e; rfl) _ hm (fun b' hb => .inl hb)
/-- a pop -/
theorem Mem.pop {e : TypeId} {size g cap n : Nat} {xs last : List Value} (h : Mem w0 w rs) (i : Nat) (hi : rs[i]? = some (rowR e size (.slice (some ⟨g, 0, none⟩) (n + 1) cap) (n + 1) (xs ++ last))) (hx : xs.length = n * size) :
    Mem w0 w (rs.set i (rowR e size (.slice (some ⟨g, 0, none⟩) n cap) n xs)) :=
  h.as_ i hi _ (fun hp => ownsRow_pop hx hp) (fun _ hb => hb)

/-! reading -/
theorem Mem.row {e : TypeId} {size n : Nat} {v : Value} {xs : List Value} (h : Mem w0 w rs) (i : Nat) (hi : rs[i]? = some (rowR e size v n xs)) : w.ownsRow 0 e size v n xs := h.at_ i hi
theorem Mem.heap {b : Nat} {t : TypeId} {cs : Array Value} (h : Mem w0 w rs) (i : Nat) (hi : rs[i]? = some (cellsR b t cs)) : w.heap[b]? = some (.cells cs t (0, 0)) := h.at_ i hi
theorem Mem.map {α β : Type} {P : Program} {k : TypeId} {ek : α → Value} {ev : β → Value} {b n : Nat} {m : α → Option β} (h : Mem w0 w rs) (i : Nat) (hi : rs[i]? = some (mapR P k ek ev b n m)) : MapIs P k ek ev w b n m := h.at_ i hi
theorem Mem.cell {b : Nat} {t : TypeId} {cs : Array Value} (h : Mem w0 w rs) (i : Nat) (hi : rs[i]? = some (cellsR b t cs)) (j : Nat) {u : Value} (hj : cs[j]? = some u) : w.cell? ⟨b, j, none⟩ = some u := by
  simp [World.cell?, h.heap i hi, hj]
theorem Mem.two {b : Nat} {t : TypeId} {x y : Value} (h : Mem w0 w rs) (i : Nat) (hi : rs[i]? = some (cellsR b t #[x, y])) : w.cell? ⟨b, 0, none⟩ = some x ∧ w.cell? ⟨b, 1, none⟩ = some y := by
  have := h.at_ i hi
  exact ⟨by simp [World.cell?, show w.heap[b]? = _ from this], by simp [World.cell?, show w.heap[b]? = _ from this]⟩
theorem Mem.free {b : Nat} {t : TypeId} {cs : Array Value} (h : Mem w0 w rs) (i : Nat) (hi : rs[i]? = some (cellsR b t cs)) (j : Nat) : w.frozen? ⟨b, j, none⟩ = false := by
  simp [World.frozen?, h.heap i hi]
theorem Mem.cellAt {e : TypeId} {size n g cap : Nat} {xs : List Value} (h : Mem w0 w rs) (i : Nat) (hi : rs[i]? = some (rowR e size (.slice (some ⟨g, 0, none⟩) n cap) n xs)) (j : Nat) {u : Value} (hj : xs[j]? = some u) : w.cell? ⟨g, j, none⟩ = some u := by
  have hr := h.row i hi
  have hl := (List.getElem?_eq_some_iff.1 hj).1
  rw [hr.cellAt j (by rw [← hr.1]; exact hl), hj]
theorem Mem.freeAt {e : TypeId} {size n g cap : Nat} {xs : List Value} (h : Mem w0 w rs) (i : Nat) (hi : rs[i]? = some (rowR e size (.slice (some ⟨g, 0, none⟩) n cap) n xs)) (j : Nat) : w.frozen? ⟨g, j, none⟩ = false := (h.row i hi).frozenAt j
theorem Mem.pos {e : TypeId} {size n : Nat} {v : Value} {xs : List Value} (h : Mem w0 w rs) (i : Nat) (hi : rs[i]? = some (rowR e size v (n + 1) xs)) : ∃ g cap, v = .slice (some ⟨g, 0, none⟩) (n + 1) cap ∧ w0.heap.size ≤ g ∧ g < w.heap.size := by
  obtain ⟨g, cap, rfl⟩ := ownsRow_succ (h.row i hi)
  exact ⟨g, cap, rfl, h.lo i hi g rfl, ((h.row i hi).lt g rfl).2⟩
theorem Mem.getRow {e : TypeId} {size n cap : Nat} {a : Option Addr} {xs : List Value} (h : Mem w0 w rs) (i : Nat) (hi : rs[i]? = some (rowR e size (.slice a n cap) n xs)) (j : Nat) {u : Value} (hj : xs[j]? = some u) :
    ∃ g, a = some ⟨g, 0, none⟩ ∧ w0.heap.size ≤ g ∧ g < w.heap.size ∧ w.cell? ⟨g, j, none⟩ = some u := by
  have hr := h.row i hi
  rcases hr.2 with ⟨e1, e2⟩ | ⟨g, cap', cur, e1, _, hg, _⟩
  · have := hr.1
    rw [e2] at this
    have : xs = [] := List.eq_nil_of_length_eq_zero (by simpa using this)
    subst this
    simp at hj
  · cases e1
    exact ⟨g, rfl, h.lo i hi g rfl, (Array.getElem?_eq_some_iff.1 hg).1, h.cellAt i hi j hj⟩
theorem Mem.val {e : TypeId} {size n : Nat} {v : Value} {xs : List Value} (h : Mem w0 w rs) (i : Nat) (hi : rs[i]? = some (rowR e size v n xs)) : ∃ a cap, v = .slice a n cap ∧ n ≤ cap := by
  rcases (h.row i hi).2 with ⟨rfl, rfl⟩ | ⟨g, cap, cur, rfl, _, _, hn, _⟩
  · exact ⟨_, _, rfl, Nat.le_refl _⟩
  · exact ⟨_, _, rfl, hn⟩
end
end Go.Tre
