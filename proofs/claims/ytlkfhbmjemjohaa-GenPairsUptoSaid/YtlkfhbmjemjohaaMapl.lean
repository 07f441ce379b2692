/- Laws on a map that a call makes: its block stands for a partial function on plain keys and plain values. -/
import Derived.WalkKit
import Derived.Maps.OwnSet
import Derived.Maps.Keyed
namespace Go.Tre
open Go.RowKit Go.Maps Go.MapKept Go.ChangeMaps

theorem below_row {w0 w w' : World} {b : Nat} (h : Below w0.heap.size w0 w) (g : w.grownBy w' (some b)) (hb : w0.heap.size ≤ b) : Below w0.heap.size w0 w' :=
  h.grown g h.size (fun k e => by cases e; exact hb)
theorem below_none {w0 w w' : World} (h : Below w0.heap.size w0 w) (g : w.grownBy w' none) : Below w0.heap.size w0 w' :=
  h.grown g h.size (fun k e => by cases e)

section
variable {α β : Type} {P : Program} {k : TypeId} {ek : α → Value} {ev : β → Value} {w : World} {b n : Nat} {m : α → Option β}

/-- Block b of the world is a map of n entries: just m, its keys and values written by ek and ev. -/
def MapIs (P : Program) (k : TypeId) (ek : α → Value) (ev : β → Value) (w : World) (b n : Nat) (m : α → Option β) : Prop :=
  ∃ es clock, w.heap[b]? = some (.map es clock) ∧ es.size = n ∧ Stamped es clock ∧
    (∀ e ∈ es.toList, ∃ a x l, e.key = ek a ∧ e.val = ev x ∧ m a = some x ∧ keyOf P k (ek a) = some l) ∧
    (∀ a x, m a = some x → ∃ e ∈ es.toList, e.key = ek a ∧ e.val = ev x)

def upd [DecidableEq α] (m : α → Option β) (a : α) (x : β) : α → Option β := fun a' => if a' = a then some x else m a'

theorem MapIs.made (w : World) (P : Program) (k : TypeId) (ek : α → Value) (ev : β → Value) : MapIs P k ek ev (w.alloc (.map #[] 0)) w.heap.size 0 (fun _ => none) :=
  ⟨#[], 0, (MapKept.heap_alloc w _).1, rfl, stamped_empty 0, by simp, by simp⟩

theorem MapIs.lt (h : MapIs P k ek ev w b n m) : b < w.heap.size := by
  obtain ⟨es, clock, hb, _⟩ := h
  exact (Array.getElem?_eq_some_iff.1 hb).1

theorem MapIs.kept {w' : World} {row : Option Nat} (h : MapIs P k ek ev w b n m) (hg : w.grownBy w' row) (hne : some b ≠ row) : MapIs P k ek ev w' b n m := by
  have hlt := h.lt
  obtain ⟨es, clock, hb, r⟩ := h
  exact ⟨es, clock, (hg.block b hlt hne).trans hb, r⟩

theorem MapIs.block {w' : World} (h : MapIs P k ek ev w b n m) (he : w'.heap[b]? = w.heap[b]?) : MapIs P k ek ev w' b n m := by
  obtain ⟨es, clock, hb, r⟩ := h
  exact ⟨es, clock, he.trans hb, r⟩

theorem MapIs.alloc (h : MapIs P k ek ev w b n m) (o : Obj) : MapIs P k ek ev (w.alloc o) b n m := h.kept (World.grownBy_alloc w o none) (by simp)
theorem MapIs.drew (h : MapIs P k ek ev w b n m) : MapIs P k ek ev w.drew b n m := h

/-- what 'm[a]' finds -/
theorem MapIs.find (h : MapIs P k ek ev w b n m) (K : Keyed P k) (inj : ∀ a a', ek a = ek a' → a = a') {a : α} {l : Lit} (hl : keyOf P k (ek a) = some l) :
    ∃ es clock, w.heap[b]? = some (.map es clock) ∧
    ((m a = none ∧ (Instr.findKey k (ek a) es.toList).run P w = .ok none w ∧ ∀ e ∈ es.toList, e.key ≠ ek a) ∨
     (∃ x j e, m a = some x ∧ (Instr.findKey k (ek a) es.toList).run P w = .ok (some (j, ev x)) w ∧ es.toList[j]? = some e ∧ e.key = ek a ∧ e.val = ev x)) := by
  obtain ⟨es, clock, hb, hn, hst, h1, h2⟩ := h
  refine ⟨es, clock, hb, ?_⟩
  rcases K.find w hl es.toList (fun e he => by obtain ⟨a', x, l', e1, _, _, e4⟩ := h1 e he; exact ⟨l', by rw [e1]; exact e4⟩) with ⟨r1, r2⟩ | ⟨j, e, r1, r2, r3⟩
  · refine .inl ⟨?_, r1, r2⟩
    cases hm : m a with
    | none => rfl
    | some x =>
      obtain ⟨e, he, e1, _⟩ := h2 a x hm
      exact (r2 e he e1).elim
  · have hmem : e ∈ es.toList := List.mem_of_getElem? r2
    obtain ⟨a', x, l', e1, e2, e3, _⟩ := h1 e hmem
    have : a' = a := inj _ _ (by rw [← e1, r3])
    subst this
    exact .inr ⟨x, j, e, e3, by rw [r1, e2], r2, r3, e2⟩

theorem MapIs.run_look_ok {t e : TypeId} {z : Value} (h : MapIs P k ek ev w b n m) (K : Keyed P k) (inj : ∀ a a', ek a = ek a' → a = a') (ht : P.underlying t = some (.map k e)) (hz : (zeroValue e).run P w = .ok z w)
    {a : α} {l : Lit} (hl : keyOf P k (ek a) = some l) : (Instr.lookup t (.map (some b)) (ek a) true).run P w = .ok (.tuple #[((m a).map ev).getD z, .bool (m a).isSome]) w := by
  obtain ⟨es, clock, hb, ⟨hm, r1, _⟩ | ⟨x, j, e, hm, r1, _, _, r3⟩⟩ := h.find K inj hl
  · simp [Instr.lookup, run_underlying ht, MapKept.run_getObj_map hb, K.check w _ hl, r1, hz, hm, Result.andThen]
  · simp [Instr.lookup, run_underlying ht, MapKept.run_getObj_map hb, K.check w _ hl, r1, hm, Result.andThen]

theorem MapIs.run_look {t e : TypeId} {z : Value} (h : MapIs P k ek ev w b n m) (K : Keyed P k) (inj : ∀ a a', ek a = ek a' → a = a') (ht : P.underlying t = some (.map k e)) (hz : (zeroValue e).run P w = .ok z w)
    {a : α} {l : Lit} (hl : keyOf P k (ek a) = some l) : (Instr.lookup t (.map (some b)) (ek a) false).run P w = .ok (((m a).map ev).getD z) w := by
  obtain ⟨es, clock, hb, ⟨hm, r1, _⟩ | ⟨x, j, e, hm, r1, _, _, r3⟩⟩ := h.find K inj hl
  · simp [Instr.lookup, run_underlying ht, MapKept.run_getObj_map hb, K.check w _ hl, r1, hz, hm, Result.andThen]
  · simp [Instr.lookup, run_underlying ht, MapKept.run_getObj_map hb, K.check w _ hl, r1, hm, Result.andThen]

theorem modify_set {α : Type} (l : List α) (j : Nat) (f : α → α) (e : α) (h : l[j]? = some e) : l.modify j f = l.set j (f e) := by
  apply List.ext_getElem?
  intro i
  rw [List.getElem?_modify, List.getElem?_set]
  by_cases hij : j = i
  · subst hij
    have := (List.getElem?_eq_some_iff.1 h).1
    have h' : l[j] = e := by rw [List.getElem?_eq_getElem this] at h; exact Option.some.inj h
    simp [this, h']
  · simp [hij]

/-- 'm[a] = x' -/
theorem MapIs.run_store [DecidableEq α] {t e : TypeId} (h : MapIs P k ek ev w b n m) (K : Keyed P k) (inj : ∀ a a', ek a = ek a' → a = a') (ht : P.underlying t = some (.map k e))
    {a : α} {l : Lit} (hl : keyOf P k (ek a) = some l) (x : β) :
    ∃ w', (Instr.mapUpdate t (.map (some b)) (ek a) (ev x)).run P w = .ok () w' ∧ MapIs P k ek ev w' b (if (m a).isSome then n else n + 1) (upd m a x) ∧ w.grownBy w' (some b) := by
  have h0 := h
  obtain ⟨es, clock, hb, hn, hst, h1, h2⟩ := h0
  obtain ⟨es0, clock0, hb0, hf⟩ := h.find K inj hl
  rw [hb] at hb0
  cases hb0
  have keep : ∀ es' clock', w.grownBy (setBlock w b (.map es' clock')) (some b) := fun es' clock' => ⟨rfl, rfl, rfl, by simp [setBlock], fun i _ hi => heap_setBlock_other hb _ (fun e => hi (by rw [e]))⟩
  rcases hf with ⟨hm, r1, r2⟩ | ⟨y, j, e0, hm, r1, r2, r3, r4⟩
  · refine ⟨setBlock w b (.map (es.push ⟨ek a, ev x, clock⟩) (clock + 1)), ?_, ⟨_, _, heap_setBlock_same hb _, by simp [hm, hn], stamped_push hst r2, ?_, ?_⟩, keep _ _⟩
    · simp [Instr.mapUpdate, run_underlying ht, MapKept.run_getObj_map hb, K.check w false hl, r1, MapKept.run_setObj_map _ hb, Result.andThen, setBlock]
    · intro e' he'
      simp only [Array.toList_push, List.mem_append, List.mem_singleton] at he'
      rcases he' with he' | rfl
      · obtain ⟨a', x', l', e1, e2, e3, e4⟩ := h1 e' he'
        have hne : a' ≠ a := fun e => r2 e' he' (by rw [e1, e])
        exact ⟨a', x', l', e1, e2, by simp [upd, hne, e3], e4⟩
      · exact ⟨a, x, l, rfl, rfl, by simp [upd], hl⟩
    · intro a' x' ha'
      simp only [Array.toList_push, List.mem_append, List.mem_singleton]
      by_cases hne : a' = a
      · subst hne
        simp [upd] at ha'
        subst ha'
        exact ⟨_, .inr rfl, rfl, rfl⟩
      · simp [upd, hne] at ha'
        obtain ⟨e', he', e1, e2⟩ := h2 a' x' ha'
        exact ⟨e', .inl he', e1, e2⟩
  · have hj : es[j]? = some e0 := by simpa using r2
    have hjl : j < es.toList.length := (List.getElem?_eq_some_iff.1 r2).1
    have hlist : (es.modify j (fun e' => { e' with key := ek a, val := ev x })).toList = es.toList.set j { e0 with key := ek a, val := ev x } := by rw [Array.toList_modify, modify_set _ _ _ _ r2]
    have nod := hst.2.2
    have who : ∀ e' ∈ es.toList.set j { e0 with key := ek a, val := ev x }, e' = { e0 with key := ek a, val := ev x } ∨ (e' ∈ es.toList ∧ e'.key ≠ ek a) := by
      intro e' he'
      obtain ⟨i, hi, ex⟩ := List.getElem_of_mem he'
      rw [List.getElem_set] at ex
      split at ex
      · exact .inl ex.symm
      · rename_i hne
        have hi' : i < es.toList.length := by simpa using hi
        refine .inr ⟨ex ▸ List.getElem_mem hi', fun hk => hne ?_⟩
        have e5 : (es.toList.map (·.key))[i]? = (es.toList.map (·.key))[j]? := by
          simp only [List.getElem?_map, r2, List.getElem?_eq_getElem hi', Option.map_some, ex, hk, r3]
        exact ((List.getElem?_inj (by simpa using hi') nod).1 e5).symm
    refine ⟨setBlock w b (.map (es.modify j (fun e' => { e' with key := ek a, val := ev x })) clock), ?_, ⟨_, _, heap_setBlock_same hb _, by simp [hm, hn], stamped_modify hst _ _ (fun _ _ => rfl) (fun e' _ he' => ?_), ?_, ?_⟩, keep _ _⟩
    · simp [Instr.mapUpdate, run_underlying ht, MapKept.run_getObj_map hb, K.check w false hl, r1, hj, r3, K.stays w hl, MapKept.run_setObj_map _ hb, Result.andThen, setBlock]
    · rw [hj] at he'; cases he'; exact r3.symm
    · intro e' he'
      rw [hlist] at he'
      rcases who e' he' with rfl | ⟨he', hne⟩
      · exact ⟨a, x, l, rfl, rfl, by simp [upd], hl⟩
      · obtain ⟨a', x', l', e1, e2, e3, e4⟩ := h1 e' he'
        have hne' : a' ≠ a := fun e => hne (by rw [e1, e])
        exact ⟨a', x', l', e1, e2, by simp [upd, hne', e3], e4⟩
    · intro a' x' ha'
      rw [hlist]
      by_cases hne : a' = a
      · subst hne
        simp [upd] at ha'
        subst ha'
        exact ⟨{ e0 with key := ek a', val := ev x }, List.mem_iff_getElem.2 ⟨j, by simpa using hjl, by simp⟩, rfl, rfl⟩
      · simp [upd, hne] at ha'
        obtain ⟨e', he', e1, e2⟩ := h2 a' x' ha'
        obtain ⟨i, hi, ex⟩ := List.getElem_of_mem he'
        have hij : j ≠ i := fun e => by
          subst e
          rw [List.getElem?_eq_getElem hi, ex] at r2
          cases r2
          exact hne (inj _ _ (by rw [← e1, r3]))
        exact ⟨e', List.mem_iff_getElem.2 ⟨i, by simpa using hi, by rw [List.getElem_set_ne hij]; exact ex⟩, e1, e2⟩
end

section
variable {α β : Type} {P : Program} {k : TypeId} {ek : α → Value} {ev : β → Value} {w : World} {b n : Nat} {m : α → Option β}
  {ops : Array Oper} {rest : List Oper} {o : Oper} {a : Act} {Q : Exit → Act → World → Prop}

theorem wpList_look_ok (hg : o.guard = none) (mo xo : Operand) (t : TypeId) (hop : o.op = Op.lookup t mo xo true) (e : TypeId) (K : Keyed P k) (inj : ∀ a a', ek a = ek a' → a = a')
    (ht : P.underlying t = some (.map k e)) {z : Value} (hz : (zeroValue e).run P w = .ok z w) (hm : a.eval mo = .map (some b)) (h : MapIs P k ek ev w b n m) (x : α) (hx : a.eval xo = ek x) {l : Lit} (hl : keyOf P k (ek x) = some l)
    (hK : wpList P ops Q rest (a.put o.dst (.tuple #[((m x).map ev).getD z, .bool (m x).isSome])) w) : wpList P ops Q (o :: rest) a w := by
  refine wpList_plain hg fun K' hK' => ?_
  have hrun := h.run_look_ok K inj ht hz hl
  unfold Oper.wp
  simp [execOp, hop, hm, hx, hrun, Result.andThen]
  exact hK' _ _ hK

theorem wpList_look_some (hg : o.guard = none) (mo xo : Operand) (t : TypeId) (hop : o.op = Op.lookup t mo xo true) (e : TypeId) (K : Keyed P k) (inj : ∀ a a', ek a = ek a' → a = a')
    (ht : P.underlying t = some (.map k e)) {z : Value} (hz : (zeroValue e).run P w = .ok z w) (hm : a.eval mo = .map (some b)) (h : MapIs P k ek ev w b n m) (x : α) (hx : a.eval xo = ek x) {l : Lit} (hl : keyOf P k (ek x) = some l)
    (y : β) (hy : m x = some y) (hK : wpList P ops Q rest (a.put o.dst (.tuple #[ev y, .bool true])) w) : wpList P ops Q (o :: rest) a w :=
  wpList_look_ok hg mo xo t hop e K inj ht hz hm h x hx hl (by rw [hy]; exact hK)

theorem wpList_look_none (hg : o.guard = none) (mo xo : Operand) (t : TypeId) (hop : o.op = Op.lookup t mo xo true) (e : TypeId) (K : Keyed P k) (inj : ∀ a a', ek a = ek a' → a = a')
    (ht : P.underlying t = some (.map k e)) {z : Value} (hz : (zeroValue e).run P w = .ok z w) (hm : a.eval mo = .map (some b)) (h : MapIs P k ek ev w b n m) (x : α) (hx : a.eval xo = ek x) {l : Lit} (hl : keyOf P k (ek x) = some l)
    (hy : m x = none) (hK : wpList P ops Q rest (a.put o.dst (.tuple #[z, .bool false])) w) : wpList P ops Q (o :: rest) a w :=
  wpList_look_ok hg mo xo t hop e K inj ht hz hm h x hx hl (by rw [hy]; exact hK)

theorem wpList_look (hg : o.guard = none) (mo xo : Operand) (t : TypeId) (hop : o.op = Op.lookup t mo xo false) (e : TypeId) (K : Keyed P k) (inj : ∀ a a', ek a = ek a' → a = a')
    (ht : P.underlying t = some (.map k e)) {z : Value} (hz : (zeroValue e).run P w = .ok z w) (hm : a.eval mo = .map (some b)) (h : MapIs P k ek ev w b n m) (x : α) (hx : a.eval xo = ek x) {l : Lit} (hl : keyOf P k (ek x) = some l)
    (hK : wpList P ops Q rest (a.put o.dst (((m x).map ev).getD z)) w) : wpList P ops Q (o :: rest) a w := by
  refine wpList_plain hg fun K' hK' => ?_
  have hrun := h.run_look K inj ht hz hl
  unfold Oper.wp
  simp [execOp, hop, hm, hx, hrun, Result.andThen]
  exact hK' _ _ hK

theorem wpList_look1_some (hg : o.guard = none) (mo xo : Operand) (t : TypeId) (hop : o.op = Op.lookup t mo xo false) (e : TypeId) (K : Keyed P k) (inj : ∀ a a', ek a = ek a' → a = a')
    (ht : P.underlying t = some (.map k e)) {z : Value} (hz : (zeroValue e).run P w = .ok z w) (hm : a.eval mo = .map (some b)) (h : MapIs P k ek ev w b n m) (x : α) (hx : a.eval xo = ek x) {l : Lit} (hl : keyOf P k (ek x) = some l)
    (y : β) (hy : m x = some y) (hK : wpList P ops Q rest (a.put o.dst (ev y)) w) : wpList P ops Q (o :: rest) a w :=
  wpList_look hg mo xo t hop e K inj ht hz hm h x hx hl (by rw [hy]; exact hK)

theorem wpList_look1_none (hg : o.guard = none) (mo xo : Operand) (t : TypeId) (hop : o.op = Op.lookup t mo xo false) (e : TypeId) (K : Keyed P k) (inj : ∀ a a', ek a = ek a' → a = a')
    (ht : P.underlying t = some (.map k e)) {z : Value} (hz : (zeroValue e).run P w = .ok z w) (hm : a.eval mo = .map (some b)) (h : MapIs P k ek ev w b n m) (x : α) (hx : a.eval xo = ek x) {l : Lit} (hl : keyOf P k (ek x) = some l)
    (hy : m x = none) (hK : wpList P ops Q rest (a.put o.dst z) w) : wpList P ops Q (o :: rest) a w :=
  wpList_look hg mo xo t hop e K inj ht hz hm h x hx hl (by rw [hy]; exact hK)

theorem wpList_store [DecidableEq α] (hg : o.guard = none) (mo xo vo : Operand) (t : TypeId) (hop : o.op = Op.mapUpdate t mo xo vo ∨ o.op = Op.insert t mo xo vo) (e : TypeId) (K : Keyed P k) (inj : ∀ a a', ek a = ek a' → a = a')
    (ht : P.underlying t = some (.map k e)) (hm : a.eval mo = .map (some b)) (h : MapIs P k ek ev w b n m) (x : α) (hx : a.eval xo = ek x) {l : Lit} (hl : keyOf P k (ek x) = some l) (y : β) (hy : a.eval vo = ev y)
    (hK : ∀ w', MapIs P k ek ev w' b (if (m x).isSome then n else n + 1) (upd m x y) → w.grownBy w' (some b) → wpList P ops Q rest (a.put o.dst undef) w') : wpList P ops Q (o :: rest) a w := by
  refine wpList_plain hg fun K' hK' => ?_
  obtain ⟨w', hrun, r1, r2⟩ := h.run_store K inj ht hl y
  unfold Oper.wp
  rcases hop with hop | hop
  · simp [execOp, hop, hm, hx, hy, hrun, Result.andThen]
    exact hK' _ _ (hK w' r1 r2)
  · simp [execOp, hop, hm, hx, hy, hrun, Result.andThen]
    exact hK' _ _ (hK w' r1 r2)
end

end Go.Tre
