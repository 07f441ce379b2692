/- Laws on a map that a call makes: its block stands for a partial function on plain keys and plain values. Contracts of value.Num at its four operators. Plain arithmetic of 64 bits with wrap-round: sums and differences go back; a quotient times its divisor, and what is left. The walks of alive, of ValueBack: whatever the two numbers, it answers true, and nothing that was there is written. Which words are keys: the text of all of them, blanks between, holds a word between blanks just if it is one of them. How lists, nodes and graphs lie in memory; what stays while other blocks are written. -/
import Derived.WalkKit
import Derived.Maps.OwnSet
import Derived.Maps.Keyed
import Derived.Test.YtnhcgobpkigeoaaGreatDoorRRRows
import Derived.WalkSpells
import Derived.WalkLawsBesides
import Derived.ProofKit
import Derived.RowKit
import Derived.Lib.IndexMore
set_option linter.unusedVariables false
namespace Go.Tre
open Go.RowKit Go.Maps Go.MapKept Go.ChangeMaps

theorem below_row {w0 w w' : World} {b : Nat} (h : Below w0.heap.size w0 w) (g : w.grownBy w' (some b)) (hb : w0.heap.size ≤ b) : Below w0.heap.size w0 w' :=
  h.grown g h.size (fun k e => by cases e; exact hb)
theorem below_none {w0 w w' : World} (h : Below w0.heap.size w0 w) (g : w.grownBy w' none) : Below w0.heap.size w0 w' :=
  h.grown g h.size (fun k e => by cases e)

section
variable {α β : Type} {P : Program} {k : TypeId} {ek : α → Value} {ev : β → Value} {w : World} {b n : Nat} {m : α → Option β}

/-- Block b of the world is a map of n entries: just m, its keys and values written by ek and ev. -/
def MapIs (P : Program) (k : TypeId) (ek : α → Value) (ev : β → Value) (w : World) (b n : Nat) (m : α → Option β) : Prop :=
  ∃ es clock, w.heap[b]? = some (.map es clock) ∧ es.size = n ∧ Stamped es clock ∧
    (∀ e ∈ es.toList, ∃ a x l, e.key = ek a ∧ e.val = ev x ∧ m a = some x ∧ keyOf P k (ek a) = some l) ∧
    (∀ a x, m a = some x → ∃ e ∈ es.toList, e.key = ek a ∧ e.val = ev x)

def upd [DecidableEq α] (m : α → Option β) (a : α) (x : β) : α → Option β := fun a' => if a' = a then some x else m a'

theorem MapIs.made (w : World) (P : Program) (k : TypeId) (ek : α → Value) (ev : β → Value) : MapIs P k ek ev (w.alloc (.map #[] 0)) w.heap.size 0 (fun _ => none) :=
  ⟨#[], 0, (MapKept.heap_alloc w _).1, rfl, stamped_empty 0, by simp, by simp⟩

theorem MapIs.lt (h : MapIs P k ek ev w b n m) : b < w.heap.size := by
  obtain ⟨es, clock, hb, _⟩ := h
  exact (Array.getElem?_eq_some_iff.1 hb).1

theorem MapIs.kept {w' : World} {row : Option Nat} (h : MapIs P k ek ev w b n m) (hg : w.grownBy w' row) (hne : some b ≠ row) : MapIs P k ek ev w' b n m := by
  have hlt := h.lt
  obtain ⟨es, clock, hb, r⟩ := h
  exact ⟨es, clock, (hg.block b hlt hne).trans hb, r⟩

theorem MapIs.block {w' : World} (h : MapIs P k ek ev w b n m) (he : w'.heap[b]? = w.heap[b]?) : MapIs P k ek ev w' b n m := by
  obtain ⟨es, clock, hb, r⟩ := h
  exact ⟨es, clock, he.trans hb, r⟩

theorem MapIs.alloc (h : MapIs P k ek ev w b n m) (o : Obj) : MapIs P k ek ev (w.alloc o) b n m := h.kept (World.grownBy_alloc w o none) (by simp)
theorem MapIs.drew (h : MapIs P k ek ev w b n m) : MapIs P k ek ev w.drew b n m := h

/-- what 'm[a]' finds -/
theorem MapIs.find (h : MapIs P k ek ev w b n m) (K : Keyed P k) (inj : ∀ a a', ek a = ek a' → a = a') {a : α} {l : Lit} (hl : keyOf P k (ek a) = some l) :
    ∃ es clock, w.heap[b]? = some (.map es clock) ∧
    ((m a = none ∧ (Instr.findKey k (ek a) es.toList).run P w = .ok none w ∧ ∀ e ∈ es.toList, e.key ≠ ek a) ∨
     (∃ x j e, m a = some x ∧ (Instr.findKey k (ek a) es.toList).run P w = .ok (some (j, ev x)) w ∧ es.toList[j]? = some e ∧ e.key = ek a ∧ e.val = ev x)) := by
  obtain ⟨es, clock, hb, hn, hst, h1, h2⟩ := h
  refine ⟨es, clock, hb, ?_⟩
  rcases K.find w hl es.toList (fun e he => by obtain ⟨a', x, l', e1, _, _, e4⟩ := h1 e he; exact ⟨l', by rw [e1]; exact e4⟩) with ⟨r1, r2⟩ | ⟨j, e, r1, r2, r3⟩
  · refine .inl ⟨?_, r1, r2⟩
    cases hm : m a with
    | none => rfl
    | some x =>
      obtain ⟨e, he, e1, _⟩ := h2 a x hm
      exact (r2 e he e1).elim
  · have hmem : e ∈ es.toList := List.mem_of_getElem? r2
    obtain ⟨a', x, l', e1, e2, e3, _⟩ := h1 e hmem
    have : a' = a := inj _ _ (by rw [← e1, r3])
    subst this
    exact .inr ⟨x, j, e, e3, by rw [r1, e2], r2, r3, e2⟩

theorem MapIs.run_look_ok {t e : TypeId} {z : Value} (h : MapIs P k ek ev w b n m) (K : Keyed P k) (inj : ∀ a a', ek a = ek a' → a = a') (ht : P.underlying t = some (.map k e)) (hz : (zeroValue e).run P w = .ok z w)
    {a : α} {l : Lit} (hl : keyOf P k (ek a) = some l) : (Instr.lookup t (.map (some b)) (ek a) true).run P w = .ok (.tuple #[((m a).map ev).getD z, .bool (m a).isSome]) w := by
  obtain ⟨es, clock, hb, ⟨hm, r1, _⟩ | ⟨x, j, e, hm, r1, _, _, r3⟩⟩ := h.find K inj hl
  · simp [Instr.lookup, run_underlying ht, MapKept.run_getObj_map hb, K.check w _ hl, r1, hz, hm, Result.andThen]
  · simp [Instr.lookup, run_underlying ht, MapKept.run_getObj_map hb, K.check w _ hl, r1, hm, Result.andThen]

theorem MapIs.run_look {t e : TypeId} {z : Value} (h : MapIs P k ek ev w b n m) (K : Keyed P k) (inj : ∀ a a', ek a = ek a' → a = a') (ht : P.underlying t = some (.map k e)) (hz : (zeroValue e).run P w = .ok z w)
    {a : α} {l : Lit} (hl : keyOf P k (ek a) = some l) : (Instr.lookup t (.map (some b)) (ek a) false).run P w = .ok (((m a).map ev).getD z) w := by
  obtain ⟨es, clock, hb, ⟨hm, r1, _⟩ | ⟨x, j, e, hm, r1, _, _, r3⟩⟩ := h.find K inj hl
  · simp [Instr.lookup, run_underlying ht, MapKept.run_getObj_map hb, K.check w _ hl, r1, hz, hm, Result.andThen]
  · simp [Instr.lookup, run_underlying ht, MapKept.run_getObj_map hb, K.check w _ hl, r1, hm, Result.andThen]

theorem modify_set {α : Type} (l : List α) (j : Nat) (f : α → α) (e : α) (h : l[j]? = some e) : l.modify j f = l.set j (f e) := by
  apply List.ext_getElem?
  intro i
  rw [List.getElem?_modify, List.getElem?_set]
  by_cases hij : j = i
  · subst hij
    have := (List.getElem?_eq_some_iff.1 h).1
    have h' : l[j] = e := by rw [List.getElem?_eq_getElem this] at h; exact Option.some.inj h
    simp [this, h']
  · simp [hij]

/-- 'm[a] = x' -/
theorem MapIs.run_store [DecidableEq α] {t e : TypeId} (h : MapIs P k ek ev w b n m) (K : Keyed P k) (inj : ∀ a a', ek a = ek a' → a = a') (ht : P.underlying t = some (.map k e))
    {a : α} {l : Lit} (hl : keyOf P k (ek a) = some l) (x : β) :
    ∃ w', (Instr.mapUpdate t (.map (some b)) (ek a) (ev x)).run P w = .ok () w' ∧ MapIs P k ek ev w' b (if (m a).isSome then n else n + 1) (upd m a x) ∧ w.grownBy w' (some b) := by
  have h0 := h
  obtain ⟨es, clock, hb, hn, hst, h1, h2⟩ := h0
  obtain ⟨es0, clock0, hb0, hf⟩ := h.find K inj hl
  rw [hb] at hb0
  cases hb0
  have keep : ∀ es' clock', w.grownBy (setBlock w b (.map es' clock')) (some b) := fun es' clock' => ⟨rfl, rfl, rfl, by simp [setBlock], fun i _ hi => heap_setBlock_other hb _ (fun e => hi (by rw [e]))⟩
  rcases hf with ⟨hm, r1, r2⟩ | ⟨y, j, e0, hm, r1, r2, r3, r4⟩
  · refine ⟨setBlock w b (.map (es.push ⟨ek a, ev x, clock⟩) (clock + 1)), ?_, ⟨_, _, heap_setBlock_same hb _, by simp [hm, hn], stamped_push hst r2, ?_, ?_⟩, keep _ _⟩
    · simp [Instr.mapUpdate, run_underlying ht, MapKept.run_getObj_map hb, K.check w false hl, r1, MapKept.run_setObj_map _ hb, Result.andThen, setBlock]
    · intro e' he'
      simp only [Array.toList_push, List.mem_append, List.mem_singleton] at he'
      rcases he' with he' | rfl
      · obtain ⟨a', x', l', e1, e2, e3, e4⟩ := h1 e' he'
        have hne : a' ≠ a := fun e => r2 e' he' (by rw [e1, e])
        exact ⟨a', x', l', e1, e2, by simp [upd, hne, e3], e4⟩
      · exact ⟨a, x, l, rfl, rfl, by simp [upd], hl⟩
    · intro a' x' ha'
      simp only [Array.toList_push, List.mem_append, List.mem_singleton]
      by_cases hne : a' = a
      · subst hne
        simp [upd] at ha'
        subst ha'
        exact ⟨_, .inr rfl, rfl, rfl⟩
      · simp [upd, hne] at ha'
        obtain ⟨e', he', e1, e2⟩ := h2 a' x' ha'
        exact ⟨e', .inl he', e1, e2⟩
  · have hj : es[j]? = some e0 := by simpa using r2
    have hjl : j < es.toList.length := (List.getElem?_eq_some_iff.1 r2).1
    have hlist : (es.modify j (fun e' => { e' with key := ek a, val := ev x })).toList = es.toList.set j { e0 with key := ek a, val := ev x } := by rw [Array.toList_modify, modify_set _ _ _ _ r2]
    have nod := hst.2.2
    have who : ∀ e' ∈ es.toList.set j { e0 with key := ek a, val := ev x }, e' = { e0 with key := ek a, val := ev x } ∨ (e' ∈ es.toList ∧ e'.key ≠ ek a) := by
      intro e' he'
      obtain ⟨i, hi, ex⟩ := List.getElem_of_mem he'
      rw [List.getElem_set] at ex
      split at ex
      · exact .inl ex.symm
      · rename_i hne
        have hi' : i < es.toList.length := by simpa using hi
        refine .inr ⟨ex ▸ List.getElem_mem hi', fun hk => hne ?_⟩
        have e5 : (es.toList.map (·.key))[i]? = (es.toList.map (·.key))[j]? := by
          simp only [List.getElem?_map, r2, List.getElem?_eq_getElem hi', Option.map_some, ex, hk, r3]
        exact ((List.getElem?_inj (by simpa using hi') nod).1 e5).symm
    refine ⟨setBlock w b (.map (es.modify j (fun e' => { e' with key := ek a, val := ev x })) clock), ?_, ⟨_, _, heap_setBlock_same hb _, by simp [hm, hn], stamped_modify hst _ _ (fun _ _ => rfl) (fun e' _ he' => ?_), ?_, ?_⟩, keep _ _⟩
    · simp [Instr.mapUpdate, run_underlying ht, MapKept.run_getObj_map hb, K.check w false hl, r1, hj, r3, K.stays w hl, MapKept.run_setObj_map _ hb, Result.andThen, setBlock]
    · rw [hj] at he'; cases he'; exact r3.symm
    · intro e' he'
      rw [hlist] at he'
      rcases who e' he' with rfl | ⟨he', hne⟩
      · exact ⟨a, x, l, rfl, rfl, by simp [upd], hl⟩
      · obtain ⟨a', x', l', e1, e2, e3, e4⟩ := h1 e' he'
        have hne' : a' ≠ a := fun e => hne (by rw [e1, e])
        exact ⟨a', x', l', e1, e2, by simp [upd, hne', e3], e4⟩
    · intro a' x' ha'
      rw [hlist]
      by_cases hne : a' = a
      · subst hne
        simp [upd] at ha'
        subst ha'
        exact ⟨{ e0 with key := ek a', val := ev x }, List.mem_iff_getElem.2 ⟨j, by simpa using hjl, by simp⟩, rfl, rfl⟩
      · simp [upd, hne] at ha'
        obtain ⟨e', he', e1, e2⟩ := h2 a' x' ha'
        obtain ⟨i, hi, ex⟩ := List.getElem_of_mem he'
        have hij : j ≠ i := fun e => by
          subst e
          rw [List.getElem?_eq_getElem hi, ex] at r2
          cases r2
          exact hne (inj _ _ (by rw [← e1, r3]))
        exact ⟨e', List.mem_iff_getElem.2 ⟨i, by simpa using hi, by rw [List.getElem_set_ne hij]; exact ex⟩, e1, e2⟩
end

section
variable {α β : Type} {P : Program} {k : TypeId} {ek : α → Value} {ev : β → Value} {w : World} {b n : Nat} {m : α → Option β}
  {ops : Array Oper} {rest : List Oper} {o : Oper} {a : Act} {Q : Exit → Act → World → Prop}

theorem wpList_look_ok (hg : o.guard = none) (mo xo : Operand) (t : TypeId) (hop : o.op = Op.lookup t mo xo true) (e : TypeId) (K : Keyed P k) (inj : ∀ a a', ek a = ek a' → a = a')
    (ht : P.underlying t = some (.map k e)) {z : Value} (hz : (zeroValue e).run P w = .ok z w) (hm : a.eval mo = .map (some b)) (h : MapIs P k ek ev w b n m) (x : α) (hx : a.eval xo = ek x) {l : Lit} (hl : keyOf P k (ek x) = some l)
    (hK : wpList P ops Q rest (a.put o.dst (.tuple #[((m x).map ev).getD z, .bool (m x).isSome])) w) : wpList P ops Q (o :: rest) a w := by
  refine wpList_plain hg fun K' hK' => ?_
  have hrun := h.run_look_ok K inj ht hz hl
  unfold Oper.wp
  simp [execOp, hop, hm, hx, hrun, Result.andThen]
  exact hK' _ _ hK

theorem wpList_look_some (hg : o.guard = none) (mo xo : Operand) (t : TypeId) (hop : o.op = Op.lookup t mo xo true) (e : TypeId) (K : Keyed P k) (inj : ∀ a a', ek a = ek a' → a = a')
    (ht : P.underlying t = some (.map k e)) {z : Value} (hz : (zeroValue e).run P w = .ok z w) (hm : a.eval mo = .map (some b)) (h : MapIs P k ek ev w b n m) (x : α) (hx : a.eval xo = ek x) {l : Lit} (hl : keyOf P k (ek x) = some l)
    (y : β) (hy : m x = some y) (hK : wpList P ops Q rest (a.put o.dst (.tuple #[ev y, .bool true])) w) : wpList P ops Q (o :: rest) a w :=
  wpList_look_ok hg mo xo t hop e K inj ht hz hm h x hx hl (by rw [hy]; exact hK)

theorem wpList_look_none (hg : o.guard = none) (mo xo : Operand) (t : TypeId) (hop : o.op = Op.lookup t mo xo true) (e : TypeId) (K : Keyed P k) (inj : ∀ a a', ek a = ek a' → a = a')
    (ht : P.underlying t = some (.map k e)) {z : Value} (hz : (zeroValue e).run P w = .ok z w) (hm : a.eval mo = .map (some b)) (h : MapIs P k ek ev w b n m) (x : α) (hx : a.eval xo = ek x) {l : Lit} (hl : keyOf P k (ek x) = some l)
    (hy : m x = none) (hK : wpList P ops Q rest (a.put o.dst (.tuple #[z, .bool false])) w) : wpList P ops Q (o :: rest) a w :=
  wpList_look_ok hg mo xo t hop e K inj ht hz hm h x hx hl (by rw [hy]; exact hK)

theorem wpList_look (hg : o.guard = none) (mo xo : Operand) (t : TypeId) (hop : o.op = Op.lookup t mo xo false) (e : TypeId) (K : Keyed P k) (inj : ∀ a a', ek a = ek a' → a = a')
    (ht : P.underlying t = some (.map k e)) {z : Value} (hz : (zeroValue e).run P w = .ok z w) (hm : a.eval mo = .map (some b)) (h : MapIs P k ek ev w b n m) (x : α) (hx : a.eval xo = ek x) {l : Lit} (hl : keyOf P k (ek x) = some l)
    (hK : wpList P ops Q rest (a.put o.dst (((m x).map ev).getD z)) w) : wpList P ops Q (o :: rest) a w := by
  refine wpList_plain hg fun K' hK' => ?_
  have hrun := h.run_look K inj ht hz hl
  unfold Oper.wp
  simp [execOp, hop, hm, hx, hrun, Result.andThen]
  exact hK' _ _ hK

theorem wpList_look1_some (hg : o.guard = none) (mo xo : Operand) (t : TypeId) (hop : o.op = Op.lookup t mo xo false) (e : TypeId) (K : Keyed P k) (inj : ∀ a a', ek a = ek a' → a = a')
    (ht : P.underlying t = some (.map k e)) {z : Value} (hz : (zeroValue e).run P w = .ok z w) (hm : a.eval mo = .map (some b)) (h : MapIs P k ek ev w b n m) (x : α) (hx : a.eval xo = ek x) {l : Lit} (hl : keyOf P k (ek x) = some l)
    (y : β) (hy : m x = some y) (hK : wpList P ops Q rest (a.put o.dst (ev y)) w) : wpList P ops Q (o :: rest) a w :=
  wpList_look hg mo xo t hop e K inj ht hz hm h x hx hl (by rw [hy]; exact hK)

theorem wpList_look1_none (hg : o.guard = none) (mo xo : Operand) (t : TypeId) (hop : o.op = Op.lookup t mo xo false) (e : TypeId) (K : Keyed P k) (inj : ∀ a a', ek a = ek a' → a = a')
    (ht : P.underlying t = some (.map k e)) {z : Value} (hz : (zeroValue e).run P w = .ok z w) (hm : a.eval mo = .map (some b)) (h : MapIs P k ek ev w b n m) (x : α) (hx : a.eval xo = ek x) {l : Lit} (hl : keyOf P k (ek x) = some l)
    (hy : m x = none) (hK : wpList P ops Q rest (a.put o.dst z) w) : wpList P ops Q (o :: rest) a w :=
  wpList_look hg mo xo t hop e K inj ht hz hm h x hx hl (by rw [hy]; exact hK)

theorem wpList_store [DecidableEq α] (hg : o.guard = none) (mo xo vo : Operand) (t : TypeId) (hop : o.op = Op.mapUpdate t mo xo vo ∨ o.op = Op.insert t mo xo vo) (e : TypeId) (K : Keyed P k) (inj : ∀ a a', ek a = ek a' → a = a')
    (ht : P.underlying t = some (.map k e)) (hm : a.eval mo = .map (some b)) (h : MapIs P k ek ev w b n m) (x : α) (hx : a.eval xo = ek x) {l : Lit} (hl : keyOf P k (ek x) = some l) (y : β) (hy : a.eval vo = ev y)
    (hK : ∀ w', MapIs P k ek ev w' b (if (m x).isSome then n else n + 1) (upd m x y) → w.grownBy w' (some b) → wpList P ops Q rest (a.put o.dst undef) w') : wpList P ops Q (o :: rest) a w := by
  refine wpList_plain hg fun K' hK' => ?_
  obtain ⟨w', hrun, r1, r2⟩ := h.run_store K inj ht hl y
  unfold Oper.wp
  rcases hop with hop | hop
  · simp [execOp, hop, hm, hx, hy, hrun, Result.andThen]
    exact hK' _ _ (hK w' r1 r2)
  · simp [execOp, hop, hm, hx, hy, hrun, Result.andThen]
    exact hK' _ _ (hK w' r1 r2)
end

end Go.Tre
namespace Go.Proofs.YtnhcgobpkigeoaaGreatDoorRR.num
open Go.RowKit Go.Maps Go.Tre

abbrev fv (n : Nat) : Value := .func (.func n) #[] #[]
theorem K : Keyed Tryz.prog 9 := string_keyed Tryz.underlying9
theorem inj (a b : ByteArray) (h : Value.string a = Value.string b) : a = b := by injection h
theorem zf (w : World) : (zeroValue 47).run Tryz.prog w = .ok .nilFunc w := by kernel_rfl
theorem ky (s : ByteArray) (h : s.size ≤ maxLen) : keyOf Tryz.prog 9 (.string s) = some (.string s.data.toList) := by
  simp [keyOf, Tryz.underlying9, mapKey, h]
theorem k1 (b : UInt8) : keyOf Tryz.prog 9 (.string ⟨#[b]⟩) = some (.string [b]) := ky ⟨#[b]⟩ (by show 1 ≤ maxLen; decide)
def F : ByteArray → Option Nat := upd (upd (upd (upd (fun _ => none) ⟨#[43]⟩ 14) ⟨#[45]⟩ 15) ⟨#[42]⟩ 16) ⟨#[47]⟩ 17
theorem F1 : F ⟨#[43]⟩ = some 14 := by decide
theorem F2 : F ⟨#[45]⟩ = some 15 := by decide
theorem F3 : F ⟨#[42]⟩ = some 16 := by decide
theorem F4 : F ⟨#[47]⟩ = some 17 := by decide

set_option maxHeartbeats 400000 in
theorem plus (a b : Int) (w : World) :
    Calls Tryz.prog 9 #[.string ⟨#[43]⟩, .int .i64 a, .int .i64 b] w fun e w' => e = .returned (.tuple #[.int .i64 (wrap64 (a + b)), .int .i64 0]) ∧ Below w.heap.size w w' := by
  have hmm := @run_makeMap Tryz.prog
  have h0 := MapIs.made w Tryz.prog 9 Value.string fv
  have b0 := (Below.refl w.heap.size w).alloc (Nat.le_refl _) (.map #[] 0)
  go_enter Tryz.func9, Tryz.ntmps9
  go_wp2_with (first | (refine wpList_store rfl _ _ _ 48 (.inr rfl) 47 K inj Tryz.underlying48 rfl (by assumption) _ rfl (k1 _) 14 rfl ?_; intro w1 h1 g1; have bb := below_row (by assumption) g1 (Nat.le_refl _)) | (refine wpList_store rfl _ _ _ 48 (.inr rfl) 47 K inj Tryz.underlying48 rfl (by assumption) _ rfl (k1 _) 15 rfl ?_; intro w1 h1 g1; have bb := below_row (by assumption) g1 (Nat.le_refl _)) | (refine wpList_store rfl _ _ _ 48 (.inr rfl) 47 K inj Tryz.underlying48 rfl (by assumption) _ rfl (k1 _) 16 rfl ?_; intro w1 h1 g1; have bb := below_row (by assumption) g1 (Nat.le_refl _)) | (refine wpList_store rfl _ _ _ 48 (.inr rfl) 47 K inj Tryz.underlying48 rfl (by assumption) _ rfl (k1 _) 17 rfl ?_; intro w1 h1 g1; have bb := below_row (by assumption) g1 (Nat.le_refl _)) | (refine wpList_look_some rfl _ _ 48 rfl 47 K inj Tryz.underlying48 (zf _) rfl (by assumption) _ rfl (k1 _) _ F1 ?_) | go_in)
  go_ret2
  exact ⟨rfl, by assumption⟩
set_option maxHeartbeats 400000 in
theorem minus (a b : Int) (w : World) :
    Calls Tryz.prog 9 #[.string ⟨#[45]⟩, .int .i64 a, .int .i64 b] w fun e w' => e = .returned (.tuple #[.int .i64 (wrap64 (a - b)), .int .i64 0]) ∧ Below w.heap.size w w' := by
  have hmm := @run_makeMap Tryz.prog
  have h0 := MapIs.made w Tryz.prog 9 Value.string fv
  have b0 := (Below.refl w.heap.size w).alloc (Nat.le_refl _) (.map #[] 0)
  go_enter Tryz.func9, Tryz.ntmps9
  go_wp2_with (first | (refine wpList_store rfl _ _ _ 48 (.inr rfl) 47 K inj Tryz.underlying48 rfl (by assumption) _ rfl (k1 _) 14 rfl ?_; intro w1 h1 g1; have bb := below_row (by assumption) g1 (Nat.le_refl _)) | (refine wpList_store rfl _ _ _ 48 (.inr rfl) 47 K inj Tryz.underlying48 rfl (by assumption) _ rfl (k1 _) 15 rfl ?_; intro w1 h1 g1; have bb := below_row (by assumption) g1 (Nat.le_refl _)) | (refine wpList_store rfl _ _ _ 48 (.inr rfl) 47 K inj Tryz.underlying48 rfl (by assumption) _ rfl (k1 _) 16 rfl ?_; intro w1 h1 g1; have bb := below_row (by assumption) g1 (Nat.le_refl _)) | (refine wpList_store rfl _ _ _ 48 (.inr rfl) 47 K inj Tryz.underlying48 rfl (by assumption) _ rfl (k1 _) 17 rfl ?_; intro w1 h1 g1; have bb := below_row (by assumption) g1 (Nat.le_refl _)) | (refine wpList_look_some rfl _ _ 48 rfl 47 K inj Tryz.underlying48 (zf _) rfl (by assumption) _ rfl (k1 _) _ F2 ?_) | go_in)
  go_ret2
  exact ⟨rfl, by assumption⟩
set_option maxHeartbeats 400000 in
theorem times (a b : Int) (w : World) :
    Calls Tryz.prog 9 #[.string ⟨#[42]⟩, .int .i64 a, .int .i64 b] w fun e w' => e = .returned (.tuple #[.int .i64 (wrap64 (a * b)), .int .i64 0]) ∧ Below w.heap.size w w' := by
  have hmm := @run_makeMap Tryz.prog
  have h0 := MapIs.made w Tryz.prog 9 Value.string fv
  have b0 := (Below.refl w.heap.size w).alloc (Nat.le_refl _) (.map #[] 0)
  go_enter Tryz.func9, Tryz.ntmps9
  go_wp2_with (first | (refine wpList_store rfl _ _ _ 48 (.inr rfl) 47 K inj Tryz.underlying48 rfl (by assumption) _ rfl (k1 _) 14 rfl ?_; intro w1 h1 g1; have bb := below_row (by assumption) g1 (Nat.le_refl _)) | (refine wpList_store rfl _ _ _ 48 (.inr rfl) 47 K inj Tryz.underlying48 rfl (by assumption) _ rfl (k1 _) 15 rfl ?_; intro w1 h1 g1; have bb := below_row (by assumption) g1 (Nat.le_refl _)) | (refine wpList_store rfl _ _ _ 48 (.inr rfl) 47 K inj Tryz.underlying48 rfl (by assumption) _ rfl (k1 _) 16 rfl ?_; intro w1 h1 g1; have bb := below_row (by assumption) g1 (Nat.le_refl _)) | (refine wpList_store rfl _ _ _ 48 (.inr rfl) 47 K inj Tryz.underlying48 rfl (by assumption) _ rfl (k1 _) 17 rfl ?_; intro w1 h1 g1; have bb := below_row (by assumption) g1 (Nat.le_refl _)) | (refine wpList_look_some rfl _ _ 48 rfl 47 K inj Tryz.underlying48 (zf _) rfl (by assumption) _ rfl (k1 _) _ F3 ?_) | go_in)
  go_ret2
  exact ⟨rfl, by assumption⟩
set_option maxHeartbeats 400000 in
theorem quo (a b : Int) (h : (b == 0) = false) (w : World) :
    Calls Tryz.prog 9 #[.string ⟨#[47]⟩, .int .i64 a, .int .i64 b] w fun e w' => e = .returned (.tuple #[.int .i64 (wrap64 (a.tdiv b)), .int .i64 0]) ∧ Below w.heap.size w w' := by
  have h' : ¬ b = 0 := by simpa using h
  have hmm := @run_makeMap Tryz.prog
  have h0 := MapIs.made w Tryz.prog 9 Value.string fv
  have b0 := (Below.refl w.heap.size w).alloc (Nat.le_refl _) (.map #[] 0)
  go_enter Tryz.func9, Tryz.ntmps9
  go_wp2_with (first | (refine wpList_store rfl _ _ _ 48 (.inr rfl) 47 K inj Tryz.underlying48 rfl (by assumption) _ rfl (k1 _) 14 rfl ?_; intro w1 h1 g1; have bb := below_row (by assumption) g1 (Nat.le_refl _)) | (refine wpList_store rfl _ _ _ 48 (.inr rfl) 47 K inj Tryz.underlying48 rfl (by assumption) _ rfl (k1 _) 15 rfl ?_; intro w1 h1 g1; have bb := below_row (by assumption) g1 (Nat.le_refl _)) | (refine wpList_store rfl _ _ _ 48 (.inr rfl) 47 K inj Tryz.underlying48 rfl (by assumption) _ rfl (k1 _) 16 rfl ?_; intro w1 h1 g1; have bb := below_row (by assumption) g1 (Nat.le_refl _)) | (refine wpList_store rfl _ _ _ 48 (.inr rfl) 47 K inj Tryz.underlying48 rfl (by assumption) _ rfl (k1 _) 17 rfl ?_; intro w1 h1 g1; have bb := below_row (by assumption) g1 (Nat.le_refl _)) | (refine wpList_look_some rfl _ _ 48 rfl 47 K inj Tryz.underlying48 (zf _) rfl (by assumption) _ rfl (k1 _) _ F4 ?_) | go_in)
  go_ret2
  exact ⟨rfl, by assumption⟩
set_option maxHeartbeats 400000 in
theorem zero (a : Int) (w : World) :
    Calls Tryz.prog 9 #[.string ⟨#[47]⟩, .int .i64 a, .int .i64 0] w fun e w' => e = .returned (.tuple #[.int .i64 0, .int .i64 11]) ∧ Below w.heap.size w w' := by
  have hmm := @run_makeMap Tryz.prog
  have h0 := MapIs.made w Tryz.prog 9 Value.string fv
  have b0 := (Below.refl w.heap.size w).alloc (Nat.le_refl _) (.map #[] 0)
  go_enter Tryz.func9, Tryz.ntmps9
  go_wp2_with (first | (refine wpList_store rfl _ _ _ 48 (.inr rfl) 47 K inj Tryz.underlying48 rfl (by assumption) _ rfl (k1 _) 14 rfl ?_; intro w1 h1 g1; have bb := below_row (by assumption) g1 (Nat.le_refl _)) | (refine wpList_store rfl _ _ _ 48 (.inr rfl) 47 K inj Tryz.underlying48 rfl (by assumption) _ rfl (k1 _) 15 rfl ?_; intro w1 h1 g1; have bb := below_row (by assumption) g1 (Nat.le_refl _)) | (refine wpList_store rfl _ _ _ 48 (.inr rfl) 47 K inj Tryz.underlying48 rfl (by assumption) _ rfl (k1 _) 16 rfl ?_; intro w1 h1 g1; have bb := below_row (by assumption) g1 (Nat.le_refl _)) | (refine wpList_store rfl _ _ _ 48 (.inr rfl) 47 K inj Tryz.underlying48 rfl (by assumption) _ rfl (k1 _) 17 rfl ?_; intro w1 h1 g1; have bb := below_row (by assumption) g1 (Nat.le_refl _)) | (refine wpList_look_some rfl _ _ 48 rfl 47 K inj Tryz.underlying48 (zf _) rfl (by assumption) _ rfl (k1 _) _ F4 ?_) | go_in)
  go_ret2
  exact ⟨rfl, by assumption⟩
end Go.Proofs.YtnhcgobpkigeoaaGreatDoorRR.num
namespace Go.Tre
open Go.RowKit

theorem wrap64_of {n : Int} (h : -9223372036854775808 ≤ n) (h' : n ≤ 9223372036854775807) : wrap64 n = n := by unfold wrap64; omega
theorem wrap64_lo (n : Int) : -9223372036854775808 ≤ wrap64 n ∧ wrap64 n ≤ 9223372036854775807 := by unfold wrap64; omega
theorem wrap64_emod (n : Int) : ∃ k : Int, wrap64 n = n + 18446744073709551616 * k := by
  refine ⟨-((n + 9223372036854775808) / 18446744073709551616), ?_⟩
  unfold wrap64; omega
theorem wrap64_eq {m n k : Int} (h : m = n + 18446744073709551616 * k) : wrap64 m = wrap64 n := by subst h; unfold wrap64; omega
theorem back (a b : Int) (h : -9223372036854775808 ≤ a) (h' : a ≤ 9223372036854775807) : wrap64 (wrap64 (a + b) - b) = a := by unfold wrap64; omega
/-- what is left, of a divided by b: as of the plain numbers -/
theorem rest_eq (a b : Int) : wrap64 (a - wrap64 (wrap64 (a.tdiv b) * b)) = wrap64 (a.tmod b) := by
  obtain ⟨k, hk⟩ := wrap64_emod (a.tdiv b)
  obtain ⟨j, hj⟩ := wrap64_emod (wrap64 (a.tdiv b) * b)
  have e : a.tmod b = a - a.tdiv b * b := by
    have := Int.tmod_add_mul_tdiv a b; rw [Int.mul_comm] at this; omega
  refine wrap64_eq (k := -(k * b) - j) ?_
  rw [hj, hk, e, Int.add_mul, Int.mul_sub, Int.mul_neg, Int.mul_assoc 18446744073709551616 k b]
  omega
theorem tmod_lo (a b : Int) (hb : 0 < b) : -b < a.tmod b ∧ a.tmod b < b := by
  rcases Int.le_total 0 a with h | h
  · have := Int.tmod_nonneg b h; have := Int.tmod_lt_of_pos a hb; omega
  · have e : a.tmod b = -((-a).tmod b) := by rw [Int.neg_tmod]; omega
    have h1 := Int.tmod_nonneg b (show 0 ≤ -a by omega); have h2 := Int.tmod_lt_of_pos (-a) hb
    omega
theorem tmod_sign (a b : Int) : (0 ≤ a → 0 ≤ a.tmod b) ∧ (a ≤ 0 → a.tmod b ≤ 0) := by
  refine ⟨fun h => Int.tmod_nonneg b h, fun h => ?_⟩
  have e : a.tmod b = -((-a).tmod b) := by rw [Int.neg_tmod]; omega
  have h1 := Int.tmod_nonneg b (show 0 ≤ -a by omega)
  omega
theorem tmod_range (a b : Int) (hb : b ≠ 0) : (0 < b → -b < a.tmod b ∧ a.tmod b < b) ∧ (b < 0 → b < a.tmod b ∧ a.tmod b < -b) := by
  refine ⟨fun h => tmod_lo a b h, fun h => ?_⟩
  have := tmod_lo a (-b) (by omega)
  rw [Int.tmod_neg] at this
  omega
/-- by the least number of all -/
theorem tdiv_least (a : Int) (h : -9223372036854775808 ≤ a) (h' : a ≤ 9223372036854775807) (hne : a ≠ -9223372036854775808) : a.tdiv (-9223372036854775808) = 0 := by
  rw [Int.tdiv_neg]
  rcases Int.le_total 0 a with h0 | h0
  · rw [Int.tdiv_eq_ediv_of_nonneg h0]; omega
  · have e : a.tdiv 9223372036854775808 = -((-a).tdiv 9223372036854775808) := by rw [Int.neg_tdiv]; omega
    rw [e, Int.tdiv_eq_ediv_of_nonneg (by omega)]; omega

theorem wm (a b : Int) : wrap64 (a * wrap64 b) = wrap64 (a * b) := by
  obtain ⟨k, hk⟩ := wrap64_emod b
  exact wrap64_eq (k := a * k) (by rw [hk, Int.mul_add, Int.mul_left_comm])
theorem wm' (a b : Int) : wrap64 (wrap64 a * b) = wrap64 (a * b) := by rw [Int.mul_comm, wm, Int.mul_comm]
theorem wa (a b : Int) : wrap64 (a + wrap64 b) = wrap64 (a + b) := by unfold wrap64; omega
theorem wa' (a b : Int) : wrap64 (wrap64 a + b) = wrap64 (a + b) := by unfold wrap64; omega
theorem ws (a b : Int) : wrap64 (a - wrap64 b) = wrap64 (a - b) := by unfold wrap64; omega
theorem spread (a b c : Int) : wrap64 (a * wrap64 (b + c)) = wrap64 (wrap64 (a * b) + wrap64 (a * c)) := by
  rw [wm, wa, wa', Int.mul_add]
theorem three (a b c : Int) : wrap64 (a + wrap64 (b + c)) = wrap64 (wrap64 (a + b) + c) := by rw [wa, wa', Int.add_assoc]
theorem three' (a b c : Int) : wrap64 (a * wrap64 (b * c)) = wrap64 (wrap64 (a * b) * c) := by rw [wm, wm', Int.mul_assoc]
end Go.Tre
namespace Go.Proofs.YtnhcgobpkigeoaaGreatDoorRR.vb
open Go.RowKit Go.Maps Go.Tre

theorem plus' (a b s : Int) (w : World) (h : wrap64 (a + b) = s) : Calls Tryz.prog 9 #[.string ⟨#[43]⟩, .int .i64 a, .int .i64 b] w fun e w' => e = .returned (.tuple #[.int .i64 s, .int .i64 0]) ∧ Below w.heap.size w w' := h ▸ num.plus a b w
theorem minus' (a b s : Int) (w : World) (h : wrap64 (a - b) = s) : Calls Tryz.prog 9 #[.string ⟨#[45]⟩, .int .i64 a, .int .i64 b] w fun e w' => e = .returned (.tuple #[.int .i64 s, .int .i64 0]) ∧ Below w.heap.size w w' := h ▸ num.minus a b w
theorem times' (a b s : Int) (w : World) (h : wrap64 (a * b) = s) : Calls Tryz.prog 9 #[.string ⟨#[42]⟩, .int .i64 a, .int .i64 b] w fun e w' => e = .returned (.tuple #[.int .i64 s, .int .i64 0]) ∧ Below w.heap.size w w' := h ▸ num.times a b w
theorem quo' (a b s : Int) (w : World) (hb : b ≠ 0) (h : wrap64 (a.tdiv b) = s) : Calls Tryz.prog 9 #[.string ⟨#[47]⟩, .int .i64 a, .int .i64 b] w fun e w' => e = .returned (.tuple #[.int .i64 s, .int .i64 0]) ∧ Below w.heap.size w w' := h ▸ num.quo a b (by simpa using hb) w

theorem pairc (w : World) : Calls Tryz.prog 5 #[.string ⟨#[49]⟩, .string ⟨#[116, 114, 117, 101]⟩] w fun e w' => e = .returned (.string ⟨#[40, 49, 44, 32, 116, 114, 117, 101, 41]⟩) ∧ w = w' := by
  have he : (⟨#[40]⟩ : ByteArray) ++ ⟨#[49]⟩ ++ ⟨#[44, 32]⟩ ++ ⟨#[116, 114, 117, 101]⟩ ++ ⟨#[41]⟩ = ⟨#[40, 49, 44, 32, 116, 114, 117, 101, 41]⟩ := by decide +kernel
  go_enter Tryz.func5, Tryz.ntmps5
  go_wp2
  go_ret
  exact ⟨by first | rfl | (simp [he]; done), rfl⟩

theorem alive (w : World) : Calls Tryz.prog 4 #[] w fun e w' => e = .returned (.bool true) ∧ Below w.heap.size w w' := by
  go_enter Tryz.func4, Tryz.ntmps4
  go_wp2_with fail
  refine (quo' (-7) 2 (-3) _ (by decide) (by decide +kernel)).mono ?_
  rintro e w1 ⟨rfl, b1⟩
  go_wp2_with (first | (go_at_call 5; refine (pairc _).mono ?_; rintro e w' ⟨rfl, rfl⟩) | go_in)
  go_ret
  exact ⟨rfl, b1⟩
end Go.Proofs.YtnhcgobpkigeoaaGreatDoorRR.vb
namespace Go.Tre

/-- words, a blank ahead and one behind each -/
def spaced : List (List UInt8) → List UInt8
  | [] => [32]
  | x :: r => 32 :: (x ++ spaced r)

theorem prefix_word : ∀ (s x r : List UInt8), (∀ c ∈ s, c ≠ 32) → (∀ c ∈ x, c ≠ 32) → (s ++ [32]) <+: (x ++ 32 :: r) → s = x
  | [], [], _, _, _, _ => rfl
  | [], c :: x, r, _, h2, h => by
    obtain ⟨t, ht⟩ := h
    simp at ht
    exact absurd ht.1.symm (h2 c (by simp))
  | a :: s, [], r, h1, _, h => by
    obtain ⟨t, ht⟩ := h
    simp at ht
    exact absurd ht.1 (h1 a (by simp))
  | a :: s, c :: x, r, h1, h2, h => by
    obtain ⟨t, ht⟩ := h
    simp at ht
    obtain ⟨rfl, ht⟩ := ht
    rw [prefix_word s x r (fun c hc => h1 c (by simp [hc])) (fun c hc => h2 c (by simp [hc])) ⟨t, by simpa using ht⟩]

theorem spaced_head : ∀ ws, ∃ r, spaced ws = 32 :: r
  | [] => ⟨[], rfl⟩
  | x :: r => ⟨x ++ spaced r, rfl⟩

theorem infix_skip (n x r : List UInt8) (h : (∀ c ∈ x, c ≠ 32)) (hi : (32 :: n) <:+: (x ++ r)) : (32 :: n) <:+: r := by
  induction x with
  | nil => simpa using hi
  | cons c x ih =>
    rw [List.cons_append, List.infix_cons_iff] at hi
    rcases hi with hi | hi
    · obtain ⟨t, ht⟩ := hi
      simp at ht
      exact absurd ht.1.symm (h c (by simp))
    · exact ih (fun d hd => h d (by simp [hd])) hi

theorem infix_spaced (s : List UInt8) (hs : ∀ c ∈ s, c ≠ 32) (h0 : s ≠ []) : ∀ ws : List (List UInt8), (∀ x ∈ ws, ∀ c ∈ x, c ≠ 32) → ((32 :: (s ++ [32])) <:+: spaced ws ↔ s ∈ ws)
  | [], _ => by
    constructor
    · intro h
      have := h.length_le
      simp [spaced] at this
    · intro h
      cases h
  | x :: ws, hw => by
    have ih := infix_spaced s hs h0 ws (fun y hy => hw y (by simp [hy]))
    obtain ⟨r, hr⟩ := spaced_head ws
    rw [spaced, List.infix_cons_iff]
    constructor
    · rintro (h | h)
      · obtain ⟨t, ht⟩ := h
        simp only [List.cons_append, List.cons.injEq, true_and] at ht
        rw [hr] at ht
        exact List.mem_cons.2 (.inl (prefix_word s x r hs (hw x (by simp)) ⟨t, ht⟩))
      · exact List.mem_cons_of_mem _ (ih.1 (infix_skip _ x _ (hw x (by simp)) h))
    · intro h
      rcases List.mem_cons.1 h with rfl | h
      · refine .inl ⟨r, ?_⟩
        rw [hr]; simp
      · exact .inr ((ih.2 h).trans ⟨x, [], by simp⟩)

theorem index_infix : ∀ (l s : List UInt8), 0 ≤ Lib.index l s ↔ s <:+: l
  | [], s => by
    unfold Lib.index
    cases s with
    | nil => simp
    | cons a s => simp
  | b :: l, s => by
    have ih := index_infix l s
    have hge := Lib.index_ge l s
    unfold Lib.index
    rw [List.infix_cons_iff]
    by_cases h : s.isPrefixOf (b :: l) = true
    · rw [if_pos h]
      have := List.isPrefixOf_iff_prefix.1 h
      simp [this]
    · rw [if_neg h]
      have h' : ¬ s <+: b :: l := fun hp => h (List.isPrefixOf_iff_prefix.2 hp)
      by_cases hm : Lib.index l s = -1
      · have : ¬ s <:+: l := fun hh => by have := ih.2 hh; omega
        simp [hm, h', this]
      · have h2 : 0 ≤ Lib.index l s := by omega
        have : s <:+: l := ih.1 h2
        have hm' : (Lib.index l s == -1) = false := by simpa using hm
        simp only [hm', this, or_true, iff_true]
        simp; omega

/-- the 19 keys -/
def keyWords : List (List UInt8) := [[97, 110, 100], [97, 115], [99, 108, 97, 115, 115], [101, 108, 115, 101], [101, 110, 100], [102, 97, 108, 115, 101], [102, 117, 110], [105, 102], [105, 110], [105, 110, 104, 101, 114, 105, 116], [108, 101, 116], [109, 101, 116, 104, 111, 100], [110, 101, 119], [111, 98, 106, 101, 99, 116], [114, 101, 99], [116, 104, 101, 110], [116, 114, 117, 101], [118, 97, 108], [118, 105, 114, 116, 117, 97, 108]]
def isKey (s : ByteArray) : Bool := keyWords.contains s.data.toList
theorem keyWords_no : ∀ x ∈ keyWords, ∀ c ∈ x, c ≠ 32 := by decide
theorem keyWords_nil : [] ∉ keyWords := by decide
theorem contains_blank (s : List UInt8) : Lib.contains s [32] = decide (32 ∈ s) := by
  unfold Lib.contains
  rw [decide_eq_decide, index_infix]
  constructor
  · rintro ⟨a, b, rfl⟩; simp
  · intro h
    obtain ⟨a, b, rfl⟩ := List.append_of_mem h
    exact ⟨a, b, by simp⟩
theorem contains_keys (s : List UInt8) (h : ¬ 32 ∈ s) (h0 : s ≠ []) : Lib.contains (spaced keyWords) (32 :: (s ++ [32])) = keyWords.contains s := by
  unfold Lib.contains
  rw [Bool.eq_iff_iff, decide_eq_true_iff, index_infix, infix_spaced s (fun c hc e => h (e ▸ hc)) h0 _ keyWords_no]
  simp
end Go.Tre
namespace Go.Tre
open Go.RowKit

theorem hid {p : Prop} (h : p) : Hid p := h

/-- A slice of n elements of sz cells, at address a: its cells, one behind the other, are cs. -/
structure Row (w : World) (sz : Nat) (a : Option Addr) (n : Nat) (cs : List Value) : Prop where
  len : cs.length = n * sz
  at_ : ∀ j u, cs[j]? = some u → ∃ b off, a = some ⟨b, off, none⟩ ∧ w.cell? ⟨b, off + j, none⟩ = some u

theorem cell_below {w w' : World} (h : Below w.heap.size w w') {p : Addr} {v : Value} (hc : w.cell? p = some v) : w'.cell? p = some v :=
  (h.cell (World.block_lt_of_cell? w p hc)).trans hc

theorem Row.below {w w' : World} {sz : Nat} {a : Option Addr} {n : Nat} {cs : List Value} (h : Row w sz a n cs) (hb : Below w.heap.size w w') : Row w' sz a n cs :=
  ⟨h.len, fun j u hu => by obtain ⟨b, off, e, hc⟩ := h.at_ j u hu; exact ⟨b, off, e, cell_below hb hc⟩⟩

structure Node where
  kind : Int
  name : ByteArray
  args : List Int
  labels : List ByteArray
  isOpen : Bool

structure Graph where
  ns : List Node
  root : Int

abbrev IntsAt (w : World) (a : Option Addr) (xs : List Int) : Prop := Row w 1 a xs.length (xs.map (Value.int .i64))
abbrev StrsAt (w : World) (a : Option Addr) (xs : List ByteArray) : Prop := Row w 1 a xs.length (xs.map Value.string)

/-- The five cells from p on, in block b, are a node. -/
def NodeAt (w : World) (b p : Nat) (n : Node) : Prop :=
  ∃ aa ca al cl, w.cell? ⟨b, p, none⟩ = some (.int .i64 n.kind) ∧ w.cell? ⟨b, p + 1, none⟩ = some (.string n.name) ∧ w.cell? ⟨b, p + 2, none⟩ = some (.slice aa n.args.length ca) ∧
    w.cell? ⟨b, p + 3, none⟩ = some (.slice al n.labels.length cl) ∧ w.cell? ⟨b, p + 4, none⟩ = some (.bool n.isOpen) ∧ IntsAt w aa n.args ∧ StrsAt w al n.labels ∧ n.args.length ≤ ca ∧ n.labels.length ≤ cl

structure NodesAt (w : World) (a : Option Addr) (ns : List Node) : Prop where
  at_ : ∀ (k : Nat) (n : Node), ns[k]? = some n → ∃ b off, a = some ⟨b, off, none⟩ ∧ NodeAt w b (off + k * 5) n

theorem NodeAt.below {w w' : World} {b p : Nat} {n : Node} (h : NodeAt w b p n) (hb : Below w.heap.size w w') : NodeAt w' b p n := by
  obtain ⟨aa, ca, al, cl, h0, h1, h2, h3, h4, h5, h6, h7⟩ := h
  exact ⟨aa, ca, al, cl, cell_below hb h0, cell_below hb h1, cell_below hb h2, cell_below hb h3, cell_below hb h4, h5.below hb, h6.below hb, h7⟩

theorem NodesAt.below {w w' : World} {a : Option Addr} {ns : List Node} (h : NodesAt w a ns) (hb : Below w.heap.size w w') : NodesAt w' a ns :=
  ⟨fun k n hk => by
    obtain ⟨b, off, e, hn⟩ := h.at_ k n hk
    exact ⟨b, off, e, hn.below hb⟩⟩

/-- how much a node weighs -/
def Node.weight (n : Node) : Nat := 1 + n.name.size + n.args.length + (n.labels.map fun s => s.size + 1).sum
def Graph.weight (g : Graph) : Nat := (g.ns.map Node.weight).sum

theorem sum_take_succ {α : Type} (f : α → Nat) (l : List α) (k : Nat) (x : α) (h : l[k]? = some x) : ((l.take (k + 1)).map f).sum = ((l.take k).map f).sum + f x := by
  rw [List.take_add_one, h]; simp
theorem sum_take_le {α : Type} (f : α → Nat) (l : List α) (k : Nat) : ((l.take k).map f).sum ≤ (l.map f).sum := by
  have e : (l.map f).sum = ((l.take k).map f).sum + ((l.drop k).map f).sum := by rw [← List.sum_append, ← List.map_append, List.take_append_drop]
  omega
theorem length_le_sum {α : Type} (f : α → Nat) (h : ∀ x, 1 ≤ f x) (l : List α) : l.length ≤ (l.map f).sum := by
  induction l with
  | nil => simp
  | cons x r ih => simp; have := h x; omega
end Go.Tre
