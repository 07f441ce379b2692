/- Laws on a map that a call makes: its block stands for a partial function on plain keys and plain values. Plain: which nodes may be; labels that rise. Layer 2, plain: which types may be, and how deep they are. Great: how much a graph is. slices.Backward over ints: the iterator's contract. After the kit's text on slices.All. A function that goes through loops over functions in a plain loop leaves with many marks. graph.arity, graph.rising. -/
import Derived.WalkKit
import Derived.Maps.OwnSet
import Derived.Maps.Keyed
import Derived.Test.YtljmcmdabdlldaaGreatDoorB00
import Derived.Test.YtljmcmdabdlldaaGreatDoorRows
import Derived.WalkSpells
import Derived.WalkLawsBesides
import Derived.RangeFuncNested
import Derived.RangeFuncBox
import Derived.RangeFuncLeaves
import Derived.Shelf.Abstract
import Derived.OwnWalkIn
import Derived.TacticsInMore
import Derived.LoopNIn
import Derived.LoopIn
set_option linter.unusedVariables false
namespace Go.Tre
open Go.RowKit Go.Maps Go.MapKept Go.ChangeMaps

theorem below_row {w0 w w' : World} {b : Nat} (h : Below w0.heap.size w0 w) (g : w.grownBy w' (some b)) (hb : w0.heap.size ≤ b) : Below w0.heap.size w0 w' :=
 h.grown g h.size (fun k e => by cases e; exact hb)
section
variable {α β : Type} {P : Program} {k : TypeId} {ek : α → Value} {ev : β → Value} {w : World} {b n : Nat} {m : α → Option β}

def MapIs (P : Program) (k : TypeId) (ek : α → Value) (ev : β → Value) (w : World) (b n : Nat) (m : α → Option β) : Prop :=
 ∃ es clock, w.heap[b]? = some (.map es clock) ∧ es.size = n ∧ Stamped es clock ∧
  (∀ e ∈ es.toList, ∃ a x l, e.key = ek a ∧ e.val = ev x ∧ m a = some x ∧ keyOf P k (ek a) = some l) ∧
  (∀ a x, m a = some x → ∃ e ∈ es.toList, e.key = ek a ∧ e.val = ev x)

def upd [DecidableEq α] (m : α → Option β) (a : α) (x : β) : α → Option β := fun a' => if a' = a then some x else m a'

theorem MapIs.made (w : World) (P : Program) (k : TypeId) (ek : α → Value) (ev : β → Value) : MapIs P k ek ev (w.alloc (.map #[] 0)) w.heap.size 0 (fun _ => none) :=
 ⟨#[], 0, (MapKept.heap_alloc w _).1, rfl, stamped_empty 0, by simp, by simp⟩

theorem MapIs.lt (h : MapIs P k ek ev w b n m) : b < w.heap.size := by
 obtain ⟨es, clock, hb, _⟩ := h
 exact (Array.getElem?_eq_some_iff.1 hb).1

theorem MapIs.kept {w' : World} {row : Option Nat} (h : MapIs P k ek ev w b n m) (hg : w.grownBy w' row) (hne : some b ≠ row) : MapIs P k ek ev w' b n m := by
 have hlt := h.lt
 obtain ⟨es, clock, hb, r⟩ := h
 exact ⟨es, clock, (hg.block b hlt hne).trans hb, r⟩

theorem MapIs.block {w' : World} (h : MapIs P k ek ev w b n m) (he : w'.heap[b]? = w.heap[b]?) : MapIs P k ek ev w' b n m := by
 obtain ⟨es, clock, hb, r⟩ := h
 exact ⟨es, clock, he.trans hb, r⟩

theorem MapIs.alloc (h : MapIs P k ek ev w b n m) (o : Obj) : MapIs P k ek ev (w.alloc o) b n m := h.kept (World.grownBy_alloc w o none) (by simp)
theorem MapIs.drew (h : MapIs P k ek ev w b n m) : MapIs P k ek ev w.drew b n m := h

theorem MapIs.find (h : MapIs P k ek ev w b n m) (K : Keyed P k) (inj : ∀ a a', ek a = ek a' → a = a') {a : α} {l : Lit} (hl : keyOf P k (ek a) = some l) :
  ∃ es clock, w.heap[b]? = some (.map es clock) ∧
  ((m a = none ∧ (Instr.findKey k (ek a) es.toList).run P w = .ok none w ∧ ∀ e ∈ es.toList, e.key ≠ ek a) ∨
   (∃ x j e, m a = some x ∧ (Instr.findKey k (ek a) es.toList).run P w = .ok (some (j, ev x)) w ∧ es.toList[j]? = some e ∧ e.key = ek a ∧ e.val = ev x)) := by
 obtain ⟨es, clock, hb, hn, hst, h1, h2⟩ := h
 refine ⟨es, clock, hb, ?_⟩
 rcases K.find w hl es.toList (fun e he => by obtain ⟨a', x, l', e1, _, _, e4⟩ := h1 e he; exact ⟨l', by rw [e1]; exact e4⟩) with ⟨r1, r2⟩ | ⟨j, e, r1, r2, r3⟩
 ·refine .inl ⟨?_, r1, r2⟩
  cases hm : m a with
  | none => rfl
  | some x =>
   obtain ⟨e, he, e1, _⟩ := h2 a x hm
   exact (r2 e he e1).elim
 ·have hmem : e ∈ es.toList := List.mem_of_getElem? r2
  obtain ⟨a', x, l', e1, e2, e3, _⟩ := h1 e hmem
  have : a' = a := inj _ _ (by rw [← e1, r3])
  subst this
  exact .inr ⟨x, j, e, e3, by rw [r1, e2], r2, r3, e2⟩

theorem MapIs.run_look_ok {t e : TypeId} {z : Value} (h : MapIs P k ek ev w b n m) (K : Keyed P k) (inj : ∀ a a', ek a = ek a' → a = a') (ht : P.underlying t = some (.map k e)) (hz : (zeroValue e).run P w = .ok z w)
  {a : α} {l : Lit} (hl : keyOf P k (ek a) = some l) : (Instr.lookup t (.map (some b)) (ek a) true).run P w = .ok (.tuple #[((m a).map ev).getD z, .bool (m a).isSome]) w := by
 obtain ⟨es, clock, hb, ⟨hm, r1, _⟩ | ⟨x, j, e, hm, r1, _, _, r3⟩⟩ := h.find K inj hl
 ·simp [Instr.lookup, run_underlying ht, MapKept.run_getObj_map hb, K.check w _ hl, r1, hz, hm, Result.andThen]
 ·simp [Instr.lookup, run_underlying ht, MapKept.run_getObj_map hb, K.check w _ hl, r1, hm, Result.andThen]

theorem MapIs.run_look {t e : TypeId} {z : Value} (h : MapIs P k ek ev w b n m) (K : Keyed P k) (inj : ∀ a a', ek a = ek a' → a = a') (ht : P.underlying t = some (.map k e)) (hz : (zeroValue e).run P w = .ok z w)
  {a : α} {l : Lit} (hl : keyOf P k (ek a) = some l) : (Instr.lookup t (.map (some b)) (ek a) false).run P w = .ok (((m a).map ev).getD z) w := by
 obtain ⟨es, clock, hb, ⟨hm, r1, _⟩ | ⟨x, j, e, hm, r1, _, _, r3⟩⟩ := h.find K inj hl
 ·simp [Instr.lookup, run_underlying ht, MapKept.run_getObj_map hb, K.check w _ hl, r1, hz, hm, Result.andThen]
 ·simp [Instr.lookup, run_underlying ht, MapKept.run_getObj_map hb, K.check w _ hl, r1, hm, Result.andThen]

theorem modify_set {α : Type} (l : List α) (j : Nat) (f : α → α) (e : α) (h : l[j]? = some e) : l.modify j f = l.set j (f e) := by
 apply List.ext_getElem?
 intro i
 rw [List.getElem?_modify, List.getElem?_set]
 by_cases hij : j = i
 ·subst hij
  have := (List.getElem?_eq_some_iff.1 h).1
  have h' : l[j] = e := by rw [List.getElem?_eq_getElem this] at h; exact Option.some.inj h
  simp [this, h']
 ·simp [hij]

theorem MapIs.run_store [DecidableEq α] {t e : TypeId} (h : MapIs P k ek ev w b n m) (K : Keyed P k) (inj : ∀ a a', ek a = ek a' → a = a') (ht : P.underlying t = some (.map k e))
  {a : α} {l : Lit} (hl : keyOf P k (ek a) = some l) (x : β) :
  ∃ w', (Instr.mapUpdate t (.map (some b)) (ek a) (ev x)).run P w = .ok () w' ∧ MapIs P k ek ev w' b (if (m a).isSome then n else n + 1) (upd m a x) ∧ w.grownBy w' (some b) := by
 have h0 := h
 obtain ⟨es, clock, hb, hn, hst, h1, h2⟩ := h0
 obtain ⟨es0, clock0, hb0, hf⟩ := h.find K inj hl
 rw [hb] at hb0
 cases hb0
 have keep : ∀ es' clock', w.grownBy (setBlock w b (.map es' clock')) (some b) := fun es' clock' => ⟨rfl, rfl, rfl, by simp [setBlock], fun i _ hi => heap_setBlock_other hb _ (fun e => hi (by rw [e]))⟩
 rcases hf with ⟨hm, r1, r2⟩ | ⟨y, j, e0, hm, r1, r2, r3, r4⟩
 ·refine ⟨setBlock w b (.map (es.push ⟨ek a, ev x, clock⟩) (clock + 1)), ?_, ⟨_, _, heap_setBlock_same hb _, by simp [hm, hn], stamped_push hst r2, ?_, ?_⟩, keep _ _⟩
  ·simp [Instr.mapUpdate, run_underlying ht, MapKept.run_getObj_map hb, K.check w false hl, r1, MapKept.run_setObj_map _ hb, Result.andThen, setBlock]
  ·intro e' he'
   simp only [Array.toList_push, List.mem_append, List.mem_singleton] at he'
   rcases he' with he' | rfl
   ·obtain ⟨a', x', l', e1, e2, e3, e4⟩ := h1 e' he'
    have hne : a' ≠ a := fun e => r2 e' he' (by rw [e1, e])
    exact ⟨a', x', l', e1, e2, by simp [upd, hne, e3], e4⟩
   ·exact ⟨a, x, l, rfl, rfl, by simp [upd], hl⟩
  ·intro a' x' ha'
   simp only [Array.toList_push, List.mem_append, List.mem_singleton]
   by_cases hne : a' = a
   ·subst hne
    simp [upd] at ha'
    subst ha'
    exact ⟨_, .inr rfl, rfl, rfl⟩
   ·simp [upd, hne] at ha'
    obtain ⟨e', he', e1, e2⟩ := h2 a' x' ha'
    exact ⟨e', .inl he', e1, e2⟩
 ·have hj : es[j]? = some e0 := by simpa using r2
  have hjl : j < es.toList.length := (List.getElem?_eq_some_iff.1 r2).1
  have hlist : (es.modify j (fun e' => { e' with key := ek a, val := ev x })).toList = es.toList.set j { e0 with key := ek a, val := ev x } := by rw [Array.toList_modify, modify_set _ _ _ _ r2]
  have nod := hst.2.2
  have who : ∀ e' ∈ es.toList.set j { e0 with key := ek a, val := ev x }, e' = { e0 with key := ek a, val := ev x } ∨ (e' ∈ es.toList ∧ e'.key ≠ ek a) := by
   intro e' he'
   obtain ⟨i, hi, ex⟩ := List.getElem_of_mem he'
   rw [List.getElem_set] at ex
   split at ex
   ·exact .inl ex.symm
   ·rename_i hne
    have hi' : i < es.toList.length := by simpa using hi
    refine .inr ⟨ex ▸ List.getElem_mem hi', fun hk => hne ?_⟩
    have e5 : (es.toList.map (·.key))[i]? = (es.toList.map (·.key))[j]? := by
     simp only [List.getElem?_map, r2, List.getElem?_eq_getElem hi', zqd, ex, hk, r3]
    exact ((List.getElem?_inj (by simpa using hi') nod).1 e5).symm
  refine ⟨setBlock w b (.map (es.modify j (fun e' => { e' with key := ek a, val := ev x })) clock), ?_, ⟨_, _, heap_setBlock_same hb _, by simp [hm, hn], stamped_modify hst _ _ (fun _ _ => rfl) (fun e' _ he' => ?_), ?_, ?_⟩, keep _ _⟩
  ·simp [Instr.mapUpdate, run_underlying ht, MapKept.run_getObj_map hb, K.check w false hl, r1, hj, r3, K.stays w hl, MapKept.run_setObj_map _ hb, Result.andThen, setBlock]
  ·rw [hj] at he'; cases he'; exact r3.symm
  ·intro e' he'
   rw [hlist] at he'
   rcases who e' he' with rfl | ⟨he', hne⟩
   ·exact ⟨a, x, l, rfl, rfl, by simp [upd], hl⟩
   ·obtain ⟨a', x', l', e1, e2, e3, e4⟩ := h1 e' he'
    have hne' : a' ≠ a := fun e => hne (by rw [e1, e])
    exact ⟨a', x', l', e1, e2, by simp [upd, hne', e3], e4⟩
  ·intro a' x' ha'
   rw [hlist]
   by_cases hne : a' = a
   ·subst hne
    simp [upd] at ha'
    subst ha'
    exact ⟨{ e0 with key := ek a', val := ev x }, List.mem_iff_getElem.2 ⟨j, by simpa using hjl, by simp⟩, rfl, rfl⟩
   ·simp [upd, hne] at ha'
    obtain ⟨e', he', e1, e2⟩ := h2 a' x' ha'
    obtain ⟨i, hi, ex⟩ := List.getElem_of_mem he'
    have hij : j ≠ i := fun e => by
     subst e
     rw [List.getElem?_eq_getElem hi, ex] at r2
     cases r2
     exact hne (inj _ _ (by rw [← e1, r3]))
    exact ⟨e', List.mem_iff_getElem.2 ⟨i, by simpa using hi, by rw [List.getElem_set_ne hij]; exact ex⟩, e1, e2⟩
end

section
variable {α β : Type} {P : Program} {k : TypeId} {ek : α → Value} {ev : β → Value} {w : World} {b n : Nat} {m : α → Option β}
 {ops : Array Oper} {rest : List Oper} {o : Oper} {a : Act} {Q : Exit → Act → World → Prop}

theorem wpList_look_ok (hg : o.guard = none) (mo xo : Operand) (t : TypeId) (hop : o.op = Op.lookup t mo xo true) (e : TypeId) (K : Keyed P k) (inj : ∀ a a', ek a = ek a' → a = a')
  (ht : P.underlying t = some (.map k e)) {z : Value} (hz : (zeroValue e).run P w = .ok z w) (hm : a.eval mo = .map (some b)) (h : MapIs P k ek ev w b n m) (x : α) (hx : a.eval xo = ek x) {l : Lit} (hl : keyOf P k (ek x) = some l)
  (hK : wpList P ops Q rest (a.put o.dst (.tuple #[((m x).map ev).getD z, .bool (m x).isSome])) w) : wpList P ops Q (o :: rest) a w := by
 refine wpList_plain hg fun K' hK' => ?_
 have hrun := h.run_look_ok K inj ht hz hl
 unfold Oper.wp
 simp [execOp, hop, hm, hx, hrun, Result.andThen]
 exact hK' _ _ hK

theorem wpList_look_some (hg : o.guard = none) (mo xo : Operand) (t : TypeId) (hop : o.op = Op.lookup t mo xo true) (e : TypeId) (K : Keyed P k) (inj : ∀ a a', ek a = ek a' → a = a')
  (ht : P.underlying t = some (.map k e)) {z : Value} (hz : (zeroValue e).run P w = .ok z w) (hm : a.eval mo = .map (some b)) (h : MapIs P k ek ev w b n m) (x : α) (hx : a.eval xo = ek x) {l : Lit} (hl : keyOf P k (ek x) = some l)
  (y : β) (hy : m x = some y) (hK : wpList P ops Q rest (a.put o.dst (.tuple #[ev y, .bool true])) w) : wpList P ops Q (o :: rest) a w :=
 wpList_look_ok hg mo xo t hop e K inj ht hz hm h x hx hl (by rw [hy]; exact hK)

theorem wpList_look_none (hg : o.guard = none) (mo xo : Operand) (t : TypeId) (hop : o.op = Op.lookup t mo xo true) (e : TypeId) (K : Keyed P k) (inj : ∀ a a', ek a = ek a' → a = a')
  (ht : P.underlying t = some (.map k e)) {z : Value} (hz : (zeroValue e).run P w = .ok z w) (hm : a.eval mo = .map (some b)) (h : MapIs P k ek ev w b n m) (x : α) (hx : a.eval xo = ek x) {l : Lit} (hl : keyOf P k (ek x) = some l)
  (hy : m x = none) (hK : wpList P ops Q rest (a.put o.dst (.tuple #[z, .bool false])) w) : wpList P ops Q (o :: rest) a w :=
 wpList_look_ok hg mo xo t hop e K inj ht hz hm h x hx hl (by rw [hy]; exact hK)

theorem wpList_look (hg : o.guard = none) (mo xo : Operand) (t : TypeId) (hop : o.op = Op.lookup t mo xo false) (e : TypeId) (K : Keyed P k) (inj : ∀ a a', ek a = ek a' → a = a')
  (ht : P.underlying t = some (.map k e)) {z : Value} (hz : (zeroValue e).run P w = .ok z w) (hm : a.eval mo = .map (some b)) (h : MapIs P k ek ev w b n m) (x : α) (hx : a.eval xo = ek x) {l : Lit} (hl : keyOf P k (ek x) = some l)
  (hK : wpList P ops Q rest (a.put o.dst (((m x).map ev).getD z)) w) : wpList P ops Q (o :: rest) a w := by
 refine wpList_plain hg fun K' hK' => ?_
 have hrun := h.run_look K inj ht hz hl
 unfold Oper.wp
 simp [execOp, hop, hm, hx, hrun, Result.andThen]
 exact hK' _ _ hK

theorem wpList_look1_some (hg : o.guard = none) (mo xo : Operand) (t : TypeId) (hop : o.op = Op.lookup t mo xo false) (e : TypeId) (K : Keyed P k) (inj : ∀ a a', ek a = ek a' → a = a')
  (ht : P.underlying t = some (.map k e)) {z : Value} (hz : (zeroValue e).run P w = .ok z w) (hm : a.eval mo = .map (some b)) (h : MapIs P k ek ev w b n m) (x : α) (hx : a.eval xo = ek x) {l : Lit} (hl : keyOf P k (ek x) = some l)
  (y : β) (hy : m x = some y) (hK : wpList P ops Q rest (a.put o.dst (ev y)) w) : wpList P ops Q (o :: rest) a w :=
 wpList_look hg mo xo t hop e K inj ht hz hm h x hx hl (by rw [hy]; exact hK)

theorem wpList_look1_none (hg : o.guard = none) (mo xo : Operand) (t : TypeId) (hop : o.op = Op.lookup t mo xo false) (e : TypeId) (K : Keyed P k) (inj : ∀ a a', ek a = ek a' → a = a')
  (ht : P.underlying t = some (.map k e)) {z : Value} (hz : (zeroValue e).run P w = .ok z w) (hm : a.eval mo = .map (some b)) (h : MapIs P k ek ev w b n m) (x : α) (hx : a.eval xo = ek x) {l : Lit} (hl : keyOf P k (ek x) = some l)
  (hy : m x = none) (hK : wpList P ops Q rest (a.put o.dst z) w) : wpList P ops Q (o :: rest) a w :=
 wpList_look hg mo xo t hop e K inj ht hz hm h x hx hl (by rw [hy]; exact hK)

theorem wpList_store [DecidableEq α] (hg : o.guard = none) (mo xo vo : Operand) (t : TypeId) (hop : o.op = Op.mapUpdate t mo xo vo ∨ o.op = Op.insert t mo xo vo) (e : TypeId) (K : Keyed P k) (inj : ∀ a a', ek a = ek a' → a = a')
  (ht : P.underlying t = some (.map k e)) (hm : a.eval mo = .map (some b)) (h : MapIs P k ek ev w b n m) (x : α) (hx : a.eval xo = ek x) {l : Lit} (hl : keyOf P k (ek x) = some l) (y : β) (hy : a.eval vo = ev y)
  (hK : ∀ w', MapIs P k ek ev w' b (if (m x).isSome then n else n + 1) (upd m x y) → w.grownBy w' (some b) → wpList P ops Q rest (a.put o.dst undef) w') : wpList P ops Q (o :: rest) a w := by
 refine wpList_plain hg fun K' hK' => ?_
 obtain ⟨w', hrun, r1, r2⟩ := h.run_store K inj ht hl y
 unfold Oper.wp
 rcases hop with hop | hop
 ·simp [execOp, hop, hm, hx, hy, hrun, Result.andThen]
  exact hK' _ _ (hK w' r1 r2)
 ·simp [execOp, hop, hm, hx, hy, hrun, Result.andThen]
  exact hK' _ _ (hK w' r1 r2)
end

end Go.Tre
namespace Go.Tre
def arity : ByteArray → Option Int := upd (upd (upd (upd (upd (upd (fun _ => none) ⟨#[105, 110, 116]⟩ 0) ⟨#[98, 111, 111, 108]⟩ 0) ⟨#[115, 116, 114, 105, 110, 103]⟩ 0) ⟨#[117, 110, 105, 116]⟩ 0) ⟨#[45, 62]⟩ 2) ⟨#[42]⟩ 2
def labelOk (l : List ByteArray) (i : Nat) : Bool := isName (l.getD i ByteArray.empty) && (i == 0 || Op.bytesLess (l.getD (i - 1) ByteArray.empty).toList (l.getD i ByteArray.empty).toList)
def rising (l : List ByteArray) : Bool := (List.range l.length).all (labelOk l)
def idxFunc {α : Type} (p : α → Bool) (xs : List α) : Int := if xs.findIdx p < xs.length then (xs.findIdx p : Int) else -1
theorem idxFunc_hit {α : Type} {p : α → Bool} {xs : List α} {k : Nat} (h : k < xs.length) (hp : p xs[k] = true) (hn : ∀ j (hj : j < xs.length), j < k → p xs[j] = false) : idxFunc p xs = k := by
 have : xs.findIdx p = k := (List.findIdx_eq h).2 ⟨hp, fun j hj => hn j (by omega) hj⟩
 unfold idxFunc; rw [this, if_pos h]
theorem idxFunc_miss {α : Type} {p : α → Bool} {xs : List α} (hn : ∀ j (hj : j < xs.length), p xs[j] = false) : idxFunc p xs = -1 := by
 have : xs.findIdx p = xs.length := List.findIdx_eq_length.2 (fun x hx => by
  obtain ⟨j, hj, rfl⟩ := List.getElem_of_mem hx
  exact hn j hj)
 unfold idxFunc; rw [this, if_neg (by omega)]
theorem idxFunc_any {α : Type} (p : α → Bool) (xs : List α) : decide (0 ≤ idxFunc p xs) = xs.any p := by
 unfold idxFunc
 by_cases h : xs.findIdx p < xs.length
 ·rw [if_pos h]
  have := (List.any_eq_true (l := xs) (p := p)).2 (List.findIdx_lt_length.1 h)
  rw [this]; simp
 ·rw [if_neg h]
  have : xs.any p = false := by
   rw [← Bool.not_eq_true, List.any_eq_true]
   exact fun e => h (List.findIdx_lt_length.2 e)
  rw [this]; rfl
def outside (size : Nat) (a : Int) : Bool := decide (a < 0) || decide ((size : Int) ≤ a)
def mayB (n : Node) (size : Nat) : Bool :=
 !(n.args.any (outside size)) &&
 (if n.kind = 1 then decide (n.labels.length = 0) && !n.isOpen && decide (n.name.size = 0) && decide (n.args.length = 0)
  else if n.kind = 2 then decide (n.labels.length = 0) && !n.isOpen && (match arity n.name with | some k => decide ((n.args.length : Int) = k) | none => false)
  else if n.kind = 3 then decide (n.name.size = 0) && decide (n.labels.length = n.args.length) && rising n.labels
  else false)
end Go.Tre
namespace Go.Proofs.YtljmcmdabdlldaaGreatDoor.gr
open Go.RowKit Go.Maps Go.Tre lex

theorem K : Keyed Tryz.prog 9 := string_keyed Tryz.underlying9
theorem inj (a b : ByteArray) (h : Value.string a = Value.string b) : a = b := by injection h
theorem ky (s : ByteArray) (h : s.size ≤ maxLen) : keyOf Tryz.prog 9 (.string s) = some (.string s.data.toList) := by
 simp [keyOf, Tryz.underlying9, mapKey, h]
abbrev ei (n : Int) : Value := .int .i64 n
theorem labels_small {s : ByteArray} {l : List ByteArray} (h : s ∈ l) (hb : (l.map fun s => s.size + 1).sum ≤ 8388608) : s.size ≤ 8388608 := by
 have : ∀ l : List ByteArray, s ∈ l → s.size + 1 ≤ (l.map fun s => s.size + 1).sum := fun l => by
  induction l with
  | nil => intro h; cases h
  | cons x r ih =>
   intro h
   simp only [List.map_cons, List.sum_cons]
   rcases List.mem_cons.1 h with rfl | h
   ·omega
   ·have := ih h; omega
 have := this l h
 omega
end Go.Proofs.YtljmcmdabdlldaaGreatDoor.gr
namespace Go.Tre
def wordB (s : List UInt8) : Bool := isName ⟨s.toArray⟩ || isKey ⟨s.toArray⟩
def byteStrs (l : List (List UInt8)) : List ByteArray := l.map fun x => ⟨x.toArray⟩
def ownT (k : Nat) (s : List UInt8) (n : Nat) (labels : List (List UInt8)) (o : Bool) : Bool :=
 if k = 3 then decide (s = []) && (decide (labels.length = n) && rising (byteStrs labels))
 else if 0 < labels.length ∨ o = true then false
 else if k = 1 then wordB s && decide (n = 0)
 else if k = 4 then wordB s && decide (n = 1)
 else if k = 2 then (if s = [45, 62] ∨ s = [42] then decide (n = 2) else decide (n = 0) && basics.contains s)
 else false
mutual
def walkT : Ty → Int
 | .mk k s args labels o => if ownT k s args.length labels o = true then (if walkTs args 0 < 0 then -1 else walkTs args 0 + 1) else -1
def walkTs : List Ty → Int → Int
 | [], d => d
 | t :: r, d => if walkT t < 0 then -1 else walkTs r (max d (walkT t))
end
def verdictI (d : Int) : Int := if d < 0 then 2 else if 200 < d then 4 else 0
mutual
def Ty.weight : Ty → Nat
 | .mk _ s args labels _ => 1 + s.length + (labels.map fun x => x.length + 1).sum + weights args
def weights : List Ty → Nat
 | [] => 0
 | t :: r => t.weight + weights r
end
theorem weight_pos (t : Ty) : 1 ≤ t.weight := by cases t; unfold Ty.weight; omega
theorem weights_at : ∀ {l : List Ty} {i : Nat} {t : Ty}, l[i]? = some t → t.weight ≤ weights l
 | [], i, t, h => by simp at h
 | x :: r, 0, t, h => by simp at h; subst h; unfold weights; omega
 | x :: r, i + 1, t, h => by
  simp at h
  have := weights_at h
  unfold weights; omega
theorem weights_len : ∀ l : List Ty, l.length ≤ weights l
 | [] => by simp [weights]
 | x :: r => by have := weights_len r; have := weight_pos x; unfold weights; simp; omega
theorem walkT_low (t : Ty) : -1 ≤ walkT t := by
 cases t with
 | mk k s args labels o => unfold walkT; split <;> (try split) <;> omega
mutual
theorem walkT_weight : ∀ t : Ty, walkT t ≤ t.weight
 | .mk k s args labels o => by
  have := walkTs_weight args 0
  unfold walkT Ty.weight
  split
  ·split <;> omega
  ·omega
theorem walkTs_weight : ∀ (l : List Ty) (d : Int), walkTs l d ≤ max d (weights l)
 | [], d => by unfold walkTs; omega
 | t :: r, d => by
  have h1 := walkT_weight t
  have h2 := walkTs_weight r (max d (walkT t))
  unfold walkTs weights
  split <;> omega
end
end Go.Tre
namespace Go.Tre
def big (s : ByteArray) : Nat := if 1000 < s.size then 1000 else 0
def Node.great (n : Node) : Nat := n.args.length + n.labels.length + big n.name + (n.labels.map big).sum
def Graph.great (g : Graph) : Nat := g.ns.length + (g.ns.map Node.great).sum
end Go.Tre
namespace Go.Tre
def upto {α : Type} (f : Nat → α) (k : Nat) : List α := (List.range k).map f
theorem upto_succ {α : Type} (f : Nat → α) (k : Nat) : upto f (k + 1) = upto f k ++ [f k] := by simp [upto, List.range_succ]
theorem upto_length {α : Type} (f : Nat → α) (k : Nat) : (upto f k).length = k := by simp [upto]
def IntsIn (n : Nat) (w : World) (a : Option Addr) (xs : List Nat) : Prop :=
 ∀ (j u : Nat), xs[j]? = some u → ∃ b off, a = some ⟨b, off, none⟩ ∧ b < n ∧ w.cell? ⟨b, off + j, none⟩ = some (.int .i64 (u : Int))
open Go.RowKit in
theorem IntsIn.below {n : Nat} {w w' : World} {a : Option Addr} {xs : List Nat} (h : IntsIn n w a xs) (hb : Below n w w') : IntsIn n w' a xs :=
 fun j u hu => by
  obtain ⟨b, off, e, hl, hc⟩ := h j u hu
  exact ⟨b, off, e, hl, (hb.cell (p := ⟨b, off + j, none⟩) hl).trans hc⟩
open Go.RowKit in
def KeepBox (n Bs : Nat) (w w' : World) : Prop := Below n w w' ∧ w'.heap[Bs]? = w.heap[Bs]?
open Go.RowKit in
theorem KeepBox.refl (n Bs : Nat) (w : World) : KeepBox n Bs w w := ⟨Below.refl _ _, rfl⟩
open Go.RowKit in
theorem KeepBox.trans {n Bs : Nat} {a b c : World} (h : KeepBox n Bs a b) (k : KeepBox n Bs b c) : KeepBox n Bs a c := ⟨h.1.trans k.1, k.2.trans h.2⟩
open Go.RowKit in
theorem KeepBox.cell {n Bs : Nat} {a b : World} (h : KeepBox n Bs a b) {v : Value} (hc : a.cell? ⟨Bs, 0, none⟩ = some v) : b.cell? ⟨Bs, 0, none⟩ = some v := by
 simp only [World.cell?, h.2] at hc ⊢; exact hc
def back (xs : List Nat) (j : Nat) : Nat × Nat := (xs.length - 1 - j, xs[xs.length - 1 - j]?.getD 0)
end Go.Tre
namespace Go.Proofs.YtljmcmdabdlldaaGreatDoor.gr
open Go.RowKit Go.Shelf Go.Tre
attribute [local go_sem] Oper.semAt_some

set_option maxRecDepth 100000 in
set_option maxHeartbeats 2000000 in
theorem back1_in (F : Fence) (n : Nat) (hf : F.fn 66) (hro : F.round = none) (hn : 1 ≤ n) (l Bs n₀ : Nat) (a : Option Addr) (cap : Nat) (xs : List Nat) (hlen : xs.length ≤ 8388608) (J Jx : List (Nat × Nat) → World → Prop)
  (hY : ∀ pre x W, J pre W → pre.length < xs.length → YieldAt F (n - 1) Tryz.prog l #[.int .i64 (x.1 : Int), .int .i64 (x.2 : Int)] W fun e W' =>
   (e = .returned (.bool true) ∧ J (pre ++ [x]) W' ∧ KeepBox n₀ Bs W W') ∨ (e = .returned (.bool false) ∧ Jx (pre ++ [x]) W'))
  (W : World) (hBs : W.cell? ⟨Bs, 0, none⟩ = some (.slice a xs.length cap)) (hc : IntsIn n₀ W a xs) (h0 : J [] W) :
  CallsIn F n Tryz.prog 66 #[.func (.yield l) #[] #[], .pointer (some ⟨Bs, 0, none⟩)] W fun e W' => (∃ v, e = .returned v) ∧
   ((∃ ys, ys = upto (back xs) xs.length ∧ J ys W') ∨ (∃ pre, (∃ k, k ≤ xs.length ∧ pre = upto (back xs) k) ∧ Jx pre W')) := by
 refine callsIn_of_wp Tryz.func66 rfl hf ?_ hro
 simp only [Tryz.ntmps66, List.size_toArray, List.length_cons, List.length_nil, Nat.reduceAdd, Nat.reduceSub, Array.replicate_succ, Array.replicate_zero, List.push_toArray, List.append_toArray, List.nil_append, List.cons_append]
 have HC := Tre.hid hc
 clear hc
 gi_wp2
 gi_loopw [3] (fun i wr => ∃ t k : Nat, t + k = xs.length ∧ i = .int .i64 ((t : Int) - 1) ∧ J (upto (back xs) k) wr ∧ KeepBox n₀ Bs W wr)
  (fun i _ => (intOf i + 1).toNat)
 case atStart => exact ⟨xs.length, 0, rfl, rfl, h0, KeepBox.refl _ _ _⟩
 case round =>
  obtain ⟨t, k, hk, rfl, hJs, hnx⟩ := hrel
  have HK := Tre.hid hk
  clear hk
  cases t with
  | zero =>
   gi_wp2
   go_end0
   have := HK.out
   exact ⟨⟨_, rfl⟩, .inl ⟨_, by rw [← this]; simp, hJs⟩⟩
  | succ t =>
   rw [show (((t + 1 : Nat) : Int) - 1) = (t : Int) by omega]
   have hlt : t < xs.length := by have := HK.out; omega
   have hkl : k < xs.length := by have := HK.out; omega
   obtain ⟨b, off, rfl, hb, hcx⟩ := (HC.out.below hnx.1) t xs[t] (List.getElem?_eq_getElem hlt)
   have eb : back xs k = (t, xs[t]) := by
    have := HK.out
    unfold back
    rw [show xs.length - 1 - k = t by omega, List.getElem?_eq_getElem hlt]; rfl
   have hbs : wr.cell? ⟨Bs, 0, none⟩ = some (.slice (some ⟨b, off, none⟩) xs.length cap) := hnx.cell hBs
   obtain ⟨fn, tmps, assign, body, hy, hR⟩ := hY _ (t, xs[t]) wr hJs (by rw [upto_length]; exact hkl)
   dsimp only at hy hR
   generalize hx : xs[t] = x at *
   have HX := Tre.hid hx
   have EB := Tre.hid eb
   have i1 : (0 : Int) ≤ t := by omega
   have i2 : (t : Int) < xs.length := by omega
   clear hx eb
   gi_wp2
   refine hR.mono ?_
   rintro e W3 (⟨rfl, hJ3, hk3⟩ | ⟨rfl, hJx3⟩)
   ·gi_wp2
    go_roundw
    case rel => exact ⟨t, k + 1, by have := HK.out; omega, by simp, by rw [upto_succ, EB.out]; exact hJ3, hnx.trans hk3⟩
    case measure => simp [intOf]
   ·gi_wp2
    refine bodyPost_ret (results_none rfl _ _ _) rfl ?_
    exact ⟨⟨_, rfl⟩, .inr ⟨_, ⟨k + 1, by omega, by rw [upto_succ, EB.out]⟩, hJx3⟩⟩

set_option maxHeartbeats 1000000 in
theorem back_in (F : Fence) (n : Nat) (hf : F.fn 53) (hro : F.round = none) (a : Option Addr) (len cap : Nat) (w : World) :
  CallsIn F n Tryz.prog 53 #[.slice a len cap] w fun e w' => e = .returned (.func (.func 66) #[] #[.pointer (some ⟨w.heap.size, 0, none⟩)]) ∧ w' = w.alloc (.cells #[.slice a len cap] 37) := by
 refine callsIn_of_wp Tryz.func53 rfl hf ?_ hro
 simp only [Tryz.ntmps53, List.size_toArray, List.length_cons, List.length_nil, Nat.reduceAdd, Nat.reduceSub, Array.replicate_succ, Array.replicate_zero, List.push_toArray, List.append_toArray, List.nil_append, List.cons_append]
 gi_wp2
 go_ret
 exact ⟨rfl, rfl⟩

theorem back_stops (F : Fence) (n : Nat) (hf : F.fn 66) (hro : F.round = none) (hn : 1 ≤ n) (Bs n₀ : Nat) (a : Option Addr) (cap : Nat) (xs : List Nat) (hlen : xs.length ≤ 8388608) (w : World) (hB : Bs < w.heap.size) (hn₀ : n₀ ≤ w.heap.size)
  (hc : w.cell? ⟨Bs, 0, none⟩ = some (.slice a xs.length cap)) (hI : IntsIn n₀ w a xs) :
  SeqStopsK F n Tryz.prog 66 #[.pointer (some ⟨Bs, 0, none⟩)] (fun x : Nat × Nat => #[Value.int .i64 (x.1 : Int), Value.int .i64 (x.2 : Int)]) (KeepBox n₀ Bs) (fun ys => ys = upto (back xs) xs.length)
   (fun pre => ∃ k, k ≤ xs.length ∧ pre = upto (back xs) k) xs.length w := fun l J Jx W hW _ _ hY h0 => by
 have hc' := (hW.cell (p := ⟨Bs, 0, none⟩) hB).trans hc
 exact back1_in F n hf hro hn l Bs n₀ a cap xs hlen J Jx hY W hc' (hI.below (hW.mono hn₀)) h0
end Go.Proofs.YtljmcmdabdlldaaGreatDoor.gr
namespace Go.Tre
open Go.RowKit Go.Shelf
def mark (D : Nat) : Deferred := { target := .collected D, args := #[] }
def Marks (base : Nat) (w : World) (Ds : List Nat) : Prop := Ds.Nodup ∧ ∀ D ∈ Ds, base ≤ D ∧ w.heap[D]? = some (.deferred (some []))
def CellsKept (w w' : World) : Prop := ∀ (b : Nat) (cs : Array Value) (t : TypeId) (z : Nat × Nat), w.heap[b]? = some (.cells cs t z) → w'.heap[b]? = some (.cells cs t z)
theorem leaves_marks {F : Fence} {n : Nat} {P : Program} {fn : Func} {tmps : Array Value} {R : Ending → World → Prop} {u : FrameMode} (hu : u ≠ .run) (base : Nat) : ∀ (Ds : List Nat) (w : World), Marks base w Ds →
  (∀ w', Below base w w' → CellsKept w w' → LeavesInM F n P fn tmps R [] u w') → LeavesInM F n P fn tmps R (Ds.map mark) u w
 | [], w, _, h => h w (Below.refl _ _) (fun _ _ _ _ e => e)
 | D :: Ds, w, hm, h => by
  obtain ⟨hn, hd⟩ := hm
  have hK := (hd D (by simp)).2
  have hg := grownBy_putObj' w D (.deferred none)
  refine ⟨hu, .inl ⟨D, _, rfl, run_takeDeferred hK, ?_⟩⟩
  refine leaves_marks hu base Ds _ ⟨(List.nodup_cons.1 hn).2, fun E hE => ⟨(hd E (by simp [hE])).1, ?_⟩⟩ (fun w' hb hc => h w' ?_ ?_)
  ·have hne : E ≠ D := fun e => (List.nodup_cons.1 hn).1 (e ▸ hE)
   have hk := (hd E (by simp [hE])).2
   exact (hg.block E (Array.getElem?_eq_some_iff.1 hk).1 (by simpa using hne)).trans hk
  ·have hlt := (Array.getElem?_eq_some_iff.1 hK).1
   exact Below.trans (Below.mk hg.os hg.tape hg.output hg.size (fun k hk => hg.block k (by have := (hd D (by simp)).1; omega) (by have := (hd D (by simp)).1; simp; omega))) hb
  ·intro b cs t z e
   refine hc b cs t z ((hg.block b (Array.getElem?_eq_some_iff.1 e).1 ?_).trans e)
   intro e'
   cases e'
   rw [hK] at e; cases e
end Go.Tre
namespace Go.Proofs.YtljmcmdabdlldaaGreatDoor.gr
open Go.RowKit Go.Maps Go.Tre lex
set_option maxHeartbeats 1000000 in
theorem arity_any (w : World) :
  Calls Tryz.prog 24 #[] w fun e w' => e = .returned (.map (some w.heap.size)) ∧ MapIs Tryz.prog 9 Value.string ei w' w.heap.size 6 arity ∧ Below w.heap.size w w' := by
 have hmm := @run_makeMap Tryz.prog
 have h0 := MapIs.made w Tryz.prog 9 Value.string ei
 have b0 := (Below.refl w.heap.size w).alloc (Nat.le_refl _) (.map #[] 0)
 go_enter Tryz.func24, Tryz.ntmps24
 go_wp2_with (first | (refine wpList_store rfl _ _ _ 68 (.inr rfl) 3 K inj Tryz.underlying68 rfl (by assumption) ⟨#[105, 110, 116]⟩ rfl (ky ⟨#[105, 110, 116]⟩ (by decide)) 0 rfl ?_; intro w1 h1 g1; have bb := below_row (by assumption) g1 (Nat.le_refl _)) | (refine wpList_store rfl _ _ _ 68 (.inr rfl) 3 K inj Tryz.underlying68 rfl (by assumption) ⟨#[98, 111, 111, 108]⟩ rfl (ky ⟨#[98, 111, 111, 108]⟩ (by decide)) 0 rfl ?_; intro w1 h1 g1; have bb := below_row (by assumption) g1 (Nat.le_refl _)) | (refine wpList_store rfl _ _ _ 68 (.inr rfl) 3 K inj Tryz.underlying68 rfl (by assumption) ⟨#[115, 116, 114, 105, 110, 103]⟩ rfl (ky ⟨#[115, 116, 114, 105, 110, 103]⟩ (by decide)) 0 rfl ?_; intro w1 h1 g1; have bb := below_row (by assumption) g1 (Nat.le_refl _)) | (refine wpList_store rfl _ _ _ 68 (.inr rfl) 3 K inj Tryz.underlying68 rfl (by assumption) ⟨#[117, 110, 105, 116]⟩ rfl (ky ⟨#[117, 110, 105, 116]⟩ (by decide)) 0 rfl ?_; intro w1 h1 g1; have bb := below_row (by assumption) g1 (Nat.le_refl _)) | (refine wpList_store rfl _ _ _ 68 (.inr rfl) 3 K inj Tryz.underlying68 rfl (by assumption) ⟨#[45, 62]⟩ rfl (ky ⟨#[45, 62]⟩ (by decide)) 2 rfl ?_; intro w1 h1 g1; have bb := below_row (by assumption) g1 (Nat.le_refl _)) | (refine wpList_store rfl _ _ _ 68 (.inr rfl) 3 K inj Tryz.underlying68 rfl (by assumption) ⟨#[42]⟩ rfl (ky ⟨#[42]⟩ (by decide)) 2 rfl ?_; intro w1 h1 g1; have bb := below_row (by assumption) g1 (Nat.le_refl _)))
 go_ret
 exact ⟨rfl, by assumption, by assumption⟩

set_option maxHeartbeats 2000000 in
theorem rising_any (a : Option Addr) (cap : Nat) (l : List ByteArray) (w : World) (hl : StrsAt w a l) (hb : (l.map fun s => s.size + 1).sum ≤ 8388608) (hm : MaxAt w) :
  Calls Tryz.prog 50 #[.slice a l.length cap] w fun e w' => e = .returned (.bool (rising l)) ∧ w = w' := by
 have hlen : l.length ≤ 8388608 := Nat.le_trans (length_le_sum _ (fun x => by omega) l) hb
 go_enter Tryz.func50, Tryz.ntmps50
 go_wp2_with fail
 go_loop [7] (fun i => ∃ k : Nat, k ≤ l.length ∧ i = .int .i64 k ∧ ∀ j, j < k → labelOk l j = true) (fun i => l.length - (intOf i).toNat)
 case atStart => exact ⟨0, Nat.zero_le _, rfl, fun j h => by omega⟩
 case round =>
  obtain ⟨k, hk, rfl, hrel⟩ := hrel
  have HR := Tre.hid hrel
  clear hrel
  by_cases hlt : k < l.length
  ·obtain ⟨b, off, rfl, hc⟩ := hl.at_ k (.string l[k]) (by simp [List.getElem?_eq_getElem hlt])
   have hsz := labels_small (List.getElem_mem hlt) hb
   have hok : labelOk l k = (isName l[k] && (k == 0 || Op.bytesLess (l.getD (k - 1) ByteArray.empty).toList l[k].toList)) := by
    unfold labelOk; rw [List.getD_eq_getElem?_getD, List.getElem?_eq_getElem hlt, Option.getD_some]
   have no : labelOk l k = false → rising l = false := fun h => by
    unfold rising
    rw [← Bool.not_eq_true, List.all_eq_true]
    exact fun hh => by have := hh k (List.mem_range.2 hlt); rw [h] at this; cases this
   by_cases hn : isName l[k] = true
   ·by_cases hk0 : k = 0
    ·have HO : Hid (labelOk l k = true) := by show _ = _; rw [hok, hn]; simp [hk0]
     have e0 : ¬ (0 : Int) < (k : Int) := by omega
     clear hok no hk0
     go_wp2_with (go_at_call 65; refine (isName_any _ _ hsz hm).mono ?_; rintro e w' ⟨rfl, rfl⟩)
     go_round
     case rel =>
      refine ⟨k + 1, by omega, by go_num, fun j hj => ?_⟩
      by_cases hjk : j = k
      ·rw [hjk]; exact HO.out
      ·exact HR.out j (by omega)
     case measure => simp [intOf]; omega
    ·have hp : k - 1 < l.length := by omega
     obtain ⟨b', off', hbb, hc'⟩ := hl.at_ (k - 1) (.string l[k - 1]) (by simp [List.getElem?_eq_getElem hp])
     cases hbb
     have e0 : (0 : Int) < (k : Int) := by omega
     have e1 : (0 : Int) ≤ (k : Int) - 1 := by omega
     have hgd : l.getD (k - 1) ByteArray.empty = l[k - 1] := by rw [List.getD_eq_getElem?_getD, List.getElem?_eq_getElem hp, Option.getD_some]
     have hb0 : (k == 0) = false := by simpa using hk0
     by_cases hlo : Op.bytesLess l[k - 1].toList l[k].toList = true
     ·have HO : Hid (labelOk l k = true) := by show _ = _; rw [hok, hn, hb0, hgd, hlo]; rfl
      clear hok no hgd hb0
      go_wp2_with (go_at_call 65; refine (isName_any _ _ hsz hm).mono ?_; rintro e w' ⟨rfl, rfl⟩)
      go_round
      case rel =>
       refine ⟨k + 1, by omega, by go_num, fun j hj => ?_⟩
       by_cases hjk : j = k
       ·rw [hjk]; exact HO.out
       ·exact HR.out j (by omega)
      case measure => simp [intOf]; omega
     ·have HO : Hid (rising l = false) := no (by rw [hok, hn, hb0, hgd]; simpa using hlo)
      have hlo' : Op.bytesLess l[k - 1].toList l[k].toList = false := by simpa using hlo
      clear hok no hgd hb0 hlo
      go_wp2_with (go_at_call 65; refine (isName_any _ _ hsz hm).mono ?_; rintro e w' ⟨rfl, rfl⟩)
      go_ret
      exact ⟨ret_bool HO.out.symm, rfl⟩
   ·have hn' : isName l[k] = false := by simpa using hn
    have HO : Hid (rising l = false) := no (by rw [hok, hn']; rfl)
    clear hok no hn
    go_wp2_with (go_at_call 65; refine (isName_any _ _ hsz hm).mono ?_; rintro e w' ⟨rfl, rfl⟩)
    go_ret
    exact ⟨ret_bool HO.out.symm, rfl⟩
  ·have HO : Hid (rising l = true) := by
    show _ = _
    unfold rising
    rw [List.all_eq_true]
    exact fun j hj => HR.out j (by have := List.mem_range.1 hj; omega)
   go_wp2_with fail
   go_ret
   exact ⟨ret_bool HO.out.symm, rfl⟩
end Go.Proofs.YtljmcmdabdlldaaGreatDoor.gr
