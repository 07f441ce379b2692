/- Laws on a map that a call makes: its block stands for a partial function on plain keys and plain values. Plain: which nodes may be; labels that rise. graph.arity, graph.rising. slices.IndexFunc and ContainsFunc over numbers, at whatever function value that answers by a plain test. -/
import Derived.WalkKit
import Derived.Maps.OwnSet
import Derived.Maps.Keyed
import Derived.Test.YtlkfhbmjemjohaaGreatDoorB00
set_option linter.unusedVariables false
namespace Go.Tre
open Go.RowKit Go.Maps Go.MapKept Go.ChangeMaps

theorem below_row {w0 w w' : World} {b : Nat} (h : Below w0.heap.size w0 w) (g : w.grownBy w' (some b)) (hb : w0.heap.size ≤ b) : Below w0.heap.size w0 w' :=
 h.grown g h.size (fun k e => by cases e; exact hb)
section
variable {α β : Type} {P : Program} {k : TypeId} {ek : α → Value} {ev : β → Value} {w : World} {b n : Nat} {m : α → Option β}

def MapIs (P : Program) (k : TypeId) (ek : α → Value) (ev : β → Value) (w : World) (b n : Nat) (m : α → Option β) : Prop :=
 ∃ es clock, w.heap[b]? = some (.map es clock) ∧ es.size = n ∧ Stamped es clock ∧
  (∀ e ∈ es.toList, ∃ a x l, e.key = ek a ∧ e.val = ev x ∧ m a = some x ∧ keyOf P k (ek a) = some l) ∧
  (∀ a x, m a = some x → ∃ e ∈ es.toList, e.key = ek a ∧ e.val = ev x)

def upd [DecidableEq α] (m : α → Option β) (a : α) (x : β) : α → Option β := fun a' => if a' = a then some x else m a'

theorem MapIs.made (w : World) (P : Program) (k : TypeId) (ek : α → Value) (ev : β → Value) : MapIs P k ek ev (w.alloc (.map #[] 0)) w.heap.size 0 (fun _ => none) :=
 ⟨#[], 0, (MapKept.heap_alloc w _).1, rfl, stamped_empty 0, by simp, by simp⟩

theorem MapIs.lt (h : MapIs P k ek ev w b n m) : b < w.heap.size := by
 obtain ⟨es, clock, hb, _⟩ := h
 exact (Array.getElem?_eq_some_iff.1 hb).1

theorem MapIs.kept {w' : World} {row : Option Nat} (h : MapIs P k ek ev w b n m) (hg : w.grownBy w' row) (hne : some b ≠ row) : MapIs P k ek ev w' b n m := by
 have hlt := h.lt
 obtain ⟨es, clock, hb, r⟩ := h
 exact ⟨es, clock, (hg.block b hlt hne).trans hb, r⟩

theorem MapIs.block {w' : World} (h : MapIs P k ek ev w b n m) (he : w'.heap[b]? = w.heap[b]?) : MapIs P k ek ev w' b n m := by
 obtain ⟨es, clock, hb, r⟩ := h
 exact ⟨es, clock, he.trans hb, r⟩

theorem MapIs.alloc (h : MapIs P k ek ev w b n m) (o : Obj) : MapIs P k ek ev (w.alloc o) b n m := h.kept (World.grownBy_alloc w o none) (by simp)
theorem MapIs.drew (h : MapIs P k ek ev w b n m) : MapIs P k ek ev w.drew b n m := h

theorem MapIs.find (h : MapIs P k ek ev w b n m) (K : Keyed P k) (inj : ∀ a a', ek a = ek a' → a = a') {a : α} {l : Lit} (hl : keyOf P k (ek a) = some l) :
  ∃ es clock, w.heap[b]? = some (.map es clock) ∧
  ((m a = none ∧ (Instr.findKey k (ek a) es.toList).run P w = .ok none w ∧ ∀ e ∈ es.toList, e.key ≠ ek a) ∨
   (∃ x j e, m a = some x ∧ (Instr.findKey k (ek a) es.toList).run P w = .ok (some (j, ev x)) w ∧ es.toList[j]? = some e ∧ e.key = ek a ∧ e.val = ev x)) := by
 obtain ⟨es, clock, hb, hn, hst, h1, h2⟩ := h
 refine ⟨es, clock, hb, ?_⟩
 rcases K.find w hl es.toList (fun e he => by obtain ⟨a', x, l', e1, _, _, e4⟩ := h1 e he; exact ⟨l', by rw [e1]; exact e4⟩) with ⟨r1, r2⟩ | ⟨j, e, r1, r2, r3⟩
 ·refine .inl ⟨?_, r1, r2⟩
  cases hm : m a with
  | none => rfl
  | some x =>
   obtain ⟨e, he, e1, _⟩ := h2 a x hm
   exact (r2 e he e1).elim
 ·have hmem : e ∈ es.toList := List.mem_of_getElem? r2
  obtain ⟨a', x, l', e1, e2, e3, _⟩ := h1 e hmem
  have : a' = a := inj _ _ (by rw [← e1, r3])
  subst this
  exact .inr ⟨x, j, e, e3, by rw [r1, e2], r2, r3, e2⟩

theorem MapIs.run_look_ok {t e : TypeId} {z : Value} (h : MapIs P k ek ev w b n m) (K : Keyed P k) (inj : ∀ a a', ek a = ek a' → a = a') (ht : P.underlying t = some (.map k e)) (hz : (zeroValue e).run P w = .ok z w)
  {a : α} {l : Lit} (hl : keyOf P k (ek a) = some l) : (Instr.lookup t (.map (some b)) (ek a) true).run P w = .ok (.tuple #[((m a).map ev).getD z, .bool (m a).isSome]) w := by
 obtain ⟨es, clock, hb, ⟨hm, r1, _⟩ | ⟨x, j, e, hm, r1, _, _, r3⟩⟩ := h.find K inj hl
 ·simp [Instr.lookup, run_underlying ht, MapKept.run_getObj_map hb, K.check w _ hl, r1, hz, hm, Result.andThen]
 ·simp [Instr.lookup, run_underlying ht, MapKept.run_getObj_map hb, K.check w _ hl, r1, hm, Result.andThen]

theorem MapIs.run_look {t e : TypeId} {z : Value} (h : MapIs P k ek ev w b n m) (K : Keyed P k) (inj : ∀ a a', ek a = ek a' → a = a') (ht : P.underlying t = some (.map k e)) (hz : (zeroValue e).run P w = .ok z w)
  {a : α} {l : Lit} (hl : keyOf P k (ek a) = some l) : (Instr.lookup t (.map (some b)) (ek a) false).run P w = .ok (((m a).map ev).getD z) w := by
 obtain ⟨es, clock, hb, ⟨hm, r1, _⟩ | ⟨x, j, e, hm, r1, _, _, r3⟩⟩ := h.find K inj hl
 ·simp [Instr.lookup, run_underlying ht, MapKept.run_getObj_map hb, K.check w _ hl, r1, hz, hm, Result.andThen]
 ·simp [Instr.lookup, run_underlying ht, MapKept.run_getObj_map hb, K.check w _ hl, r1, hm, Result.andThen]

theorem modify_set {α : Type} (l : List α) (j : Nat) (f : α → α) (e : α) (h : l[j]? = some e) : l.modify j f = l.set j (f e) := by
 apply List.ext_getElem?
 intro i
 rw [List.getElem?_modify, List.getElem?_set]
 by_cases hij : j = i
 ·subst hij
  have := (List.getElem?_eq_some_iff.1 h).1
  have h' : l[j] = e := by rw [List.getElem?_eq_getElem this] at h; exact Option.some.inj h
  simp [this, h']
 ·simp [hij]

theorem MapIs.run_store [DecidableEq α] {t e : TypeId} (h : MapIs P k ek ev w b n m) (K : Keyed P k) (inj : ∀ a a', ek a = ek a' → a = a') (ht : P.underlying t = some (.map k e))
  {a : α} {l : Lit} (hl : keyOf P k (ek a) = some l) (x : β) :
  ∃ w', (Instr.mapUpdate t (.map (some b)) (ek a) (ev x)).run P w = .ok () w' ∧ MapIs P k ek ev w' b (if (m a).isSome then n else n + 1) (upd m a x) ∧ w.grownBy w' (some b) := by
 have h0 := h
 obtain ⟨es, clock, hb, hn, hst, h1, h2⟩ := h0
 obtain ⟨es0, clock0, hb0, hf⟩ := h.find K inj hl
 rw [hb] at hb0
 cases hb0
 have keep : ∀ es' clock', w.grownBy (setBlock w b (.map es' clock')) (some b) := fun es' clock' => ⟨rfl, rfl, rfl, by simp [setBlock], fun i _ hi => heap_setBlock_other hb _ (fun e => hi (by rw [e]))⟩
 rcases hf with ⟨hm, r1, r2⟩ | ⟨y, j, e0, hm, r1, r2, r3, r4⟩
 ·refine ⟨setBlock w b (.map (es.push ⟨ek a, ev x, clock⟩) (clock + 1)), ?_, ⟨_, _, heap_setBlock_same hb _, by simp [hm, hn], stamped_push hst r2, ?_, ?_⟩, keep _ _⟩
  ·simp [Instr.mapUpdate, run_underlying ht, MapKept.run_getObj_map hb, K.check w false hl, r1, MapKept.run_setObj_map _ hb, Result.andThen, setBlock]
  ·intro e' he'
   simp only [Array.toList_push, List.mem_append, List.mem_singleton] at he'
   rcases he' with he' | rfl
   ·obtain ⟨a', x', l', e1, e2, e3, e4⟩ := h1 e' he'
    have hne : a' ≠ a := fun e => r2 e' he' (by rw [e1, e])
    exact ⟨a', x', l', e1, e2, by simp [upd, hne, e3], e4⟩
   ·exact ⟨a, x, l, rfl, rfl, by simp [upd], hl⟩
  ·intro a' x' ha'
   simp only [Array.toList_push, List.mem_append, List.mem_singleton]
   by_cases hne : a' = a
   ·subst hne
    simp [upd] at ha'
    subst ha'
    exact ⟨_, .inr rfl, rfl, rfl⟩
   ·simp [upd, hne] at ha'
    obtain ⟨e', he', e1, e2⟩ := h2 a' x' ha'
    exact ⟨e', .inl he', e1, e2⟩
 ·have hj : es[j]? = some e0 := by simpa using r2
  have hjl : j < es.toList.length := (List.getElem?_eq_some_iff.1 r2).1
  have hlist : (es.modify j (fun e' => { e' with key := ek a, val := ev x })).toList = es.toList.set j { e0 with key := ek a, val := ev x } := by rw [Array.toList_modify, modify_set _ _ _ _ r2]
  have nod := hst.2.2
  have who : ∀ e' ∈ es.toList.set j { e0 with key := ek a, val := ev x }, e' = { e0 with key := ek a, val := ev x } ∨ (e' ∈ es.toList ∧ e'.key ≠ ek a) := by
   intro e' he'
   obtain ⟨i, hi, ex⟩ := List.getElem_of_mem he'
   rw [List.getElem_set] at ex
   split at ex
   ·exact .inl ex.symm
   ·rename_i hne
    have hi' : i < es.toList.length := by simpa using hi
    refine .inr ⟨ex ▸ List.getElem_mem hi', fun hk => hne ?_⟩
    have e5 : (es.toList.map (·.key))[i]? = (es.toList.map (·.key))[j]? := by
     simp only [List.getElem?_map, r2, List.getElem?_eq_getElem hi', zqd, ex, hk, r3]
    exact ((List.getElem?_inj (by simpa using hi') nod).1 e5).symm
  refine ⟨setBlock w b (.map (es.modify j (fun e' => { e' with key := ek a, val := ev x })) clock), ?_, ⟨_, _, heap_setBlock_same hb _, by simp [hm, hn], stamped_modify hst _ _ (fun _ _ => rfl) (fun e' _ he' => ?_), ?_, ?_⟩, keep _ _⟩
  ·simp [Instr.mapUpdate, run_underlying ht, MapKept.run_getObj_map hb, K.check w false hl, r1, hj, r3, K.stays w hl, MapKept.run_setObj_map _ hb, Result.andThen, setBlock]
  ·rw [hj] at he'; cases he'; exact r3.symm
  ·intro e' he'
   rw [hlist] at he'
   rcases who e' he' with rfl | ⟨he', hne⟩
   ·exact ⟨a, x, l, rfl, rfl, by simp [upd], hl⟩
   ·obtain ⟨a', x', l', e1, e2, e3, e4⟩ := h1 e' he'
    have hne' : a' ≠ a := fun e => hne (by rw [e1, e])
    exact ⟨a', x', l', e1, e2, by simp [upd, hne', e3], e4⟩
  ·intro a' x' ha'
   rw [hlist]
   by_cases hne : a' = a
   ·subst hne
    simp [upd] at ha'
    subst ha'
    exact ⟨{ e0 with key := ek a', val := ev x }, List.mem_iff_getElem.2 ⟨j, by simpa using hjl, by simp⟩, rfl, rfl⟩
   ·simp [upd, hne] at ha'
    obtain ⟨e', he', e1, e2⟩ := h2 a' x' ha'
    obtain ⟨i, hi, ex⟩ := List.getElem_of_mem he'
    have hij : j ≠ i := fun e => by
     subst e
     rw [List.getElem?_eq_getElem hi, ex] at r2
     cases r2
     exact hne (inj _ _ (by rw [← e1, r3]))
    exact ⟨e', List.mem_iff_getElem.2 ⟨i, by simpa using hi, by rw [List.getElem_set_ne hij]; exact ex⟩, e1, e2⟩
end

section
variable {α β : Type} {P : Program} {k : TypeId} {ek : α → Value} {ev : β → Value} {w : World} {b n : Nat} {m : α → Option β}
 {ops : Array Oper} {rest : List Oper} {o : Oper} {a : Act} {Q : Exit → Act → World → Prop}

theorem wpList_look_ok (hg : o.guard = none) (mo xo : Operand) (t : TypeId) (hop : o.op = Op.lookup t mo xo true) (e : TypeId) (K : Keyed P k) (inj : ∀ a a', ek a = ek a' → a = a')
  (ht : P.underlying t = some (.map k e)) {z : Value} (hz : (zeroValue e).run P w = .ok z w) (hm : a.eval mo = .map (some b)) (h : MapIs P k ek ev w b n m) (x : α) (hx : a.eval xo = ek x) {l : Lit} (hl : keyOf P k (ek x) = some l)
  (hK : wpList P ops Q rest (a.put o.dst (.tuple #[((m x).map ev).getD z, .bool (m x).isSome])) w) : wpList P ops Q (o :: rest) a w := by
 refine wpList_plain hg fun K' hK' => ?_
 have hrun := h.run_look_ok K inj ht hz hl
 unfold Oper.wp
 simp [execOp, hop, hm, hx, hrun, Result.andThen]
 exact hK' _ _ hK

theorem wpList_look_some (hg : o.guard = none) (mo xo : Operand) (t : TypeId) (hop : o.op = Op.lookup t mo xo true) (e : TypeId) (K : Keyed P k) (inj : ∀ a a', ek a = ek a' → a = a')
  (ht : P.underlying t = some (.map k e)) {z : Value} (hz : (zeroValue e).run P w = .ok z w) (hm : a.eval mo = .map (some b)) (h : MapIs P k ek ev w b n m) (x : α) (hx : a.eval xo = ek x) {l : Lit} (hl : keyOf P k (ek x) = some l)
  (y : β) (hy : m x = some y) (hK : wpList P ops Q rest (a.put o.dst (.tuple #[ev y, .bool true])) w) : wpList P ops Q (o :: rest) a w :=
 wpList_look_ok hg mo xo t hop e K inj ht hz hm h x hx hl (by rw [hy]; exact hK)

theorem wpList_look_none (hg : o.guard = none) (mo xo : Operand) (t : TypeId) (hop : o.op = Op.lookup t mo xo true) (e : TypeId) (K : Keyed P k) (inj : ∀ a a', ek a = ek a' → a = a')
  (ht : P.underlying t = some (.map k e)) {z : Value} (hz : (zeroValue e).run P w = .ok z w) (hm : a.eval mo = .map (some b)) (h : MapIs P k ek ev w b n m) (x : α) (hx : a.eval xo = ek x) {l : Lit} (hl : keyOf P k (ek x) = some l)
  (hy : m x = none) (hK : wpList P ops Q rest (a.put o.dst (.tuple #[z, .bool false])) w) : wpList P ops Q (o :: rest) a w :=
 wpList_look_ok hg mo xo t hop e K inj ht hz hm h x hx hl (by rw [hy]; exact hK)

theorem wpList_look (hg : o.guard = none) (mo xo : Operand) (t : TypeId) (hop : o.op = Op.lookup t mo xo false) (e : TypeId) (K : Keyed P k) (inj : ∀ a a', ek a = ek a' → a = a')
  (ht : P.underlying t = some (.map k e)) {z : Value} (hz : (zeroValue e).run P w = .ok z w) (hm : a.eval mo = .map (some b)) (h : MapIs P k ek ev w b n m) (x : α) (hx : a.eval xo = ek x) {l : Lit} (hl : keyOf P k (ek x) = some l)
  (hK : wpList P ops Q rest (a.put o.dst (((m x).map ev).getD z)) w) : wpList P ops Q (o :: rest) a w := by
 refine wpList_plain hg fun K' hK' => ?_
 have hrun := h.run_look K inj ht hz hl
 unfold Oper.wp
 simp [execOp, hop, hm, hx, hrun, Result.andThen]
 exact hK' _ _ hK

theorem wpList_look1_some (hg : o.guard = none) (mo xo : Operand) (t : TypeId) (hop : o.op = Op.lookup t mo xo false) (e : TypeId) (K : Keyed P k) (inj : ∀ a a', ek a = ek a' → a = a')
  (ht : P.underlying t = some (.map k e)) {z : Value} (hz : (zeroValue e).run P w = .ok z w) (hm : a.eval mo = .map (some b)) (h : MapIs P k ek ev w b n m) (x : α) (hx : a.eval xo = ek x) {l : Lit} (hl : keyOf P k (ek x) = some l)
  (y : β) (hy : m x = some y) (hK : wpList P ops Q rest (a.put o.dst (ev y)) w) : wpList P ops Q (o :: rest) a w :=
 wpList_look hg mo xo t hop e K inj ht hz hm h x hx hl (by rw [hy]; exact hK)

theorem wpList_look1_none (hg : o.guard = none) (mo xo : Operand) (t : TypeId) (hop : o.op = Op.lookup t mo xo false) (e : TypeId) (K : Keyed P k) (inj : ∀ a a', ek a = ek a' → a = a')
  (ht : P.underlying t = some (.map k e)) {z : Value} (hz : (zeroValue e).run P w = .ok z w) (hm : a.eval mo = .map (some b)) (h : MapIs P k ek ev w b n m) (x : α) (hx : a.eval xo = ek x) {l : Lit} (hl : keyOf P k (ek x) = some l)
  (hy : m x = none) (hK : wpList P ops Q rest (a.put o.dst z) w) : wpList P ops Q (o :: rest) a w :=
 wpList_look hg mo xo t hop e K inj ht hz hm h x hx hl (by rw [hy]; exact hK)

theorem wpList_store [DecidableEq α] (hg : o.guard = none) (mo xo vo : Operand) (t : TypeId) (hop : o.op = Op.mapUpdate t mo xo vo ∨ o.op = Op.insert t mo xo vo) (e : TypeId) (K : Keyed P k) (inj : ∀ a a', ek a = ek a' → a = a')
  (ht : P.underlying t = some (.map k e)) (hm : a.eval mo = .map (some b)) (h : MapIs P k ek ev w b n m) (x : α) (hx : a.eval xo = ek x) {l : Lit} (hl : keyOf P k (ek x) = some l) (y : β) (hy : a.eval vo = ev y)
  (hK : ∀ w', MapIs P k ek ev w' b (if (m x).isSome then n else n + 1) (upd m x y) → w.grownBy w' (some b) → wpList P ops Q rest (a.put o.dst undef) w') : wpList P ops Q (o :: rest) a w := by
 refine wpList_plain hg fun K' hK' => ?_
 obtain ⟨w', hrun, r1, r2⟩ := h.run_store K inj ht hl y
 unfold Oper.wp
 rcases hop with hop | hop
 ·simp [execOp, hop, hm, hx, hy, hrun, Result.andThen]
  exact hK' _ _ (hK w' r1 r2)
 ·simp [execOp, hop, hm, hx, hy, hrun, Result.andThen]
  exact hK' _ _ (hK w' r1 r2)
end

end Go.Tre
namespace Go.Tre
def arity : ByteArray → Option Int := upd (upd (upd (upd (upd (upd (fun _ => none) ⟨#[105, 110, 116]⟩ 0) ⟨#[98, 111, 111, 108]⟩ 0) ⟨#[115, 116, 114, 105, 110, 103]⟩ 0) ⟨#[117, 110, 105, 116]⟩ 0) ⟨#[45, 62]⟩ 2) ⟨#[42]⟩ 2
def labelOk (l : List ByteArray) (i : Nat) : Bool := isName (l.getD i ByteArray.empty) && (i == 0 || Op.bytesLess (l.getD (i - 1) ByteArray.empty).toList (l.getD i ByteArray.empty).toList)
def rising (l : List ByteArray) : Bool := (List.range l.length).all (labelOk l)
def idxFunc {α : Type} (p : α → Bool) (xs : List α) : Int := if xs.findIdx p < xs.length then (xs.findIdx p : Int) else -1
theorem idxFunc_hit {α : Type} {p : α → Bool} {xs : List α} {k : Nat} (h : k < xs.length) (hp : p xs[k] = true) (hn : ∀ j (hj : j < xs.length), j < k → p xs[j] = false) : idxFunc p xs = k := by
 have : xs.findIdx p = k := (List.findIdx_eq h).2 ⟨hp, fun j hj => hn j (by omega) hj⟩
 unfold idxFunc; rw [this, if_pos h]
theorem idxFunc_miss {α : Type} {p : α → Bool} {xs : List α} (hn : ∀ j (hj : j < xs.length), p xs[j] = false) : idxFunc p xs = -1 := by
 have : xs.findIdx p = xs.length := List.findIdx_eq_length.2 (fun x hx => by
  obtain ⟨j, hj, rfl⟩ := List.getElem_of_mem hx
  exact hn j hj)
 unfold idxFunc; rw [this, if_neg (by omega)]
theorem idxFunc_any {α : Type} (p : α → Bool) (xs : List α) : decide (0 ≤ idxFunc p xs) = xs.any p := by
 unfold idxFunc
 by_cases h : xs.findIdx p < xs.length
 ·rw [if_pos h]
  have := (List.any_eq_true (l := xs) (p := p)).2 (List.findIdx_lt_length.1 h)
  rw [this]; simp
 ·rw [if_neg h]
  have : xs.any p = false := by
   rw [← Bool.not_eq_true, List.any_eq_true]
   exact fun e => h (List.findIdx_lt_length.2 e)
  rw [this]; rfl
def outside (size : Nat) (a : Int) : Bool := decide (a < 0) || decide ((size : Int) ≤ a)
def mayB (n : Node) (size : Nat) : Bool :=
 !(n.args.any (outside size)) &&
 (if n.kind = 1 then decide (n.labels.length = 0) && !n.isOpen && decide (n.name.size = 0) && decide (n.args.length = 0)
  else if n.kind = 2 then decide (n.labels.length = 0) && !n.isOpen && (match arity n.name with | some k => decide ((n.args.length : Int) = k) | none => false)
  else if n.kind = 3 then decide (n.name.size = 0) && decide (n.labels.length = n.args.length) && rising n.labels
  else false)
end Go.Tre
namespace Go.Proofs.YtlkfhbmjemjohaaGreatDoor.gr
open Go.RowKit Go.Maps Go.Tre lex

theorem K : Keyed Tryz.prog 9 := string_keyed Tryz.underlying9
theorem inj (a b : ByteArray) (h : Value.string a = Value.string b) : a = b := by injection h
theorem ky (s : ByteArray) (h : s.size ≤ maxLen) : keyOf Tryz.prog 9 (.string s) = some (.string s.data.toList) := by
 simp [keyOf, Tryz.underlying9, mapKey, h]
abbrev ei (n : Int) : Value := .int .i64 n
theorem labels_small {s : ByteArray} {l : List ByteArray} (h : s ∈ l) (hb : (l.map fun s => s.size + 1).sum ≤ 8388608) : s.size ≤ 8388608 := by
 have : ∀ l : List ByteArray, s ∈ l → s.size + 1 ≤ (l.map fun s => s.size + 1).sum := fun l => by
  induction l with
  | nil => intro h; cases h
  | cons x r ih =>
   intro h
   simp only [List.map_cons, List.sum_cons]
   rcases List.mem_cons.1 h with rfl | h
   ·omega
   ·have := ih h; omega
 have := this l h
 omega
end Go.Proofs.YtlkfhbmjemjohaaGreatDoor.gr
namespace Go.Proofs.YtlkfhbmjemjohaaGreatDoor.gr
open Go.RowKit Go.Maps Go.Tre lex
set_option maxHeartbeats 1000000 in
theorem arity_any (w : World) :
  Calls Tryz.prog 12 #[] w fun e w' => e = .returned (.map (some w.heap.size)) ∧ MapIs Tryz.prog 9 Value.string ei w' w.heap.size 6 arity ∧ Below w.heap.size w w' := by
 have hmm := @run_makeMap Tryz.prog
 have h0 := MapIs.made w Tryz.prog 9 Value.string ei
 have b0 := (Below.refl w.heap.size w).alloc (Nat.le_refl _) (.map #[] 0)
 go_enter Tryz.func12, Tryz.ntmps12
 go_wp2_with (first | (refine wpList_store rfl _ _ _ 44 (.inr rfl) 3 K inj Tryz.underlying44 rfl (by assumption) ⟨#[105, 110, 116]⟩ rfl (ky ⟨#[105, 110, 116]⟩ (by decide)) 0 rfl ?_; intro w1 h1 g1; have bb := below_row (by assumption) g1 (Nat.le_refl _)) | (refine wpList_store rfl _ _ _ 44 (.inr rfl) 3 K inj Tryz.underlying44 rfl (by assumption) ⟨#[98, 111, 111, 108]⟩ rfl (ky ⟨#[98, 111, 111, 108]⟩ (by decide)) 0 rfl ?_; intro w1 h1 g1; have bb := below_row (by assumption) g1 (Nat.le_refl _)) | (refine wpList_store rfl _ _ _ 44 (.inr rfl) 3 K inj Tryz.underlying44 rfl (by assumption) ⟨#[115, 116, 114, 105, 110, 103]⟩ rfl (ky ⟨#[115, 116, 114, 105, 110, 103]⟩ (by decide)) 0 rfl ?_; intro w1 h1 g1; have bb := below_row (by assumption) g1 (Nat.le_refl _)) | (refine wpList_store rfl _ _ _ 44 (.inr rfl) 3 K inj Tryz.underlying44 rfl (by assumption) ⟨#[117, 110, 105, 116]⟩ rfl (ky ⟨#[117, 110, 105, 116]⟩ (by decide)) 0 rfl ?_; intro w1 h1 g1; have bb := below_row (by assumption) g1 (Nat.le_refl _)) | (refine wpList_store rfl _ _ _ 44 (.inr rfl) 3 K inj Tryz.underlying44 rfl (by assumption) ⟨#[45, 62]⟩ rfl (ky ⟨#[45, 62]⟩ (by decide)) 2 rfl ?_; intro w1 h1 g1; have bb := below_row (by assumption) g1 (Nat.le_refl _)) | (refine wpList_store rfl _ _ _ 44 (.inr rfl) 3 K inj Tryz.underlying44 rfl (by assumption) ⟨#[42]⟩ rfl (ky ⟨#[42]⟩ (by decide)) 2 rfl ?_; intro w1 h1 g1; have bb := below_row (by assumption) g1 (Nat.le_refl _)))
 go_ret
 exact ⟨rfl, by assumption, by assumption⟩

set_option maxHeartbeats 2000000 in
theorem rising_any (a : Option Addr) (cap : Nat) (l : List ByteArray) (w : World) (hl : StrsAt w a l) (hb : (l.map fun s => s.size + 1).sum ≤ 8388608) (hm : MaxAt w) :
  Calls Tryz.prog 36 #[.slice a l.length cap] w fun e w' => e = .returned (.bool (rising l)) ∧ w = w' := by
 have hlen : l.length ≤ 8388608 := Nat.le_trans (length_le_sum _ (fun x => by omega) l) hb
 go_enter Tryz.func36, Tryz.ntmps36
 go_wp2_with fail
 go_loop [7] (fun i => ∃ k : Nat, k ≤ l.length ∧ i = .int .i64 k ∧ ∀ j, j < k → labelOk l j = true) (fun i => l.length - (intOf i).toNat)
 case atStart => exact ⟨0, Nat.zero_le _, rfl, fun j h => by omega⟩
 case round =>
  obtain ⟨k, hk, rfl, hrel⟩ := hrel
  have HR := Tre.hid hrel
  clear hrel
  by_cases hlt : k < l.length
  ·obtain ⟨b, off, rfl, hc⟩ := hl.at_ k (.string l[k]) (by simp [List.getElem?_eq_getElem hlt])
   have hsz := labels_small (List.getElem_mem hlt) hb
   have hok : labelOk l k = (isName l[k] && (k == 0 || Op.bytesLess (l.getD (k - 1) ByteArray.empty).toList l[k].toList)) := by
    unfold labelOk; rw [List.getD_eq_getElem?_getD, List.getElem?_eq_getElem hlt, Option.getD_some]
   have no : labelOk l k = false → rising l = false := fun h => by
    unfold rising
    rw [← Bool.not_eq_true, List.all_eq_true]
    exact fun hh => by have := hh k (List.mem_range.2 hlt); rw [h] at this; cases this
   by_cases hn : isName l[k] = true
   ·by_cases hk0 : k = 0
    ·have HO : Hid (labelOk l k = true) := by show _ = _; rw [hok, hn]; simp [hk0]
     have e0 : ¬ (0 : Int) < (k : Int) := by omega
     clear hok no hk0
     go_wp2_with (go_at_call 50; refine (isName_any _ _ hsz hm).mono ?_; rintro e w' ⟨rfl, rfl⟩)
     go_round
     case rel =>
      refine ⟨k + 1, by omega, by go_num, fun j hj => ?_⟩
      by_cases hjk : j = k
      ·rw [hjk]; exact HO.out
      ·exact HR.out j (by omega)
     case measure => simp [intOf]; omega
    ·have hp : k - 1 < l.length := by omega
     obtain ⟨b', off', hbb, hc'⟩ := hl.at_ (k - 1) (.string l[k - 1]) (by simp [List.getElem?_eq_getElem hp])
     cases hbb
     have e0 : (0 : Int) < (k : Int) := by omega
     have e1 : (0 : Int) ≤ (k : Int) - 1 := by omega
     have hgd : l.getD (k - 1) ByteArray.empty = l[k - 1] := by rw [List.getD_eq_getElem?_getD, List.getElem?_eq_getElem hp, Option.getD_some]
     have hb0 : (k == 0) = false := by simpa using hk0
     by_cases hlo : Op.bytesLess l[k - 1].toList l[k].toList = true
     ·have HO : Hid (labelOk l k = true) := by show _ = _; rw [hok, hn, hb0, hgd, hlo]; rfl
      clear hok no hgd hb0
      go_wp2_with (go_at_call 50; refine (isName_any _ _ hsz hm).mono ?_; rintro e w' ⟨rfl, rfl⟩)
      go_round
      case rel =>
       refine ⟨k + 1, by omega, by go_num, fun j hj => ?_⟩
       by_cases hjk : j = k
       ·rw [hjk]; exact HO.out
       ·exact HR.out j (by omega)
      case measure => simp [intOf]; omega
     ·have HO : Hid (rising l = false) := no (by rw [hok, hn, hb0, hgd]; simpa using hlo)
      have hlo' : Op.bytesLess l[k - 1].toList l[k].toList = false := by simpa using hlo
      clear hok no hgd hb0 hlo
      go_wp2_with (go_at_call 50; refine (isName_any _ _ hsz hm).mono ?_; rintro e w' ⟨rfl, rfl⟩)
      go_ret
      exact ⟨ret_bool HO.out.symm, rfl⟩
   ·have hn' : isName l[k] = false := by simpa using hn
    have HO : Hid (rising l = false) := no (by rw [hok, hn']; rfl)
    clear hok no hn
    go_wp2_with (go_at_call 50; refine (isName_any _ _ hsz hm).mono ?_; rintro e w' ⟨rfl, rfl⟩)
    go_ret
    exact ⟨ret_bool HO.out.symm, rfl⟩
  ·have HO : Hid (rising l = true) := by
    show _ = _
    unfold rising
    rw [List.all_eq_true]
    exact fun j hj => HR.out j (by have := List.mem_range.1 hj; omega)
   go_wp2_with fail
   go_ret
   exact ⟨ret_bool HO.out.symm, rfl⟩
end Go.Proofs.YtlkfhbmjemjohaaGreatDoor.gr
namespace Go.Proofs.YtlkfhbmjemjohaaGreatDoor.gr
open Go.RowKit Go.Maps Go.Tre lex

set_option maxHeartbeats 2000000 in
theorem indexInts (F : Nat) (caps : Array Value) (hcf : ∀ (args : Array Value) (w : World), (callFunc F args).run Tryz.prog w = .ok (.enter F args) w) (p : Int → Bool)
  (a : Option Addr) (cap : Nat) (xs : List Int) (w : World) (hx : IntsAt w a xs) (hlen : xs.length ≤ 8388608)
  (hF : ∀ x wx, x ∈ xs → Below w.heap.size w wx → Calls Tryz.prog F (#[.int .i64 x] ++ caps) wx fun e w' => e = .returned (.bool (p x)) ∧ Below wx.heap.size wx w') :
  Calls Tryz.prog 39 #[.slice a xs.length cap, .func (.func F) #[] caps] w fun e w' => e = .returned (.int .i64 (idxFunc p xs)) ∧ Below w.heap.size w w' := by
 have HF := Tre.hid hF
 clear hF
 go_enter Tryz.func39, Tryz.ntmps39
 go_wp2_with fail
 go_loopw [8] (fun i wr => ∃ k : Nat, k ≤ xs.length ∧ i = .int .i64 k ∧ (∀ j (hj : j < xs.length), j < k → p xs[j] = false) ∧ Below w.heap.size w wr) (fun i _ => xs.length - (intOf i).toNat)
 case atStart => exact ⟨0, Nat.zero_le _, rfl, fun j _ h => by omega, Below.refl _ _⟩
 case round =>
  obtain ⟨k, hk, rfl, hrel, hb⟩ := hrel
  have HR := Tre.hid hrel
  clear hrel
  by_cases hlt : k < xs.length
  ·obtain ⟨b, off, rfl, hc⟩ := (hx.below hb).at_ k (.int .i64 xs[k]) (by simp [List.getElem?_eq_getElem hlt])
   have hmem := List.getElem_mem hlt
   by_cases hp : p xs[k] = true
   ·have HO := Tre.hid (idxFunc_hit hlt hp HR.out)
    go_wp2_with fail
    refine (HF.out xs[k] _ hmem hb).mono ?_
    rintro e w' ⟨rfl, hb'⟩
    go_wp2_with fail
    go_ret
    exact ⟨ret_int HO.out.symm, hb.trans (hb'.mono hb.size)⟩
   ·have hp' : p xs[k] = false := by simpa using hp
    have HP := Tre.hid hp'
    clear hp
    go_wp2_with fail
    refine (HF.out xs[k] _ hmem hb).mono ?_
    rintro e w' ⟨rfl, hb'⟩
    go_wp2_with fail
    go_roundw
    case rel =>
     refine ⟨k + 1, by omega, by go_num, fun j hj hjk => ?_, hb.trans (hb'.mono hb.size)⟩
     by_cases e : j = k
     ·subst e; exact HP.out
     ·exact HR.out j hj (by omega)
    case measure => simp [intOf]; omega
  ·have HO := Tre.hid (idxFunc_miss (p := p) (xs := xs) (fun j hj => HR.out j hj (by omega)))
   go_wp2_with fail
   go_ret
   exact ⟨ret_int HO.out.symm, hb⟩

set_option maxHeartbeats 1000000 in
theorem containsInts (F : Nat) (caps : Array Value) (hcf : ∀ (args : Array Value) (w : World), (callFunc F args).run Tryz.prog w = .ok (.enter F args) w) (p : Int → Bool)
  (a : Option Addr) (cap : Nat) (xs : List Int) (w : World) (hx : IntsAt w a xs) (hlen : xs.length ≤ 8388608)
  (hF : ∀ x wx, x ∈ xs → Below w.heap.size w wx → Calls Tryz.prog F (#[.int .i64 x] ++ caps) wx fun e w' => e = .returned (.bool (p x)) ∧ Below wx.heap.size wx w') :
  Calls Tryz.prog 34 #[.slice a xs.length cap, .func (.func F) #[] caps] w fun e w' => e = .returned (.bool (xs.any p)) ∧ Below w.heap.size w w' := by
 have HI := Tre.hid (indexInts F caps hcf p a cap xs w hx hlen hF)
 have HA := Tre.hid (idxFunc_any p xs)
 clear hF hx hcf
 go_enter Tryz.func34, Tryz.ntmps34
 go_wp2_with fail
 refine HI.out.mono ?_
 rintro e w' ⟨rfl, hb'⟩
 go_wp2_with fail
 go_ret
 exact ⟨ret_bool HA.out, hb'⟩

theorem may1 (x : Int) (n : Nat) (b : Nat) (w : World) (hc : w.cell? ⟨b, 0, none⟩ = some (.int .i64 n)) :
  Calls Tryz.prog 35 #[.int .i64 x, .pointer (some ⟨b, 0, none⟩)] w fun e w' => e = .returned (.bool (outside n x)) ∧ Below w.heap.size w w' := by
 by_cases h0 : x < 0
 ·have H : Hid (outside n x = true) := by show _ = _; unfold outside; simp [h0]
  go_enter Tryz.func35, Tryz.ntmps35
  go_wp2_with fail
  go_ret
  exact ⟨ret_bool H.out.symm, Below.refl _ _⟩
 ·have H : Hid (outside n x = decide ((n : Int) ≤ x)) := by show _ = _; unfold outside; simp [h0]
  go_enter Tryz.func35, Tryz.ntmps35
  go_wp2_with fail
  go_ret
  exact ⟨ret_bool H.out.symm, Below.refl _ _⟩
end Go.Proofs.YtlkfhbmjemjohaaGreatDoor.gr
