/- solve's classes in memory; a range over a map that tells which entries are still to come. solve: find: the node that a class hangs on; it changes nothing where each hangs on one that hangs on itself. solve: both at two variables, at two constructors. -/
import Derived.Test.YtlkfhbmjemjohaaGreatDoorB07
import Derived.Test.YtlkfhbmjemjohaaGreatDoorB08
import Derived.Deep.DeepCutAuto
set_option linter.unusedVariables false
namespace Go.Tre
open Go.RowKit Go.Maps Go.MapKept Go.ChangeMaps

/-! what a label is mapped to -/
def fieldsK (n : Tre.Node) : Nat → ByteArray → Option Nat
 | 0 => fun _ => none
 | k + 1 => upd (fieldsK n k) (n.labels.getD k ByteArray.empty) ((n.args.getD k 0).toNat)
theorem fieldsK_some {n : Tre.Node} : ∀ {k : Nat} {l : ByteArray} {a : Nat}, fieldsK n k l = some a → ∃ i, i < k ∧ n.labels.getD i ByteArray.empty = l ∧ (n.args.getD i 0).toNat = a
 | 0, _, _, h => by cases h
 | k + 1, l, a, h => by
  unfold fieldsK upd at h
  by_cases e : l = n.labels.getD k ByteArray.empty
  ·rw [if_pos e] at h; cases h; exact ⟨k, by omega, e.symm, rfl⟩
  ·rw [if_neg e] at h
   obtain ⟨i, hi, h1, h2⟩ := fieldsK_some h
   exact ⟨i, by omega, h1, h2⟩
theorem fieldsK_at {n : Tre.Node} (hn : n.labels.Nodup) : ∀ {k i : Nat}, k ≤ n.labels.length → i < k → fieldsK n k (n.labels.getD i ByteArray.empty) = some (n.args.getD i 0).toNat
 | 0, _, _, h => by omega
 | k + 1, i, hk, h => by
  unfold fieldsK upd
  by_cases e : i = k
  ·subst e; rw [if_pos rfl]
  ·have hne : n.labels.getD i ByteArray.empty ≠ n.labels.getD k ByteArray.empty := by
    intro e2
    rw [List.getD_eq_getElem?_getD, List.getD_eq_getElem?_getD, List.getElem?_eq_getElem (show i < n.labels.length by omega), List.getElem?_eq_getElem (show k < n.labels.length by omega)] at e2
    exact e ((List.getElem_inj hn).1 e2)
   rw [if_neg hne]
   exact fieldsK_at hn (by omega) (by omega)
theorem fieldsK_new {n : Tre.Node} (hn : n.labels.Nodup) {k : Nat} (hk : k < n.labels.length) : fieldsK n k (n.labels.getD k ByteArray.empty) = none := by
 cases h : fieldsK n k (n.labels.getD k ByteArray.empty) with
 | none => rfl
 | some a =>
  obtain ⟨i, hi, h1, _⟩ := fieldsK_some h
  rw [List.getD_eq_getElem?_getD, List.getD_eq_getElem?_getD, List.getElem?_eq_getElem (show i < n.labels.length by omega), List.getElem?_eq_getElem hk] at h1
  exact absurd ((List.getElem_inj hn).1 h1) (by omega)

/-! an iterator that tells what is still to come -/
def iterL (r b : Nat) (es : Array MapEntry) (clock : Nat) (left : List MapEntry) : Res where
 own b' := b' = r
 P w := ∃ since seen c0, w.heap[r]? = some (.mapIter (some b) since seen c0) ∧ (∀ x ∈ es.toList, x.born < since) ∧ since ≤ c0 ∧ since ≤ clock ∧ left.Perm (leftOf es seen).toList
 stable w w' h hs := by obtain ⟨s, q, c, hr, rest⟩ := h; exact ⟨s, q, c, (hs r rfl).trans hr, rest⟩
 has w h b' hb := by subst hb; obtain ⟨s, q, c, hr, _⟩ := h; exact (Array.getElem?_eq_some_iff.1 hr).1
def withR (R : Res) (b : Nat) (es : Array MapEntry) (clock : Nat) (hb : R.own b) : Res where
 own := R.own
 P w := R.P w ∧ w.heap[b]? = some (.map es clock)
 stable w w' h hs := ⟨R.stable w w' h.1 hs, (hs b hb).trans h.2⟩
 has w h := R.has w h.1

theorem born_inj2 {es : Array MapEntry} {clock : Nat} (hst : Stamped es clock) {x y : MapEntry} (hx : x ∈ es.toList) (hy : y ∈ es.toList) (h : x.born = y.born) : x = y := by
 have hn := hst.2.1
 rw [List.Nodup, List.pairwise_map] at hn
 obtain ⟨i, hi, rfl⟩ := List.getElem_of_mem hx
 obtain ⟨j, hj, rfl⟩ := List.getElem_of_mem hy
 rw [List.pairwise_iff_getElem] at hn
 rcases Nat.lt_trichotomy i j with h1 | h1 | h1
 ·exact absurd h (hn i j hi hj h1)
 ·subst h1; rfl
 ·exact absurd h.symm (hn j i hj hi h1)
theorem perm_filter_out {α : Type} [DecidableEq α] {f : MapEntry → α} : ∀ {l : List MapEntry} {e : MapEntry}, e ∈ l → (∀ x ∈ l, f x = f e → x = e) → (l.map f).Nodup → l.Perm (e :: l.filter fun x => !decide (f x = f e))
 | [], _, h, _, _ => by cases h
 | a :: r, e, h, hu, hn => by
  rw [List.map_cons, List.nodup_cons] at hn
  by_cases hae : f a = f e
  ·have : a = e := hu a (by simp) hae
   subst this
   have hr : r.filter (fun x => !decide (f x = f a)) = r := by
    rw [List.filter_eq_self]
    intro x hx
    have : f x ≠ f a := fun e => hn.1 (by rw [← e]; exact List.mem_map.2 ⟨x, hx, rfl⟩)
    simp [this]
   rw [List.filter_cons]
   simp only [decide_true, Bool.not_true, Bool.false_eq_true, if_false]
   rw [hr]
  ·have he : e ∈ r := by
    rcases List.mem_cons.1 h with rfl | h
    ·exact absurd rfl hae
    ·exact h
   have ih := perm_filter_out he (fun x hx => hu x (by simp [hx])) hn.2
   rw [List.filter_cons]
   simp only [hae, decide_false, Bool.not_false, if_true]
   exact (List.Perm.cons a ih).trans (List.Perm.swap e a _)
section
variable {w0 w : World} {rs : List Res} {P : Program} {R : Res} {b : Nat}
theorem Mem.rangeL {es : Array MapEntry} {clock : Nat} (h : Mem w0 w rs) (hst : Stamped es clock) : Mem w0 (w.alloc (.mapIter (some b) clock #[] clock)) (iterL w.heap.size b es clock es.toList :: rs) :=
 h.add (World.grownBy_alloc w _ none) (iterL w.heap.size b es clock es.toList) ⟨clock, #[], clock, (MapKept.heap_alloc w _).1, hst.1, Nat.le_refl _, Nat.le_refl _, by
  have e : (leftOf es #[]).toList = es.toList := by unfold leftOf; rw [Array.toList_filter]; exact List.filter_eq_self.2 (fun x _ => by simp)
  rw [e]⟩ (fun _ hb => Nat.le_of_eq hb.symm)
variable {ops : Array Oper} {rest : List Oper} {o : Oper} {a : Act} {Q : Exit → Act → World → Prop}
theorem wpList_next_left (hg : o.guard = none) (it : Operand) (hop : o.op = Op.next it false) (b r clock : Nat) (es : Array MapEntry) (left : List MapEntry) (hit : a.eval it = .pointer (some ⟨r, 0, none⟩)) (hRb : R.own b) (h : Mem w0 w (iterL r b es clock left :: withR R b es clock hRb :: rs)) (hst : Stamped es clock)
  (hDone : left = [] → wpList P ops Q rest (a.put o.dst (.tuple #[.bool false])) w)
  (hMore : ∀ (e : MapEntry) (w' : World) (left' : List MapEntry), e ∈ es.toList → left.Perm (e :: left') → Mem w0 w' (iterL r b es clock left' :: withR R b es clock hRb :: rs) → (Instr.entry (.pointer (some ⟨r, 0, none⟩))).run P w' = .ok (.tuple #[e.key, e.val]) w' → wpList P ops Q rest (a.put o.dst (.tuple #[.bool true, e.key, e.val])) w') :
  wpList P ops Q (o :: rest) a w := by
 obtain ⟨since, seen, c0, hr, hold, hsc, hsk, hcnt⟩ := h.at_ 0 rfl
 have hb : w.heap[b]? = some (.map es clock) := (h.at_ 1 rfl).2
 have hne : b ≠ r := fun e => (List.pairwise_cons.1 h.sep).1 (withR R b es clock hRb) (by simp) r rfl (by rw [← e]; exact hRb)
 refine wpList_plain hg fun K' hK' => ?_
 unfold Oper.wp
 rcases run_next_at (P := P) w o.type r b since c0 seen es clock hr hb hold hsc with ⟨h0, hrun⟩ | ⟨e, he, w1, hal, hrun⟩
 ·simp [execOp, hop, hit, hrun, Result.andThen]
  refine hK' _ _ (hDone ?_)
  have : (leftOf es seen).toList = [] := by
   apply List.eq_nil_of_length_eq_zero
   rw [Array.length_toList]; exact h0
  rw [this] at hcnt
  exact hcnt.eq_nil
 ·obtain ⟨hem, hes⟩ := mem_left he
  have hr1 : w1.heap[r]? = some (.mapIter (some b) since seen c0) := by rcases hal with rfl | rfl <;> exact hr
  have hb1 : w1.heap[b]? = some (.map es clock) := by rcases hal with rfl | rfl <;> exact hb
  have hset := heap_set (o' := .mapIter (some b) since (seen.push e.born) clock) hr1
  have hb' : (setBlock w1 r (.mapIter (some b) since (seen.push e.born) clock)).heap[b]? = some (.map es clock) := (hset.2 b hne).trans hb1
  have hperm : left.Perm (e :: (leftOf es (seen.push e.born)).toList) := by
   refine hcnt.trans ?_
   have hall : ∀ x ∈ (leftOf es seen).toList, x ∈ es.toList := fun x hx => Array.mem_toList_iff.2 (Array.mem_toList_iff.1 (mem_left hx).1)
   have e1 : (leftOf es (seen.push e.born)).toList = (leftOf es seen).toList.filter fun x => !decide (x.born = e.born) := by
    unfold leftOf
    rw [Array.toList_filter, Array.toList_filter, List.filter_filter]
    apply List.filter_congr
    intro x _
    rw [Array.contains_push]
    cases h1 : seen.contains x.born <;> by_cases h2 : x.born = e.born <;> simp [h2]
   rw [e1]
   refine perm_filter_out (f := (·.born)) he (fun x hx hxe => born_inj2 hst (hall x hx) (hall e he) hxe) ?_
   exact List.Nodup.sublist (List.Sublist.map _ (by unfold leftOf; rw [Array.toList_filter]; exact List.filter_sublist)) hst.2.1
  simp [execOp, hop, hit, hrun, Result.andThen]
  refine hK' _ _ (hMore e _ (leftOf es (seen.push e.born)).toList hem hperm ?_ (run_entry_at _ r b since seen es clock e hset.1 hb' hem ((stamped_iff es clock).1 hst).2.1))
  have h1 : Mem w0 w1 (iterL r b es clock left :: withR R b es clock hRb :: rs) := by rcases hal with rfl | rfl; exact h; exact h.drew
  refine h1.set_row (w' := setBlock w1 r (.mapIter (some b) since (seen.push e.born) clock)) 0 rfl (row := some r) ⟨rfl, rfl, rfl, by simp [setBlock], fun i _ hi => hset.2 i (fun e1 => hi (by rw [e1]))⟩ (fun k e => by cases e; rfl) (iterL r b es clock _) ⟨since, seen.push e.born, clock, hset.1, hold, hsk, hsk, List.Perm.refl _⟩ (fun b' hb => .inl hb)
end
theorem set_same {w : World} {b off : Nat} {v : Value} (h : w.cell? ⟨b, off, none⟩ = some v) : w.setCell ⟨b, off, none⟩ v = w := by
 have hh : w.heap.modify b (fun | .cells c elem frozen => .cells (if (none : Option Nat).isSome then c else c.setIfInBounds off v) elem frozen | o => o) = w.heap := by
  apply Array.ext_getElem?
  intro k
  rw [Array.getElem?_modify]
  by_cases hk : b = k
  ·subst hk
   rw [if_pos rfl]
   cases hb : w.heap[b]? with
   | none => rfl
   | some o =>
    cases o with
    | cells c elem frozen =>
     have h1 : c[off]? = some v := by simpa [World.cell?, hb] using h
     have h2 : c.setIfInBounds off v = c := by
      apply Array.ext_getElem?
      intro j
      rw [Array.getElem?_setIfInBounds]
      by_cases hj : off = j
      ·subst hj
       obtain ⟨hl, hv⟩ := Array.getElem?_eq_some_iff.1 h1
       rw [if_pos rfl, if_pos hl, h1]
      ·rw [if_neg hj]
     simp [h2]
    | _ => rfl
  ·rw [if_neg hk]
 have h3 : (w.setCell ⟨b, off, none⟩ v).heap = w.heap := hh
 have h4 : w.setCell ⟨b, off, none⟩ v = { w with heap := (w.setCell ⟨b, off, none⟩ v).heap } := rfl
 rw [h4, h3]
def firstM (on : List Nat) (k : Nat) : Nat → Option Nat := fun r => if r ∈ on.take k then some (on.idxOf r) else none
theorem firstM_zero (on : List Nat) : firstM on 0 = fun _ => none := by funext r; simp [firstM]
theorem firstM_old {on : List Nat} {k : Nat} (h : k < on.length) (hm : on[k] ∈ on.take k) : firstM on k on[k] = some (on.idxOf on[k]) ∧ firstM on (k + 1) = firstM on k := by
 refine ⟨by unfold firstM; rw [if_pos hm], ?_⟩
 funext r
 unfold firstM
 have : (r ∈ on.take (k + 1)) = (r ∈ on.take k) := by
  rw [take_snoc_n h]
  refine propext ⟨fun h => ?_, fun h => List.mem_append.2 (.inl h)⟩
  rcases List.mem_append.1 h with h | h
  ·exact h
  ·rw [List.mem_singleton] at h; rw [h]; exact hm
 simp only [this]
theorem idx_new : ∀ {on : List Nat} {k : Nat} (h : k < on.length), on[k] ∉ on.take k → on.idxOf on[k] = k
 | [], k, h, _ => by simp at h
 | a :: r, 0, _, _ => by simp
 | a :: r, k + 1, h, hm => by
  have h' : k < r.length := by simpa using h
  have e : (a :: r)[k + 1] = r[k] := rfl
  rw [e] at hm ⊢
  rw [List.take_succ_cons, List.mem_cons, not_or] at hm
  rw [List.idxOf_cons, idx_new h' hm.2]
  have : (a == r[k]) = false := by simp; exact fun e => hm.1 e.symm
  rw [this]; rfl
theorem firstM_new {on : List Nat} {k : Nat} (h : k < on.length) (hm : on[k] ∉ on.take k) : firstM on k on[k] = none ∧ upd (firstM on k) on[k] k = firstM on (k + 1) := by
 refine ⟨by unfold firstM; rw [if_neg hm], ?_⟩
 funext r
 unfold upd firstM
 by_cases hr : r = on[k]
 ·subst hr
  rw [if_pos rfl, if_pos (by rw [take_snoc_n h]; exact List.mem_append.2 (.inr (List.mem_singleton.2 rfl))), idx_new h hm]
 ·rw [if_neg hr]
  have : (r ∈ on.take (k + 1)) = (r ∈ on.take k) := by rw [take_snoc_n h, List.mem_append, List.mem_singleton]; simp only [hr, or_false]
  simp only [this]
theorem firstM_end {on : List Nat} {i : Nat} (h : i < on.length) : firstM on on.length (on.getD i 0) = some (leastF on i) := by
 unfold firstM leastF
 rw [List.take_length, if_pos (getD_mem h)]
end Go.Tre
namespace Go.Proofs.YtlkfhbmjemjohaaGreatDoor.sol
open Go.RowKit Go.Shelf Go.Maps Go.MapKept Go.ChangeMaps Go.Tre lex gr

/-! the solver's classes -/
structure ClsV where
 n : Tre.Node
 aa : Option Addr
 na : Nat
 ca : Nat
 mf : Option Nat
 bm : Nat
abbrev ClsV.va (c : ClsV) : Value := .slice c.aa c.na c.ca
abbrev ClsV.vf (c : ClsV) : Value := .map c.mf
def ClsV.cells (c : ClsV) : List Value := [.int .i64 c.n.kind, .string c.n.name, c.va, c.vf, .bool c.n.isOpen]
def zeroC : ClsV := ⟨dummy, none, 0, 0, none, 0⟩
def ClsOk (w : World) (c : ClsV) : Prop :=
 (c.n.kind = 1 → c.aa = none ∧ c.na = 0 ∧ c.ca = 0 ∧ c.mf = none) ∧
 (c.n.kind = 2 → c.na = c.n.args.length ∧ IntsAt w c.aa c.n.args ∧ c.n.args.length ≤ c.ca ∧ c.mf = none) ∧
 (c.n.kind = 3 → c.aa = none ∧ c.na = 0 ∧ c.ca = 0 ∧ c.mf = some c.bm)
theorem ClsOk.below {w w' : World} {c : ClsV} (h : ClsOk w c) (b : Below w.heap.size w w') : ClsOk w' c :=
 ⟨h.1, fun k => by obtain ⟨h0, h1, h2⟩ := h.2.1 k; exact ⟨h0, h1.below b, h2⟩, h.2.2⟩
def mapsR (cs : List ClsV) : Res where
 own b := ∃ c ∈ cs, c.n.kind = 3 ∧ b = c.bm
 P w := ∀ c ∈ cs, c.n.kind = 3 → MapIs Tryz.prog 9 Value.string en w c.bm c.n.labels.length (fieldsK c.n c.n.labels.length)
 stable w w' h hs := fun c hc hk => (h c hc hk).block (hs _ ⟨c, hc, hk, rfl⟩)
 has w h b hb := by obtain ⟨c, hc, hk, rfl⟩ := hb; exact (h c hc hk).lt
theorem mapsR_skip {w0 w : World} {rs : List Res} {cs : List ClsV} {c : ClsV} (h : Mem w0 w (mapsR cs :: rs)) (hk : c.n.kind ≠ 3) : Mem w0 w (mapsR (cs ++ [c]) :: rs) :=
 h.as_ 0 rfl (mapsR (cs ++ [c])) (fun hp d hd hdk => by
  rcases List.mem_append.1 hd with hd | hd
  ·exact hp d hd hdk
  ·rw [List.mem_singleton] at hd; subst hd; exact absurd hdk hk) (fun b hb => by
  obtain ⟨d, hd, hdk, e⟩ := hb
  rcases List.mem_append.1 hd with hd | hd
  ·exact ⟨d, hd, hdk, e⟩
  ·rw [List.mem_singleton] at hd; subst hd; exact absurd hdk hk)
theorem mapsR_more {w0 w : World} {rs : List Res} {cs : List ClsV} {c : ClsV} (h : Mem w0 w (mapR Tryz.prog 9 Value.string en c.bm c.n.labels.length (fieldsK c.n c.n.labels.length) :: mapsR cs :: rs)) : Mem w0 w (mapsR (cs ++ [c]) :: rs) :=
 h.join.as_ 0 rfl (mapsR (cs ++ [c])) (fun hp d hd hdk => by
  rcases List.mem_append.1 hd with hd | hd
  ·exact hp.2 d hd hdk
  ·rw [List.mem_singleton] at hd; subst hd; exact hp.1) (fun b hb => by
  obtain ⟨d, hd, hdk, e⟩ := hb
  rcases List.mem_append.1 hd with hd | hd
  ·exact .inr ⟨d, hd, hdk, e⟩
  ·rw [List.mem_singleton] at hd; subst hd; exact .inl e)
theorem mapsR_open {w0 w : World} {rs : List Res} {cs : List ClsV} {c : ClsV} (hc : c ∈ cs) (hk : c.n.kind = 3) (hn : c.n.labels.Nodup) (_hla : c.n.labels.length = c.n.args.length) (h : Mem w0 w (mapsR cs :: rs)) :
  ∃ es clock, ∃ hb : (mapsR cs).own c.bm, Mem w0 w (withR (mapsR cs) c.bm es clock hb :: rs) ∧ w.heap[c.bm]? = some (.map es clock) ∧ Stamped es clock ∧ es.size = c.n.labels.length ∧
   (∀ e ∈ es.toList, ∃ k, k < c.n.labels.length ∧ e.key = .string (c.n.labels.getD k ByteArray.empty) ∧ e.val = en (c.n.args.getD k 0).toNat) ∧
   (∀ k, k < c.n.labels.length → ∃ e ∈ es.toList, e.key = .string (c.n.labels.getD k ByteArray.empty) ∧ e.val = en (c.n.args.getD k 0).toNat) := by
 obtain ⟨es, clock, hb, hsz, hst, h1, h2⟩ := (h.at_ 0 rfl : (mapsR cs).P w) c hc hk
 refine ⟨es, clock, ⟨c, hc, hk, rfl⟩, h.as_ 0 rfl (withR (mapsR cs) c.bm es clock ⟨c, hc, hk, rfl⟩) (fun hp => ⟨hp, hb⟩) (fun _ hb => hb), hb, hst, hsz, fun e he => ?_, fun k hk2 => ?_⟩
 ·obtain ⟨l, a, _, e1, e2, e3, _⟩ := h1 e he
  obtain ⟨k, hk2, e4, e5⟩ := fieldsK_some e3
  exact ⟨k, hk2, by rw [e1, e4], by rw [e2, e5]⟩
 ·exact h2 _ _ (fieldsK_at hn (Nat.le_refl _) hk2)
theorem withR_close {w0 w : World} {rs : List Res} {cs : List ClsV} {b : Nat} {es : Array MapEntry} {clock : Nat} {hb : (mapsR cs).own b} (h : Mem w0 w (withR (mapsR cs) b es clock hb :: rs)) : Mem w0 w (mapsR cs :: rs) :=
 h.as_ 0 rfl (mapsR cs) (fun hp => hp.1) (fun _ hb => hb)

/-! the rows -/
def hasCells (cs : List ClsV) (has : List Nat) : List Value := has.flatMap fun m => (cs.getD m zeroC).cells
def pairCells (waits : List (Nat × Nat)) : List Value := waits.flatMap fun q => [en q.1, en q.2]
theorem pairCells_len (l : List (Nat × Nat)) : (pairCells l).length = l.length * 2 := by
 induction l with
 | nil => rfl
 | cons a r ih => simp only [pairCells, List.flatMap_cons, List.length_append, List.length_cons, List.length_nil] at ih ⊢; rw [ih]; omega
theorem hasCells_at (cs : List ClsV) : ∀ (has : List Nat) (i j : Nat), i < has.length → j < 5 → (hasCells cs has)[i * 5 + j]? = (cs.getD (has.getD i 0) zeroC).cells[j]?
 | [], i, j, h, _ => by simp at h
 | a :: r, 0, j, _, hj => by
  show ((cs.getD a zeroC).cells ++ _)[0 * 5 + j]? = _
  rw [List.getElem?_append_left (by simp [ClsV.cells]; omega)]
  simp
 | a :: r, i + 1, j, h, hj => by
  show ((cs.getD a zeroC).cells ++ hasCells cs r)[(i + 1) * 5 + j]? = _
  rw [List.getElem?_append_right (by simp [ClsV.cells]; omega), show (i + 1) * 5 + j - (cs.getD a zeroC).cells.length = i * 5 + j by simp [ClsV.cells]; omega, hasCells_at cs r i j (by simpa using h) hj]
  simp
theorem hasCells_set (cs : List ClsV) : ∀ (has : List Nat) (i m : Nat), i < has.length →
  ((((((hasCells cs has).set (i * 5) (.int .i64 (cs.getD m zeroC).n.kind)).set (i * 5 + 1) (.string (cs.getD m zeroC).n.name)).set (i * 5 + 2) (cs.getD m zeroC).va).set (i * 5 + 3) (cs.getD m zeroC).vf).set (i * 5 + 4) (.bool (cs.getD m zeroC).n.isOpen)) = hasCells cs (has.set i m)
 | [], i, m, h => by simp at h
 | a :: r, 0, m, _ => by simp [hasCells, ClsV.cells]
 | a :: r, i + 1, m, h => by
  have ih := hasCells_set cs r i m (by simpa using h)
  show _ = (cs.getD a zeroC).cells ++ hasCells cs (r.set i m)
  rw [← ih]
  show ((((((cs.getD a zeroC).cells ++ hasCells cs r).set _ _).set _ _).set _ _).set _ _).set _ _ = _
  have e : ∀ (l1 l2 : List Value) (j : Nat) (x : Value), l1.length = 5 → (l1 ++ l2).set ((i + 1) * 5 + j) x = l1 ++ l2.set (i * 5 + j) x := by
   intro l1 l2 j x hl
   rw [List.set_append_right _ _ (by omega), hl]
   congr 2
   omega
  have hc : (cs.getD a zeroC).cells.length = 5 := rfl
  have e0 := fun l2 x => e (cs.getD a zeroC).cells l2 0 x hc
  simp only [Nat.add_zero] at e0
  rw [e0, e _ _ 1 _ hc, e _ _ 2 _ hc, e _ _ 3 _ hc, e _ _ 4 _ hc]
theorem hasCells_snoc (cs : List ClsV) (has : List Nat) (m : Nat) : hasCells cs (has ++ [m]) = hasCells cs has ++ (cs.getD m zeroC).cells := by simp [hasCells]
theorem pairCells_app (l r : List (Nat × Nat)) : pairCells (l ++ r) = pairCells l ++ pairCells r := by simp [pairCells]
def solR (s : Nat) (cs : List ClsV) (vO vR vH vW : Value) (on rank has : List Nat) (waits : List (Nat × Nat)) : List Res :=
 [cellsR s 64 #[vO, vR, vH, vW], rowR 3 1 vO cs.length (on.map en), rowR 3 1 vR cs.length (rank.map en), rowR 72 5 vH cs.length (hasCells cs has), rowR 34 2 vW waits.length (pairCells waits), mapsR cs]
end Go.Proofs.YtlkfhbmjemjohaaGreatDoor.sol
namespace Go.Proofs.YtlkfhbmjemjohaaGreatDoor.sol
open Go.RowKit Go.Shelf Go.Maps Go.Tre lex gr
structure OnAt (w : World) (s gO cO : Nat) (on : List Nat) : Prop where
 f : w.cell? ⟨s, 0, none⟩ = some (.slice (some ⟨gO, 0, none⟩) on.length cO)
 c : ∀ j, j < on.length → w.cell? ⟨gO, j, none⟩ = some (en (on.getD j 0))
 z : ∀ j, j < on.length → w.frozen? ⟨gO, j, none⟩ = false
 lt : ∀ j, j < on.length → on.getD j 0 < on.length
 on_ : ∀ j, j < on.length → on.getD (on.getD j 0) 0 = on.getD j 0
theorem find_self (s gO cO : Nat) (on : List Nat) (i : Nat) (w : World) (h : OnAt w s gO cO on) (hi : i < on.length) (_hl : on.length ≤ 8388608) (e : on.getD i 0 = i) :
  Calls Tryz.prog 27 #[.pointer (some ⟨s, 0, none⟩), .int .i64 (i : Int)] w fun e w' => e = .returned (.int .i64 ((on.getD i 0 : Nat) : Int)) ∧ w' = w := by
 have hc := h.c i hi
 have hf := h.f
 rw [e] at hc ⊢
 have hc' : w.cell? ⟨gO, i, none⟩ = some (.int .i64 (i : Int)) := hc
 have i1 : (i : Int) < (on.length : Int) := by omega
 clear hc h e
 go_enter Tryz.func27, Tryz.ntmps27
 go_wp2
 refine wp_loop_rounds 1 ?_
 rw [rounds_succ]
 go_wp2
 go_ret
 exact ⟨rfl, rfl⟩
theorem find_far (s gO cO : Nat) (on : List Nat) (i : Nat) (w : World) (h : OnAt w s gO cO on) (hi : i < on.length) (_hl : on.length ≤ 8388608) (e : on.getD i 0 ≠ i) :
  Calls Tryz.prog 27 #[.pointer (some ⟨s, 0, none⟩), .int .i64 (i : Int)] w fun e w' => e = .returned (.int .i64 ((on.getD i 0 : Nat) : Int)) ∧ Below w.heap.size w w' := by
 have hc := h.c i hi
 have hf := h.f
 have hz := h.z i hi
 have hlt := h.lt i hi
 have hc2 := h.c _ hlt
 rw [h.on_ i hi] at hc2
 generalize on.getD i 0 = r at *
 have c1 : w.cell? ⟨gO, i, none⟩ = some (.int .i64 (r : Int)) := hc
 have c2 : w.cell? ⟨gO, r, none⟩ = some (.int .i64 (r : Int)) := hc2
 have i1 : (i : Int) < (on.length : Int) := by omega
 have i2 : (r : Int) < (on.length : Int) := by omega
 have n1 : ¬ (r : Int) = (i : Int) := by omega
 have HS := Tre.hid (set_same c1)
 have k0 : (w.setCell ⟨gO, i, none⟩ (.int .i64 (r : Int))).drew.cell? ⟨s, 0, none⟩ = some (.slice (some ⟨gO, 0, none⟩) on.length cO) := by rw [HS.out]; exact hf
 have k1 : (w.setCell ⟨gO, i, none⟩ (.int .i64 (r : Int))).drew.cell? ⟨gO, i, none⟩ = some (.int .i64 (r : Int)) := by rw [HS.out]; exact c1
 have k2 : (w.setCell ⟨gO, i, none⟩ (.int .i64 (r : Int))).drew.cell? ⟨gO, r, none⟩ = some (.int .i64 (r : Int)) := by rw [HS.out]; exact c2
 clear hc hc2 h e
 go_enter Tryz.func27, Tryz.ntmps27
 go_wp2_with fail
 refine wp_loop_rounds 2 ?_
 rw [rounds_succ]
 go_wp2_with fail
 go_region_held3 (fun w' => w'.cell? ⟨s, 0, none⟩ = some (.slice (some ⟨gO, 0, none⟩) on.length cO) ∧ w'.cell? ⟨gO, i, none⟩ = some (.int .i64 (r : Int)) ∧ w'.cell? ⟨gO, r, none⟩ = some (.int .i64 (r : Int))) (first | go_keep | exact ⟨k0, k1, k2⟩) (fail)
 rw [HS.out]
 clear k0 k1 k2
 obtain ⟨w1, hw1, d0, d1, d2⟩ : ∃ w1 : World, w.drew = w1 ∧ w1.cell? ⟨s, 0, none⟩ = some (.slice (some ⟨gO, 0, none⟩) on.length cO) ∧ w1.cell? ⟨gO, i, none⟩ = some (.int .i64 (r : Int)) ∧ w1.cell? ⟨gO, r, none⟩ = some (.int .i64 (r : Int)) := ⟨_, rfl, hf, c1, c2⟩
 rw [hw1]
 have HB : Hid (Below w.heap.size w w1) := by rw [← hw1]; exact (Below.refl _ _).drew
 clear hw1 hf c1 c2 hz HS
 go_wp2_with fail
 rw [rounds_succ]
 go_wp2_with fail
 go_ret
 exact ⟨rfl, HB.out⟩
theorem find_any (s gO cO : Nat) (on : List Nat) (i : Nat) (w : World) (h : OnAt w s gO cO on) (hi : i < on.length) (hl : on.length ≤ 8388608) :
  Calls Tryz.prog 27 #[.pointer (some ⟨s, 0, none⟩), .int .i64 (i : Int)] w fun e w' => e = .returned (.int .i64 ((on.getD i 0 : Nat) : Int)) ∧ Below w.heap.size w w' := by
 by_cases e : on.getD i 0 = i
 ·refine (find_self s gO cO on i w h hi hl e).mono ?_
  rintro e w' ⟨rfl, rfl⟩
  exact ⟨rfl, Below.refl _ _⟩
 ·exact find_far s gO cO on i w h hi hl e
end Go.Proofs.YtlkfhbmjemjohaaGreatDoor.sol
namespace Go.Tre
theorem zip_take_succ {A B : List Nat} {k : Nat} (h1 : k < A.length) (h2 : k < B.length) : (A.zip B).take (k + 1) = (A.zip B).take k ++ [(A[k], B[k])] := by
 have h3 : k < (A.zip B).length := by rw [List.length_zip]; omega
 rw [List.take_add_one, List.getElem?_eq_getElem h3, List.getElem_zip]; rfl
end Go.Tre
namespace Go.Proofs.YtlkfhbmjemjohaaGreatDoor.sol
open Go.RowKit Go.Shelf Go.Maps Go.Tre lex gr
theorem infoP : (Tryz.prog.info? 34).map (fun i => (i.zero, i.size, i.bytes)) = some (some (.agg #[.int .i64 0, .int .i64 0]), 2, 16) := by kernel_rfl
set_option maxHeartbeats 4000000 in
theorem both_var (s : Nat) (nx ny : ByteArray) (ax ay : Option Addr) (px py cx cy : Nat) (mx my : Option Nat) (ox oy : Bool) (ky : Int) (w : World) :
  Calls Tryz.prog 55 #[.pointer (some ⟨s, 0, none⟩), .agg #[.int .i64 1, .string nx, (.slice ax px cx), .map mx, .bool ox], .agg #[.int .i64 ky, .string ny, (.slice ay py cy), .map my, .bool oy]] w fun e w' => e = .returned (.tuple #[.agg #[.int .i64 ky, .string ny, (.slice ay py cy), .map my, .bool oy], .bool true]) ∧ Below w.heap.size w w' := by
 have M := (((Mem.nil w).allocR #[.int .i64 1, .string nx, (.slice ax px cx), .map mx, .bool ox] 72).allocR #[.int .i64 ky, .string ny, (.slice ay py cy), .map my, .bool oy] 72).allocR #[.int .i64 ky, .string ny, (.slice ay py cy), .map my, .bool oy] 72
 simp only [heapSize_alloc] at M
 have HM0 := Tre.hid M
 clear M
 go_enter Tryz.func55, Tryz.ntmps55
 go_wp2_with fail
 obtain ⟨z0, z1, z2, z3, z4⟩ := five HM0.out 0 rfl
 exact bodyPost_ret (v := .tuple #[.agg #[.int .i64 ky, .string ny, (.slice ay py cy), .map my, .bool oy], .bool true]) (by simp [results, Tryz.results55, go_sem, z0, z1, z2, z3, z4]) rfl ⟨rfl, HM0.out.below⟩
set_option maxRecDepth 100000 in
set_option maxHeartbeats 8000000 in
theorem both_con (s n : Nat) (nx : ByteArray) (ax ay : Option Addr) (cx cy : Nat) (ox oy : Bool) (A B : List Nat) (vO vR vH : Value) (aW : Option Addr) (cW : Nat) (waits : List (Nat × Nat)) (w0 w : World) (rs : List Res) (hA : IntsAt w0 ax (A.map fun x : Nat => (x : Int))) (hB : IntsAt w0 ay (B.map fun x : Nat => (x : Int))) (lA : A.length = n) (lB : B.length = n) (hn : n ≤ 8388608) (hw : waits.length ≤ 1099511627776)
  (hM : Mem w0 w (cellsR s 64 #[vO, vR, vH, .slice aW waits.length cW] :: rowR 34 2 (.slice aW waits.length cW) waits.length (pairCells waits) :: rs)) :
  Calls Tryz.prog 55 #[.pointer (some ⟨s, 0, none⟩), .agg #[.int .i64 2, .string nx, (.slice ax n cx), .map none, .bool ox], .agg #[.int .i64 2, .string nx, (.slice ay n cy), .map none, .bool oy]] w fun e w' => e = .returned (.tuple #[.agg #[.int .i64 2, .string nx, (.slice ax n cx), .map none, .bool ox], .bool true]) ∧ ∃ (q : List (Nat × Nat)) (a1 : Option Addr) (c1 : Nat), q = waits ++ A.zip B ∧ Mem w0 w' (cellsR s 64 #[vO, vR, vH, .slice a1 q.length c1] :: rowR 34 2 (.slice a1 q.length c1) q.length (pairCells q) :: rs) := by
 have HA := Tre.hid hA
 have HB := Tre.hid hB
 have HLA := Tre.hid lA
 have HLB := Tre.hid lB
 have M0 := ((hM.allocR #[.int .i64 2, .string nx, (.slice ax n cx), .map none, .bool ox] 72).allocR #[.int .i64 2, .string nx, (.slice ay n cy), .map none, .bool oy] 72).allocR #[.int .i64 0, .string ⟨#[]⟩, .slice none 0 0, .map none, .bool false] 72
 simp only [heapSize_alloc] at M0
 obtain ⟨pi, I1, I2, I3, I4⟩ := info_parts infoP
 have P1 := Tre.hid I1
 have P2 := Tre.hid I2
 have P3 := Tre.hid I3
 have P4 := Tre.hid I4
 have HBW : Hid (Below w.heap.size w (((w.alloc (.cells #[.int .i64 2, .string nx, (.slice ax n cx), .map none, .bool ox] 72)).alloc (.cells #[.int .i64 2, .string nx, (.slice ay n cy), .map none, .bool oy] 72)).alloc (.cells #[.int .i64 0, .string ⟨#[]⟩, .slice none 0 0, .map none, .bool false] 72))) := (((Below.refl _ _).alloc (Nat.le_refl _) _).alloc (by simp) _).alloc (by simp; omega) _
 have HMM := Tre.hid M0
 clear hA hB hM M0 I1 I2 I3 I4 lA lB
 go_enter Tryz.func55, Tryz.ntmps55
 go_wp2_with fail
 generalize hz1 : w.heap.size + 1 + 1 = bZ at *
 generalize hz2 : w.heap.size + 1 = bY at *
 generalize hz3 : w.heap.size = bX at *
 generalize hww : ((w.alloc (.cells #[.int .i64 2, .string nx, (.slice ax n cx), .map none, .bool ox] 72)).alloc (.cells #[.int .i64 2, .string nx, (.slice ay n cy), .map none, .bool oy] 72)).alloc (.cells #[.int .i64 0, .string ⟨#[]⟩, .slice none 0 0, .map none, .bool false] 72) = w1 at *
 clear hz1 hz2 hz3 hww
 go_loopw [46] (fun v46 wr => ∃ (k : Nat) (q : List (Nat × Nat)) (a1 : Option Addr) (c1 : Nat), k ≤ n ∧ v46 = .int .i64 k ∧ Hid (q = waits ++ (A.zip B).take k) ∧ Hid (Mem w0 wr (cellsR bZ 72 #[.int .i64 0, .string ⟨#[]⟩, .slice none 0 0, .map none, .bool false] :: cellsR bY 72 #[.int .i64 2, .string nx, (.slice ay n cy), .map none, .bool oy] :: cellsR bX 72 #[.int .i64 2, .string nx, (.slice ax n cx), .map none, .bool ox] :: cellsR s 64 #[vO, vR, vH, .slice a1 q.length c1] :: rowR 34 2 (.slice a1 q.length c1) q.length (pairCells q) :: rs)))
  (fun v46 _ => n - (intOf v46).toNat)
 case atStart => exact ⟨0, waits, aW, cW, Nat.zero_le _, rfl, (by show _ = _; simp), HMM.out⟩
 case round =>
 clear HMM
 obtain ⟨k, q, a1, c1, hk, rfl, HQ, HM⟩ := hrel
 have hql : q.length ≤ 2199023255552 := by have h := HQ.out; rw [h, List.length_append, List.length_take, List.length_zip, HLA.out, HLB.out]; omega
 by_cases hlt : k < n
 ·have i1 : (k : Int) < (n : Int) := by omega
  have HZ := Tre.hid (zip_take_succ (A := A) (B := B) (k := k) (by rw [HLA.out]; exact hlt) (by rw [HLB.out]; exact hlt))
  obtain ⟨gx, ox', rfl, hu⟩ := HA.out.at_ k (.int .i64 ((A[k]'(by rw [HLA.out]; exact hlt) : Nat) : Int)) (by simp [show k < A.length by rw [HLA.out]; exact hlt])
  obtain ⟨gy, oy', rfl, hv⟩ := HB.out.at_ k (.int .i64 ((B[k]'(by rw [HLB.out]; exact hlt) : Nat) : Int)) (by simp [show k < B.length by rw [HLB.out]; exact hlt])
  generalize A[k]'(by rw [HLA.out]; exact hlt) = u at *
  generalize B[k]'(by rw [HLB.out]; exact hlt) = v at *
  have hu1 := cell_below HM.out.below hu
  have hv1 := cell_below HM.out.below hv
  have HU := Tre.hid hu
  have HV := Tre.hid hv
  clear hu hv
  go_wp2_with fail
  have cS : Cond (fun w' => w'.cell? ⟨s, 3, none⟩ = some (.slice a1 q.length c1) ∧ w'.cell? ⟨bX, 2, none⟩ = some (.slice (some ⟨gx, ox', none⟩) n cx) ∧ w'.cell? ⟨bY, 2, none⟩ = some (.slice (some ⟨gy, oy', none⟩) n cy) ∧ w'.cell? ⟨gx, ox' + k, none⟩ = some (.int .i64 (u : Int)) ∧ w'.cell? ⟨gy, oy' + k, none⟩ = some (.int .i64 (v : Int))) := ⟨⟩
  refine cS.keep [17, 20] ?_ (fun hH0 => ?_)
  ·exact ⟨HM.out.cell 3 rfl 3 rfl, HM.out.cell 2 rfl 2 rfl, HM.out.cell 1 rfl 2 rfl, hu1, hv1⟩
  have HM0 := Tre.hid HM.out.drew
  generalize hq : World.drew _ = wq0 at HM0 hH0 ⊢
  clear hq HM
  refine lPq 0 (some 49) (v := ?_) rfl ?_ (keep_of hH0) ?_
  rotate_left
  ·intro w; go_simp <;> with_reducible rfl
  try simp only [Act.put, zqf, zqg, zqh]
  refine lPq 1 (some 50) (v := ?_) rfl ?_ (keep_of hH0) ?_
  rotate_left
  ·intro w; go_simp <;> with_reducible rfl
  try simp only [Act.put, zqf, zqg, zqh]
  refine lPq 2 (some 51) (v := ?_) rfl ?_ (keep_of hH0) ?_
  rotate_left
  ·intro w; go_simp <;> with_reducible rfl
  try simp only [Act.put, zqf, zqg, zqh]
  refine lPq 3 (some 52) (v := ?_) rfl ?_ (keep_of hH0) ?_
  rotate_left
  ·intro w; go_simp <;> with_reducible rfl
  try simp only [Act.put, zqf, zqg, zqh]
  refine lPq 5 (some 54) (v := ?_) rfl ?_ (keep_of hH0) ?_
  rotate_left
  ·intro w; go_simp <;> with_reducible rfl
  try simp only [Act.put, zqf, zqg, zqh]
  refine lPq 7 (some 56) (v := ?_) rfl ?_ (keep_of hH0) ?_
  rotate_left
  ·intro w; go_simp <;> with_reducible rfl
  try simp only [Act.put, zqf, zqg, zqh]
  refine lPq 10 (some 59) (v := ?_) rfl ?_ (keep_of hH0) ?_
  rotate_left
  ·intro w; go_simp <;> with_reducible rfl
  try simp only [Act.put, zqf, zqg, zqh]
  refine lPq 12 (some 61) (v := ?_) rfl ?_ (keep_of hH0) ?_
  rotate_left
  ·intro w; go_simp <;> with_reducible rfl
  try simp only [Act.put, zqf, zqg, zqh]
  refine lTq 4 (some 53) (v := ?_) rfl ?_ hH0 ?_
  rotate_left
  ·intro w hSw; (try dsimp only at hSw); go_simp <;> with_reducible rfl
  try simp only [Act.put, zqf, zqg, zqh]
  refine lTq 6 (some 55) (v := ?_) rfl ?_ hH0 ?_
  rotate_left
  ·intro w hSw; (try dsimp only at hSw); go_simp <;> with_reducible rfl
  try simp only [Act.put, zqf, zqg, zqh]
  refine lPq 8 (some 57) (v := ?_) rfl ?_ (keep_of hH0) ?_
  rotate_left
  ·intro w; go_simp <;> with_reducible rfl
  try simp only [Act.put, zqf, zqg, zqh]
  refine lTq 9 (some 58) (v := ?_) rfl ?_ hH0 ?_
  rotate_left
  ·intro w hSw; (try dsimp only at hSw); go_simp <;> with_reducible rfl
  try simp only [Act.put, zqf, zqg, zqh]
  refine lTq 11 (some 60) (v := ?_) rfl ?_ hH0 ?_
  rotate_left
  ·intro w hSw; (try dsimp only at hSw); go_simp <;> with_reducible rfl
  try simp only [Act.put, zqf, zqg, zqh]
  refine lPq 13 (some 62) (v := ?_) rfl ?_ (keep_of hH0) ?_
  rotate_left
  ·intro w; go_simp <;> with_reducible rfl
  try simp only [Act.put, zqf, zqg, zqh]
  refine lTq 14 (some 63) (v := ?_) rfl ?_ hH0 ?_
  rotate_left
  ·intro w hSw; (try dsimp only at hSw); go_simp <;> with_reducible rfl
  try simp only [Act.put, zqf, zqg, zqh]
  refine lPq 15 (some 64) (v := ?_) rfl ?_ (keep_of hH0) ?_
  rotate_left
  ·intro w; go_simp <;> with_reducible rfl
  try simp only [Act.put, zqf, zqg, zqh]
  refine lOne 16 (by kernel_rfl) (LStep.op (fun K hK => ?_))
  have MA := HM0.out.allocRow #[.int .i64 (u : Int), .int .i64 (v : Int)] 34 2 1 (by unfold maxLen; omega) rfl
  go_simp
  generalize hnb : wq0.heap.size = nb at MA ⊢
  generalize hw : wq0.alloc (.cells #[.int .i64 (u : Int), .int .i64 (v : Int)] 34) = wq1 at MA ⊢
  have s0 : wq1.cell? ⟨s, 3, none⟩ = some (.slice a1 q.length c1) := MA.cell 4 rfl 3 rfl
  have s1 : wq1.cell? ⟨bX, 2, none⟩ = some (.slice (some ⟨gx, ox', none⟩) n cx) := MA.cell 3 rfl 2 rfl
  have s2 : wq1.cell? ⟨bY, 2, none⟩ = some (.slice (some ⟨gy, oy', none⟩) n cy) := MA.cell 2 rfl 2 rfl
  have s3 := cell_below MA.below HU.out
  have s4 := cell_below MA.below HV.out
  have HM1 := Tre.hid MA
  clear MA hnb hw
  refine hK.out _ _ ?_ (fun hH1 => ?_)
  ·exact ⟨s0, s1, s2, s3, s4⟩
  clear hK K hH0
  try simp only [Act.put, zqf, zqg, zqh]
  refine lOne 17 (by kernel_rfl) (LFall.op (by kernel_rfl) (fun K hK => ?_))
  clear s0 s1 s2 s3 s4
  refine wp_append_row _ _ _ 35 (by rfl) 34 pi _ 2 16 Tryz.underlying35 P1.out P2.out P3.out P4.out rfl (by omega) (.slice a1 q.length c1) q.length (pairCells q) (by rfl) (HM1.out.row 5 rfl) (some ⟨nb, 0, none⟩) 1 1 [.int .i64 (u : Int), .int .i64 (v : Int)] (by rfl) ⟨rfl, fun j u hj => ⟨_, 0, rfl, by rw [Nat.zero_add]; exact HM1.out.cellAt 0 rfl j hj⟩⟩ (by simp [Value.oneCell']) (by unfold maxLen; omega) (by omega) ?_
  intro v' wq2 hown4 hgrow4 hat4
  have M4 := HM1.out.grow 5 rfl hgrow4 hown4 hat4
  obtain ⟨a4, c4, rfl, _⟩ := M4.val 5 rfl
  have HM2 := Tre.hid (M4.del 0)
  clear M4 hown4 hgrow4 hat4
  refine hK.out _ _ ?_
  clear hK K hH1
  try simp only [Act.put, zqf]
  refine lPq 18 (some 67) (v := ?_) rfl ?_ (keep_fell (by kernel_rfl)) ?_
  rotate_left
  ·intro w; go_simp <;> with_reducible rfl
  try simp only [Act.put]
  refine lPq 19 (some 68) (v := ?_) rfl ?_ (keep_fell (by kernel_rfl)) ?_
  rotate_left
  ·intro w; go_simp <;> with_reducible rfl
  try simp only [Act.put]
  refine lOne 20 (by kernel_rfl) (LFall.op (by kernel_rfl) (fun K hK => ?_))
  have g0 : wq2.cell? ⟨s, 3, none⟩ = some (.slice a1 q.length c1) := HM2.out.cell 3 rfl 3 rfl
  have f0 := HM2.out.free 3 rfl 3
  have H9 := HM2.out.setCell 3 rfl 3 (.slice a4 (q.length + 1) c4)
  go_simp
  generalize hw : wq2.setCell ⟨s, 3, none⟩ _ = wq3 at H9 ⊢
  have HM3 := Tre.hid H9
  clear H9 hw g0 f0
  refine hK.out _ _ ?_
  clear hK K
  try simp only [Act.put, zqf, zqg, zqh]
  refine lDone (by kernel_rfl) ?_
  go_wp2_with fail
  go_roundw
  case rel =>
   refine ⟨k + 1, q ++ [(u, v)], a4, c4, by omega, by go_num, ?_, ?_⟩
   ·show _ = _
    rw [HQ.out, HZ.out, List.append_assoc]
   ·have h := HM3.out
    have e1 : (q ++ [(u, v)]).length = q.length + 1 := by simp
    rw [e1, pairCells_app]
    exact h
  case measure => simp [intOf]; omega
 ·have e : k = n := by omega
  subst e
  have HQ2 : Hid (q = waits ++ A.zip B) := by have h := HQ.out; rw [List.take_of_length_le (by rw [List.length_zip, HLA.out, HLB.out]; omega)] at h; exact h
  have HM2 := Tre.hid (((HM.out.setCell 0 rfl 0 (.int .i64 2)).setCell 0 rfl 1 (.string nx)))
  obtain ⟨x0, x1, x2, x3, x4⟩ := five HM.out 2 rfl
  obtain ⟨y0, y1, y2, y3, y4⟩ := five HM.out 0 rfl
  have f0 := HM.out.free 0 rfl 0
  have f1 := HM.out.free 0 rfl 1
  have f2 := HM.out.free 0 rfl 2
  have f3 := HM.out.free 0 rfl 3
  have f4 := HM.out.free 0 rfl 4
  have HE := Tre.hid (((((HM.out.setCell 0 rfl 0 (.int .i64 2)).setCell 0 rfl 1 (.string nx)).setCell 0 rfl 2 (.slice ax k cx)).setCell 0 rfl 3 (.map none)).setCell 0 rfl 4 (.bool ox))
  clear HM HM2
  go_wp2_with fail
  obtain ⟨z0, z1, z2, z3, z4⟩ := five HE.out 0 rfl
  exact bodyPost_ret (v := .tuple #[.agg #[.int .i64 2, .string nx, (.slice ax k cx), .map none, .bool ox], .bool true]) (by simp [results, Tryz.results55, go_sem, z0, z1, z2, z3, z4]) rfl ⟨rfl, q, a1, c1, HQ2.out, HE.out.del 0 |>.del 0 |>.del 0⟩
end Go.Proofs.YtlkfhbmjemjohaaGreatDoor.sol
