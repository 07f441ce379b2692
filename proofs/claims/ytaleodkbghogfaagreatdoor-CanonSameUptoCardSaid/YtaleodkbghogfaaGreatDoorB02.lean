/- Plain: names are one token; the lexer's answer at a given text, by reckoning. Layer 3, plain: types as they are written, and the parser (where it comes to a type, labels rising). lex.IsName. Laws on a map that a call makes: its block stands for a partial function on plain keys and plain values. graph.arity, graph.rising, slices.IndexFunc and ContainsFunc over numbers, graph.may. -/
import Derived.Test.YtaleodkbghogfaaGreatDoorB01
import Derived.WalkKit
import Derived.Maps.OwnSet
import Derived.Maps.Keyed
set_option linter.unusedVariables false
namespace Go.Tre
def skipF : Nat → List UInt8 → Option (List UInt8)
  | 0, _ => none
  | k + 1, l => match l.dropWhile blank with
    | 40 :: 42 :: r => match noteEnd r with
      | none => none
      | some r' => skipF k r'
    | r => some r
theorem skipF_eq : ∀ (k : Nat) (l : List UInt8), l.length < k → skipF k l = skipS l
  | 0, _, h => by omega
  | k + 1, l, h => by
    by_cases hn : ∃ r, l.dropWhile blank = 40 :: 42 :: r
    · obtain ⟨r, hr⟩ := hn
      rw [skipS_note' hr, skipF, hr]
      simp only
      cases hne : noteEnd r with
      | none => rfl
      | some r' =>
        have h1 := noteEnd_len hne
        have h2 := (List.dropWhile_sublist (l := l) blank).length_le
        rw [hr] at h2
        simp only [List.length_cons] at h2
        exact skipF_eq k r' (by omega)
    · have hn' : ∀ r, l.dropWhile blank ≠ 40 :: 42 :: r := fun r hr => hn ⟨r, hr⟩
      rw [skipS_rest' hn', skipF]
      split
      · rename_i r hr; exact absurd hr (hn' r)
      · rfl
def allF : Nat → Nat → List UInt8 → Option (List Tok)
  | 0, _, _ => none
  | k + 1, N, l => match skipF (l.length + 1) l with
    | none => none
    | some [] => some [⟨0, N, 0, []⟩]
    | some (c :: r) => match nextS (c :: r) with
      | none => none
      | some (t, n) => (allF k N ((c :: r).drop n)).map fun ts => { t with at_ := N - (c :: r).length } :: ts
theorem allF_eq : ∀ (k N : Nat) (l : List UInt8), l.length < k → allF k N l = allS N l
  | 0, _, _, h => by omega
  | k + 1, N, l, h => by
    rw [allS_eq, allF, skipF_eq _ l (Nat.lt_succ_self _)]
    cases hs : skipS l with
    | none => rfl
    | some r =>
      have hrl := skipS_len hs
      cases r with
      | nil => rfl
      | cons c r =>
        simp only
        cases hn : nextS (c :: r) with
        | none => rfl
        | some q =>
          obtain ⟨t, n⟩ := q
          have hnl := nextS_len hn
          simp only
          rw [allF_eq k N ((c :: r).drop n) (by rw [List.length_drop]; omega)]
theorem lexS_of {l : List UInt8} {ts : List Tok} (h : allF (l.length + 1) l.length l = some ts) (hl : l.length ≤ 65536) : lexS l = some ts := by
  unfold lexS
  rw [if_pos hl, ← allF_eq _ _ l (Nat.lt_succ_self _), h]
theorem goes_blank {c : UInt8} {b : Bool} (h : goesB c.toNat b = true) : blank c = false ∧ c ≠ 40 := by
  constructor
  · cases hb : blank c with
    | false => rfl
    | true =>
      exfalso
      simp [blank] at hb
      rcases hb with ((rfl | rfl) | rfl) | rfl <;> (revert h; cases b <;> decide)
  · rintro rfl
    revert h
    cases b <;> decide
theorem skipS_word {c : UInt8} {r : List UInt8} {b : Bool} (h : goesB c.toNat b = true) : skipS (c :: r) = some (c :: r) := by
  obtain ⟨h1, h2⟩ := goes_blank h
  have hd : (c :: r).dropWhile blank = c :: r := by rw [List.dropWhile_cons, if_neg (by rw [h1]; decide)]
  rw [skipS_rest', hd]
  intro t ht
  rw [hd] at ht
  injection ht with ht
  exact h2 ht
theorem skipS_nil : skipS [] = some [] := by rw [skipS_rest' (by intro r h; cases h)]; rfl
theorem name_one {s : ByteArray} (h : isName s = true) : lexS s.data.toList = some [⟨1, 0, 0, s.data.toList⟩, ⟨0, s.size, 0, []⟩] := by
  unfold isName at h
  simp only [Bool.and_eq_true, decide_eq_true_eq, Bool.not_eq_true', ne_eq] at h
  obtain ⟨⟨⟨h0, h1⟩, h2⟩, h3⟩ := h
  have hsz : s.data.toList.length = s.size := rfl
  have hw : wordFrom true s.data.toList = s.data.toList.length := h2
  have hN : s.data.toList.length ≤ 65536 := by omega
  unfold lexS
  rw [if_pos hN]
  have hkey : keyWords.contains s.data.toList = false := h3
  rw [← hsz] at h0 h1
  revert hw hkey h0 h1
  rw [← hsz]
  generalize s.data.toList = l
  intro h0 h1 hw hkey
  cases l with
  | nil => exact absurd rfl h0
  | cons c r =>
    have hg : goesB c.toNat true = true := by
      cases hg : goesB c.toNat true with
      | true => rfl
      | false =>
        unfold wordFrom at hw
        rw [if_neg (by rw [hg]; decide)] at hw
        simp at hw
    have hn : nextS (c :: r) = some (⟨1, 0, 0, c :: r⟩, (c :: r).length) := by
      unfold nextS
      rw [hw, if_pos (by simp), if_neg (by omega), List.take_length, hkey]
      rfl
    rw [allS_eq, skipS_word hg]
    simp only
    rw [hn]
    simp only
    rw [List.drop_length, allS_eq, skipS_nil]
    simp
theorem nextS_name {l : List UInt8} {t : Tok} {n : Nat} (h : nextS l = some (t, n)) (hk : t.kind = 1) : wordFrom true l = n ∧ 0 < n ∧ n ≤ 100 ∧ t.s = l.take n ∧ keyWords.contains (l.take n) = false := by
  unfold nextS at h
  split at h
  · rename_i h0
    split at h
    · cases h
    · rename_i h1
      cases h
      refine ⟨rfl, h0, by omega, rfl, ?_⟩
      cases hc : keyWords.contains (l.take (wordFrom true l)) with
      | false => rfl
      | true => rw [hc] at hk; simp at hk
  · exfalso
    split at h
    · cases h
    · split at h
      · split at h
        · cases h
        · cases h; simp at hk
      · split at h
        · simp only at h
          split at h
          · cases h; simp at hk
          · cases h
        · split at h
          · obtain ⟨p, _, e⟩ := Option.map_eq_some_iff.1 h
            cases e; simp at hk
          · obtain ⟨p, _, e⟩ := Option.map_eq_some_iff.1 h
            cases e; simp at hk
theorem name_only {s : ByteArray} {ts : List Tok} {a : Nat} (h : lexS s.data.toList = some ts) (h0 : ts[0]? = some ⟨1, a, 0, s.data.toList⟩) : isName s = true := by
  unfold lexS at h
  split at h
  · have hsz : s.data.toList.length = s.size := rfl
    rw [allS_eq] at h
    cases hs : skipS s.data.toList with
    | none => rw [hs] at h; cases h
    | some r =>
      rw [hs] at h
      obtain ⟨p, hp, _⟩ := skipS_parts hs
      cases r with
      | nil => cases h; simp at h0
      | cons c r =>
        simp only at h
        cases hn : nextS (c :: r) with
        | none => rw [hn] at h; cases h
        | some q =>
          obtain ⟨t, n⟩ := q
          rw [hn] at h
          obtain ⟨xs, _, rfl⟩ := Option.map_eq_some_iff.1 h
          simp only [Tre.qc, Tre.qe] at h0
          have hk : t.kind = 1 := by have := congrArg Tok.kind h0; exact this
          have hts : t.s = s.data.toList := by have := congrArg Tok.s h0; exact this
          obtain ⟨n1, n2, n3, n4, n5⟩ := nextS_name hn hk
          have hnl := nextS_len hn
          have hlen := congrArg List.length (n4.symm.trans hts)
          rw [List.length_take] at hlen
          have hpl := congrArg List.length hp
          rw [List.length_append] at hpl
          have hp0 : p = [] := List.eq_nil_of_length_eq_zero (by omega)
          rw [hp0, List.nil_append] at hp
          have hnn : n = (c :: r).length := by omega
          rw [hnn, List.take_length] at n4 n5
          unfold isName
          have hw : wordLen s = s.size := by
            show wordFrom true s.data.toList = _
            rw [hp, n1, hnn, ← hp]; rfl
          have hkey : isKey s = false := by
            unfold isKey; rw [hp]; exact n5
          rw [hw, hkey, ← hsz, hp]
          simp only [Bool.and_eq_true, decide_eq_true_eq, Bool.not_false, ne_eq, and_true]
          omega
  · cases h
theorem wordFrom_snoc : ∀ (l : List UInt8) (b : Bool), wordFrom b l = l.length → l ≠ [] → wordFrom b (l ++ [120]) = l.length + 1
  | [], _, _, h => absurd rfl h
  | c :: l, b, h, _ => by
    unfold wordFrom at h
    split at h
    · rename_i hg
      rw [List.cons_append, wordFrom, if_pos hg]
      cases l with
      | nil => rfl
      | cons d l =>
        rw [wordFrom_snoc (d :: l) false (by simp only [List.length_cons] at h ⊢; omega) (by simp), List.length_cons]
        simp only [List.length_cons]; omega
    · simp at h
theorem name_more {s sx : ByteArray} (h : isName s = true) (hx : sx.data.toList = s.data.toList ++ [120]) : s.size = 100 ∨ isKey sx = true ∨ isName sx = true := by
  unfold isName at h
  simp only [Bool.and_eq_true, decide_eq_true_eq, Bool.not_eq_true', ne_eq] at h
  obtain ⟨⟨⟨h0, h1⟩, h2⟩, h3⟩ := h
  have hsx : sx.size = s.size + 1 := by
    have := congrArg List.length hx
    rw [List.length_append] at this
    exact this
  by_cases h100 : s.size = 100
  · exact .inl h100
  · right
    cases hk : isKey sx with
    | true => exact .inl rfl
    | false =>
      right
      have hne : s.data.toList ≠ [] := by
        intro e
        have := congrArg List.length e
        exact h0 this
      have hw : wordLen sx = sx.size := by
        show wordFrom true sx.data.toList = _
        rw [hx, wordFrom_snoc _ _ h2 hne, hsx]; rfl
      unfold isName
      rw [hw, hk, hsx]
      simp only [Bool.and_eq_true, decide_eq_true_eq, Bool.not_false, ne_eq, and_true]
      omega
theorem alive1 : lexS [120, 35, 109] = some [⟨1, 0, 0, [120]⟩, ⟨6, 1, 0, [35]⟩, ⟨1, 2, 0, [109]⟩, ⟨0, 3, 0, []⟩] := lexS_of (by decide) (by decide)
theorem alive2 : lexS [34, 97, 92, 110, 98, 34] = some [⟨4, 0, 0, [97, 10, 98]⟩, ⟨0, 6, 0, []⟩] := lexS_of (by decide) (by decide)
end Go.Tre
namespace Go.Tre
inductive Ty where
  | mk (kind : Nat) (s : List UInt8) (args : List Ty) (labels : List (List UInt8)) (opn : Bool)
def Ty.kind : Ty → Nat | .mk k _ _ _ _ => k
def Ty.s : Ty → List UInt8 | .mk _ s _ _ _ => s
def Ty.args : Ty → List Ty | .mk _ _ a _ _ => a
def Ty.labels : Ty → List (List UInt8) | .mk _ _ _ l _ => l
def Ty.opn : Ty → Bool | .mk _ _ _ _ o => o
def tk (l : List Tok) (i kind : Nat) (s : List UInt8) : Bool := match l[i]? with
  | some t => decide (t.kind = kind) && decide (t.s = s)
  | none => false
def wd (l : List Tok) (i kind : Nat) : Option (List UInt8) := match l[i]? with
  | some t => if t.kind = kind then some t.s else none
  | none => none
def basics : List (List UInt8) := [[105, 110, 116], [98, 111, 111, 108], [115, 116, 114, 105, 110, 103], [117, 110, 105, 116]]
def opS (n : Nat) : List UInt8 := if n = 1 then [45, 62] else [42]
def lessS : List UInt8 → List UInt8 → Bool
  | _, [] => false
  | [], _ :: _ => true
  | a :: l, b :: r => decide (a.toNat < b.toNat) || (decide (a = b) && lessS l r)
mutual
def pLev (l : List Tok) : Nat → Nat → Nat → Option (Ty × Nat)
  | 0, _, _ => none
  | k + 1, n, i =>
    if n = 0 then (pLev l k 1 i).bind fun r => pAs l k r.1 r.2
    else if n = 1 ∨ n = 2 then (pLev l k (n + 1) i).bind fun r =>
      if tk l r.2 6 (opS n) then (pLev l k n (r.2 + 1)).map fun q => (.mk 2 (opS n) [r.1, q.1] [] false, q.2) else some r
    else match wd l i 5 with
      | some s => some (.mk 1 s [] [] false, i + 1)
      | none => match wd l i 1 with
        | some s => if basics.contains s then some (.mk 2 s [] [] false, i + 1) else none
        | none =>
          if tk l i 6 [40] then (pLev l k 0 (i + 1)).bind fun r => if tk l r.2 6 [41] then some (r.1, r.2 + 1) else none
          else if tk l i 6 [60] then (if tk l (i + 1) 6 [62] then some (.mk 3 [] [] [] false, i + 2) else pObj l k [] [] (i + 1))
          else none
def pAs (l : List Tok) : Nat → Ty → Nat → Option (Ty × Nat)
  | 0, _, _ => none
  | k + 1, t, i => if tk l i 2 [97, 115] then (wd l (i + 1) 5).bind fun s => pAs l k (.mk 4 s [t] [] false) (i + 2) else some (t, i)
def pObj (l : List Tok) : Nat → List (List UInt8) → List Ty → Nat → Option (Ty × Nat)
  | 0, _, _, _ => none
  | k + 1, labels, args, i =>
    if tk l i 6 [46, 46] then (if tk l (i + 1) 6 [62] then some (.mk 3 [] args labels true, i + 2) else none)
    else (wd l i 1).bind fun s => if tk l (i + 1) 6 [58] then (pLev l k 1 (i + 2)).bind fun r =>
      if labels.all (lessS · s) = false then none
      else if tk l r.2 6 [62] then some (.mk 3 [] (args ++ [r.1]) (labels ++ [s]) false, r.2 + 1)
      else if tk l r.2 6 [59] then pObj l k (labels ++ [s]) (args ++ [r.1]) (r.2 + 1)
      else none
    else none
end
end Go.Tre
namespace Go.Proofs.YtaleodkbghogfaaGreatDoor.lex
open Go.RowKit Go.Tre
set_option maxHeartbeats 1000000 in
theorem isName_any (s : ByteArray) (w : World) (hs : s.size ≤ 8388608) (hm : MaxAt w) :
    Calls Tryz.prog 60 #[.string s] w fun e w' => e = .returned (.bool (isName s)) ∧ w = w' := by
  by_cases h0 : s.size = 0
  · have H : Hid (isName s = false) := isName_of (by simp [h0])
    have e0 := emp1 h0
    have e1 : (!s.toList.isEmpty) = false := by rw [e0]; rfl
    clear h0
    go_enter Tryz.func60, Tryz.ntmps60
    go_wp2_with fail
    go_ret
    exact ⟨ret_bool H.out.symm, rfl⟩
  · have e0 := emp0 h0
    have e1 : (!s.toList.isEmpty) = true := by rw [e0]; rfl
    by_cases h1 : s.size ≤ 100
    · by_cases h2 : wordLen s = s.size
      · have H : Hid (isName s = !isKey s) := isName_of (by simp [h0, h1, h2])
        have e2 : ((wordLen s : Int) == (s.size : Int)) = true := by rw [h2]; simp
        clear h0 h2
        go_enter Tryz.func60, Tryz.ntmps60
        go_wp2_with fail
        refine (word s _ hs).mono ?_
        rintro e w' ⟨rfl, rfl⟩
        go_wp2_with fail
        refine (isKey_any s _ hs hm).mono ?_
        rintro e w' ⟨rfl, rfl⟩
        go_wp2_with fail
        go_ret
        exact ⟨ret_bool H.out.symm, rfl⟩
      · have H : Hid (isName s = false) := isName_of (by simp [h2])
        have e2 : ((wordLen s : Int) == (s.size : Int)) = false := by simp; omega
        clear h0 h2
        go_enter Tryz.func60, Tryz.ntmps60
        go_wp2_with fail
        refine (word s _ hs).mono ?_
        rintro e w' ⟨rfl, rfl⟩
        go_wp2_with fail
        go_ret
        exact ⟨ret_bool H.out.symm, rfl⟩
    · have H : Hid (isName s = false) := isName_of (by simp [h1])
      clear h0
      go_enter Tryz.func60, Tryz.ntmps60
      go_wp2_with fail
      go_ret
      exact ⟨ret_bool H.out.symm, rfl⟩

end Go.Proofs.YtaleodkbghogfaaGreatDoor.lex
namespace Go.Tre
open Go.RowKit Go.Maps Go.MapKept Go.ChangeMaps

theorem below_row {w0 w w' : World} {b : Nat} (h : Below w0.heap.size w0 w) (g : w.grownBy w' (some b)) (hb : w0.heap.size ≤ b) : Below w0.heap.size w0 w' :=
  h.grown g h.size (fun k e => by cases e; exact hb)
theorem below_none {w0 w w' : World} (h : Below w0.heap.size w0 w) (g : w.grownBy w' none) : Below w0.heap.size w0 w' :=
  h.grown g h.size (fun k e => by cases e)

section
variable {α β : Type} {P : Program} {k : TypeId} {ek : α → Value} {ev : β → Value} {w : World} {b n : Nat} {m : α → Option β}

def MapIs (P : Program) (k : TypeId) (ek : α → Value) (ev : β → Value) (w : World) (b n : Nat) (m : α → Option β) : Prop :=
  ∃ es clock, w.heap[b]? = some (.map es clock) ∧ es.size = n ∧ Stamped es clock ∧
    (∀ e ∈ es.toList, ∃ a x l, e.key = ek a ∧ e.val = ev x ∧ m a = some x ∧ keyOf P k (ek a) = some l) ∧
    (∀ a x, m a = some x → ∃ e ∈ es.toList, e.key = ek a ∧ e.val = ev x)

def upd [DecidableEq α] (m : α → Option β) (a : α) (x : β) : α → Option β := fun a' => if a' = a then some x else m a'

theorem MapIs.made (w : World) (P : Program) (k : TypeId) (ek : α → Value) (ev : β → Value) : MapIs P k ek ev (w.alloc (.map #[] 0)) w.heap.size 0 (fun _ => none) :=
  ⟨#[], 0, (MapKept.heap_alloc w _).1, rfl, stamped_empty 0, by simp, by simp⟩

theorem MapIs.lt (h : MapIs P k ek ev w b n m) : b < w.heap.size := by
  obtain ⟨es, clock, hb, _⟩ := h
  exact (Array.getElem?_eq_some_iff.1 hb).1

theorem MapIs.kept {w' : World} {row : Option Nat} (h : MapIs P k ek ev w b n m) (hg : w.grownBy w' row) (hne : some b ≠ row) : MapIs P k ek ev w' b n m := by
  have hlt := h.lt
  obtain ⟨es, clock, hb, r⟩ := h
  exact ⟨es, clock, (hg.block b hlt hne).trans hb, r⟩

theorem MapIs.block {w' : World} (h : MapIs P k ek ev w b n m) (he : w'.heap[b]? = w.heap[b]?) : MapIs P k ek ev w' b n m := by
  obtain ⟨es, clock, hb, r⟩ := h
  exact ⟨es, clock, he.trans hb, r⟩

theorem MapIs.alloc (h : MapIs P k ek ev w b n m) (o : Obj) : MapIs P k ek ev (w.alloc o) b n m := h.kept (World.grownBy_alloc w o none) (by simp)
theorem MapIs.drew (h : MapIs P k ek ev w b n m) : MapIs P k ek ev w.drew b n m := h

theorem MapIs.find (h : MapIs P k ek ev w b n m) (K : Keyed P k) (inj : ∀ a a', ek a = ek a' → a = a') {a : α} {l : Lit} (hl : keyOf P k (ek a) = some l) :
    ∃ es clock, w.heap[b]? = some (.map es clock) ∧
    ((m a = none ∧ (Instr.findKey k (ek a) es.toList).run P w = .ok none w ∧ ∀ e ∈ es.toList, e.key ≠ ek a) ∨
     (∃ x j e, m a = some x ∧ (Instr.findKey k (ek a) es.toList).run P w = .ok (some (j, ev x)) w ∧ es.toList[j]? = some e ∧ e.key = ek a ∧ e.val = ev x)) := by
  obtain ⟨es, clock, hb, hn, hst, h1, h2⟩ := h
  refine ⟨es, clock, hb, ?_⟩
  rcases K.find w hl es.toList (fun e he => by obtain ⟨a', x, l', e1, _, _, e4⟩ := h1 e he; exact ⟨l', by rw [e1]; exact e4⟩) with ⟨r1, r2⟩ | ⟨j, e, r1, r2, r3⟩
  · refine .inl ⟨?_, r1, r2⟩
    cases hm : m a with
    | none => rfl
    | some x =>
      obtain ⟨e, he, e1, _⟩ := h2 a x hm
      exact (r2 e he e1).elim
  · have hmem : e ∈ es.toList := List.mem_of_getElem? r2
    obtain ⟨a', x, l', e1, e2, e3, _⟩ := h1 e hmem
    have : a' = a := inj _ _ (by rw [← e1, r3])
    subst this
    exact .inr ⟨x, j, e, e3, by rw [r1, e2], r2, r3, e2⟩

theorem MapIs.run_look_ok {t e : TypeId} {z : Value} (h : MapIs P k ek ev w b n m) (K : Keyed P k) (inj : ∀ a a', ek a = ek a' → a = a') (ht : P.underlying t = some (.map k e)) (hz : (zeroValue e).run P w = .ok z w)
    {a : α} {l : Lit} (hl : keyOf P k (ek a) = some l) : (Instr.lookup t (.map (some b)) (ek a) true).run P w = .ok (.tuple #[((m a).map ev).getD z, .bool (m a).isSome]) w := by
  obtain ⟨es, clock, hb, ⟨hm, r1, _⟩ | ⟨x, j, e, hm, r1, _, _, r3⟩⟩ := h.find K inj hl
  · simp [Instr.lookup, run_underlying ht, MapKept.run_getObj_map hb, K.check w _ hl, r1, hz, hm, Result.andThen]
  · simp [Instr.lookup, run_underlying ht, MapKept.run_getObj_map hb, K.check w _ hl, r1, hm, Result.andThen]

theorem MapIs.run_look {t e : TypeId} {z : Value} (h : MapIs P k ek ev w b n m) (K : Keyed P k) (inj : ∀ a a', ek a = ek a' → a = a') (ht : P.underlying t = some (.map k e)) (hz : (zeroValue e).run P w = .ok z w)
    {a : α} {l : Lit} (hl : keyOf P k (ek a) = some l) : (Instr.lookup t (.map (some b)) (ek a) false).run P w = .ok (((m a).map ev).getD z) w := by
  obtain ⟨es, clock, hb, ⟨hm, r1, _⟩ | ⟨x, j, e, hm, r1, _, _, r3⟩⟩ := h.find K inj hl
  · simp [Instr.lookup, run_underlying ht, MapKept.run_getObj_map hb, K.check w _ hl, r1, hz, hm, Result.andThen]
  · simp [Instr.lookup, run_underlying ht, MapKept.run_getObj_map hb, K.check w _ hl, r1, hm, Result.andThen]

theorem modify_set {α : Type} (l : List α) (j : Nat) (f : α → α) (e : α) (h : l[j]? = some e) : l.modify j f = l.set j (f e) := by
  apply List.ext_getElem?
  intro i
  rw [List.getElem?_modify, List.getElem?_set]
  by_cases hij : j = i
  · subst hij
    have := (List.getElem?_eq_some_iff.1 h).1
    have h' : l[j] = e := by rw [List.getElem?_eq_getElem this] at h; exact Option.some.inj h
    simp [this, h']
  · simp [hij]

theorem MapIs.run_store [DecidableEq α] {t e : TypeId} (h : MapIs P k ek ev w b n m) (K : Keyed P k) (inj : ∀ a a', ek a = ek a' → a = a') (ht : P.underlying t = some (.map k e))
    {a : α} {l : Lit} (hl : keyOf P k (ek a) = some l) (x : β) :
    ∃ w', (Instr.mapUpdate t (.map (some b)) (ek a) (ev x)).run P w = .ok () w' ∧ MapIs P k ek ev w' b (if (m a).isSome then n else n + 1) (upd m a x) ∧ w.grownBy w' (some b) := by
  have h0 := h
  obtain ⟨es, clock, hb, hn, hst, h1, h2⟩ := h0
  obtain ⟨es0, clock0, hb0, hf⟩ := h.find K inj hl
  rw [hb] at hb0
  cases hb0
  have keep : ∀ es' clock', w.grownBy (setBlock w b (.map es' clock')) (some b) := fun es' clock' => ⟨rfl, rfl, rfl, by simp [setBlock], fun i _ hi => heap_setBlock_other hb _ (fun e => hi (by rw [e]))⟩
  rcases hf with ⟨hm, r1, r2⟩ | ⟨y, j, e0, hm, r1, r2, r3, r4⟩
  · refine ⟨setBlock w b (.map (es.push ⟨ek a, ev x, clock⟩) (clock + 1)), ?_, ⟨_, _, heap_setBlock_same hb _, by simp [hm, hn], stamped_push hst r2, ?_, ?_⟩, keep _ _⟩
    · simp [Instr.mapUpdate, run_underlying ht, MapKept.run_getObj_map hb, K.check w false hl, r1, MapKept.run_setObj_map _ hb, Result.andThen, setBlock]
    · intro e' he'
      simp only [Array.toList_push, List.mem_append, List.mem_singleton] at he'
      rcases he' with he' | rfl
      · obtain ⟨a', x', l', e1, e2, e3, e4⟩ := h1 e' he'
        have hne : a' ≠ a := fun e => r2 e' he' (by rw [e1, e])
        exact ⟨a', x', l', e1, e2, by simp [upd, hne, e3], e4⟩
      · exact ⟨a, x, l, rfl, rfl, by simp [upd], hl⟩
    · intro a' x' ha'
      simp only [Array.toList_push, List.mem_append, List.mem_singleton]
      by_cases hne : a' = a
      · subst hne
        simp [upd] at ha'
        subst ha'
        exact ⟨_, .inr rfl, rfl, rfl⟩
      · simp [upd, hne] at ha'
        obtain ⟨e', he', e1, e2⟩ := h2 a' x' ha'
        exact ⟨e', .inl he', e1, e2⟩
  · have hj : es[j]? = some e0 := by simpa using r2
    have hjl : j < es.toList.length := (List.getElem?_eq_some_iff.1 r2).1
    have hlist : (es.modify j (fun e' => { e' with key := ek a, val := ev x })).toList = es.toList.set j { e0 with key := ek a, val := ev x } := by rw [Array.toList_modify, modify_set _ _ _ _ r2]
    have nod := hst.2.2
    have who : ∀ e' ∈ es.toList.set j { e0 with key := ek a, val := ev x }, e' = { e0 with key := ek a, val := ev x } ∨ (e' ∈ es.toList ∧ e'.key ≠ ek a) := by
      intro e' he'
      obtain ⟨i, hi, ex⟩ := List.getElem_of_mem he'
      rw [List.getElem_set] at ex
      split at ex
      · exact .inl ex.symm
      · rename_i hne
        have hi' : i < es.toList.length := by simpa using hi
        refine .inr ⟨ex ▸ List.getElem_mem hi', fun hk => hne ?_⟩
        have e5 : (es.toList.map (·.key))[i]? = (es.toList.map (·.key))[j]? := by
          simp only [List.getElem?_map, r2, List.getElem?_eq_getElem hi', Tre.qd, ex, hk, r3]
        exact ((List.getElem?_inj (by simpa using hi') nod).1 e5).symm
    refine ⟨setBlock w b (.map (es.modify j (fun e' => { e' with key := ek a, val := ev x })) clock), ?_, ⟨_, _, heap_setBlock_same hb _, by simp [hm, hn], stamped_modify hst _ _ (fun _ _ => rfl) (fun e' _ he' => ?_), ?_, ?_⟩, keep _ _⟩
    · simp [Instr.mapUpdate, run_underlying ht, MapKept.run_getObj_map hb, K.check w false hl, r1, hj, r3, K.stays w hl, MapKept.run_setObj_map _ hb, Result.andThen, setBlock]
    · rw [hj] at he'; cases he'; exact r3.symm
    · intro e' he'
      rw [hlist] at he'
      rcases who e' he' with rfl | ⟨he', hne⟩
      · exact ⟨a, x, l, rfl, rfl, by simp [upd], hl⟩
      · obtain ⟨a', x', l', e1, e2, e3, e4⟩ := h1 e' he'
        have hne' : a' ≠ a := fun e => hne (by rw [e1, e])
        exact ⟨a', x', l', e1, e2, by simp [upd, hne', e3], e4⟩
    · intro a' x' ha'
      rw [hlist]
      by_cases hne : a' = a
      · subst hne
        simp [upd] at ha'
        subst ha'
        exact ⟨{ e0 with key := ek a', val := ev x }, List.mem_iff_getElem.2 ⟨j, by simpa using hjl, by simp⟩, rfl, rfl⟩
      · simp [upd, hne] at ha'
        obtain ⟨e', he', e1, e2⟩ := h2 a' x' ha'
        obtain ⟨i, hi, ex⟩ := List.getElem_of_mem he'
        have hij : j ≠ i := fun e => by
          subst e
          rw [List.getElem?_eq_getElem hi, ex] at r2
          cases r2
          exact hne (inj _ _ (by rw [← e1, r3]))
        exact ⟨e', List.mem_iff_getElem.2 ⟨i, by simpa using hi, by rw [List.getElem_set_ne hij]; exact ex⟩, e1, e2⟩
end

section
variable {α β : Type} {P : Program} {k : TypeId} {ek : α → Value} {ev : β → Value} {w : World} {b n : Nat} {m : α → Option β}
  {ops : Array Oper} {rest : List Oper} {o : Oper} {a : Act} {Q : Exit → Act → World → Prop}

theorem wpList_look_ok (hg : o.guard = none) (mo xo : Operand) (t : TypeId) (hop : o.op = Op.lookup t mo xo true) (e : TypeId) (K : Keyed P k) (inj : ∀ a a', ek a = ek a' → a = a')
    (ht : P.underlying t = some (.map k e)) {z : Value} (hz : (zeroValue e).run P w = .ok z w) (hm : a.eval mo = .map (some b)) (h : MapIs P k ek ev w b n m) (x : α) (hx : a.eval xo = ek x) {l : Lit} (hl : keyOf P k (ek x) = some l)
    (hK : wpList P ops Q rest (a.put o.dst (.tuple #[((m x).map ev).getD z, .bool (m x).isSome])) w) : wpList P ops Q (o :: rest) a w := by
  refine wpList_plain hg fun K' hK' => ?_
  have hrun := h.run_look_ok K inj ht hz hl
  unfold Oper.wp
  simp [execOp, hop, hm, hx, hrun, Result.andThen]
  exact hK' _ _ hK

theorem wpList_look_some (hg : o.guard = none) (mo xo : Operand) (t : TypeId) (hop : o.op = Op.lookup t mo xo true) (e : TypeId) (K : Keyed P k) (inj : ∀ a a', ek a = ek a' → a = a')
    (ht : P.underlying t = some (.map k e)) {z : Value} (hz : (zeroValue e).run P w = .ok z w) (hm : a.eval mo = .map (some b)) (h : MapIs P k ek ev w b n m) (x : α) (hx : a.eval xo = ek x) {l : Lit} (hl : keyOf P k (ek x) = some l)
    (y : β) (hy : m x = some y) (hK : wpList P ops Q rest (a.put o.dst (.tuple #[ev y, .bool true])) w) : wpList P ops Q (o :: rest) a w :=
  wpList_look_ok hg mo xo t hop e K inj ht hz hm h x hx hl (by rw [hy]; exact hK)

theorem wpList_look_none (hg : o.guard = none) (mo xo : Operand) (t : TypeId) (hop : o.op = Op.lookup t mo xo true) (e : TypeId) (K : Keyed P k) (inj : ∀ a a', ek a = ek a' → a = a')
    (ht : P.underlying t = some (.map k e)) {z : Value} (hz : (zeroValue e).run P w = .ok z w) (hm : a.eval mo = .map (some b)) (h : MapIs P k ek ev w b n m) (x : α) (hx : a.eval xo = ek x) {l : Lit} (hl : keyOf P k (ek x) = some l)
    (hy : m x = none) (hK : wpList P ops Q rest (a.put o.dst (.tuple #[z, .bool false])) w) : wpList P ops Q (o :: rest) a w :=
  wpList_look_ok hg mo xo t hop e K inj ht hz hm h x hx hl (by rw [hy]; exact hK)

theorem wpList_look (hg : o.guard = none) (mo xo : Operand) (t : TypeId) (hop : o.op = Op.lookup t mo xo false) (e : TypeId) (K : Keyed P k) (inj : ∀ a a', ek a = ek a' → a = a')
    (ht : P.underlying t = some (.map k e)) {z : Value} (hz : (zeroValue e).run P w = .ok z w) (hm : a.eval mo = .map (some b)) (h : MapIs P k ek ev w b n m) (x : α) (hx : a.eval xo = ek x) {l : Lit} (hl : keyOf P k (ek x) = some l)
    (hK : wpList P ops Q rest (a.put o.dst (((m x).map ev).getD z)) w) : wpList P ops Q (o :: rest) a w := by
  refine wpList_plain hg fun K' hK' => ?_
  have hrun := h.run_look K inj ht hz hl
  unfold Oper.wp
  simp [execOp, hop, hm, hx, hrun, Result.andThen]
  exact hK' _ _ hK

theorem wpList_look1_some (hg : o.guard = none) (mo xo : Operand) (t : TypeId) (hop : o.op = Op.lookup t mo xo false) (e : TypeId) (K : Keyed P k) (inj : ∀ a a', ek a = ek a' → a = a')
    (ht : P.underlying t = some (.map k e)) {z : Value} (hz : (zeroValue e).run P w = .ok z w) (hm : a.eval mo = .map (some b)) (h : MapIs P k ek ev w b n m) (x : α) (hx : a.eval xo = ek x) {l : Lit} (hl : keyOf P k (ek x) = some l)
    (y : β) (hy : m x = some y) (hK : wpList P ops Q rest (a.put o.dst (ev y)) w) : wpList P ops Q (o :: rest) a w :=
  wpList_look hg mo xo t hop e K inj ht hz hm h x hx hl (by rw [hy]; exact hK)

theorem wpList_look1_none (hg : o.guard = none) (mo xo : Operand) (t : TypeId) (hop : o.op = Op.lookup t mo xo false) (e : TypeId) (K : Keyed P k) (inj : ∀ a a', ek a = ek a' → a = a')
    (ht : P.underlying t = some (.map k e)) {z : Value} (hz : (zeroValue e).run P w = .ok z w) (hm : a.eval mo = .map (some b)) (h : MapIs P k ek ev w b n m) (x : α) (hx : a.eval xo = ek x) {l : Lit} (hl : keyOf P k (ek x) = some l)
    (hy : m x = none) (hK : wpList P ops Q rest (a.put o.dst z) w) : wpList P ops Q (o :: rest) a w :=
  wpList_look hg mo xo t hop e K inj ht hz hm h x hx hl (by rw [hy]; exact hK)

theorem wpList_store [DecidableEq α] (hg : o.guard = none) (mo xo vo : Operand) (t : TypeId) (hop : o.op = Op.mapUpdate t mo xo vo ∨ o.op = Op.insert t mo xo vo) (e : TypeId) (K : Keyed P k) (inj : ∀ a a', ek a = ek a' → a = a')
    (ht : P.underlying t = some (.map k e)) (hm : a.eval mo = .map (some b)) (h : MapIs P k ek ev w b n m) (x : α) (hx : a.eval xo = ek x) {l : Lit} (hl : keyOf P k (ek x) = some l) (y : β) (hy : a.eval vo = ev y)
    (hK : ∀ w', MapIs P k ek ev w' b (if (m x).isSome then n else n + 1) (upd m x y) → w.grownBy w' (some b) → wpList P ops Q rest (a.put o.dst undef) w') : wpList P ops Q (o :: rest) a w := by
  refine wpList_plain hg fun K' hK' => ?_
  obtain ⟨w', hrun, r1, r2⟩ := h.run_store K inj ht hl y
  unfold Oper.wp
  rcases hop with hop | hop
  · simp [execOp, hop, hm, hx, hy, hrun, Result.andThen]
    exact hK' _ _ (hK w' r1 r2)
  · simp [execOp, hop, hm, hx, hy, hrun, Result.andThen]
    exact hK' _ _ (hK w' r1 r2)
end

end Go.Tre
namespace Go.Tre
def arity : ByteArray → Option Int := upd (upd (upd (upd (upd (upd (fun _ => none) ⟨#[105, 110, 116]⟩ 0) ⟨#[98, 111, 111, 108]⟩ 0) ⟨#[115, 116, 114, 105, 110, 103]⟩ 0) ⟨#[117, 110, 105, 116]⟩ 0) ⟨#[45, 62]⟩ 2) ⟨#[42]⟩ 2
def labelOk (l : List ByteArray) (i : Nat) : Bool := isName (l.getD i ByteArray.empty) && (i == 0 || Op.bytesLess (l.getD (i - 1) ByteArray.empty).toList (l.getD i ByteArray.empty).toList)
def rising (l : List ByteArray) : Bool := (List.range l.length).all (labelOk l)
def idxFunc {α : Type} (p : α → Bool) (xs : List α) : Int := if xs.findIdx p < xs.length then (xs.findIdx p : Int) else -1
theorem idxFunc_hit {α : Type} {p : α → Bool} {xs : List α} {k : Nat} (h : k < xs.length) (hp : p xs[k] = true) (hn : ∀ j (hj : j < xs.length), j < k → p xs[j] = false) : idxFunc p xs = k := by
  have : xs.findIdx p = k := (List.findIdx_eq h).2 ⟨hp, fun j hj => hn j (by omega) hj⟩
  unfold idxFunc; rw [this, if_pos h]
theorem idxFunc_miss {α : Type} {p : α → Bool} {xs : List α} (hn : ∀ j (hj : j < xs.length), p xs[j] = false) : idxFunc p xs = -1 := by
  have : xs.findIdx p = xs.length := List.findIdx_eq_length.2 (fun x hx => by
    obtain ⟨j, hj, rfl⟩ := List.getElem_of_mem hx
    exact hn j hj)
  unfold idxFunc; rw [this, if_neg (by omega)]
theorem idxFunc_any {α : Type} (p : α → Bool) (xs : List α) : decide (0 ≤ idxFunc p xs) = xs.any p := by
  unfold idxFunc
  by_cases h : xs.findIdx p < xs.length
  · rw [if_pos h]
    have := (List.any_eq_true (l := xs) (p := p)).2 (List.findIdx_lt_length.1 h)
    rw [this]; simp
  · rw [if_neg h]
    have : xs.any p = false := by
      rw [← Bool.not_eq_true, List.any_eq_true]
      exact fun e => h (List.findIdx_lt_length.2 e)
    rw [this]; rfl
def outside (size : Nat) (a : Int) : Bool := decide (a < 0) || decide ((size : Int) ≤ a)
def mayB (n : Node) (size : Nat) : Bool :=
  !(n.args.any (outside size)) &&
  (if n.kind = 1 then decide (n.labels.length = 0) && !n.isOpen && decide (n.name.size = 0) && decide (n.args.length = 0)
   else if n.kind = 2 then decide (n.labels.length = 0) && !n.isOpen && (match arity n.name with | some k => decide ((n.args.length : Int) = k) | none => false)
   else if n.kind = 3 then decide (n.name.size = 0) && decide (n.labels.length = n.args.length) && rising n.labels
   else false)
end Go.Tre
namespace Go.Proofs.YtaleodkbghogfaaGreatDoor.gr
open Go.RowKit Go.Maps Go.Tre lex

theorem K : Keyed Tryz.prog 9 := string_keyed Tryz.underlying9
theorem inj (a b : ByteArray) (h : Value.string a = Value.string b) : a = b := by injection h
theorem ky (s : ByteArray) (h : s.size ≤ maxLen) : keyOf Tryz.prog 9 (.string s) = some (.string s.data.toList) := by
  simp [keyOf, Tryz.underlying9, mapKey, h]
abbrev ei (n : Int) : Value := .int .i64 n

set_option maxHeartbeats 1000000 in
theorem arity_any (w : World) :
    Calls Tryz.prog 18 #[] w fun e w' => e = .returned (.map (some w.heap.size)) ∧ MapIs Tryz.prog 9 Value.string ei w' w.heap.size 6 arity ∧ Below w.heap.size w w' := by
  have hmm := @run_makeMap Tryz.prog
  have h0 := MapIs.made w Tryz.prog 9 Value.string ei
  have b0 := (Below.refl w.heap.size w).alloc (Nat.le_refl _) (.map #[] 0)
  go_enter Tryz.func18, Tryz.ntmps18
  go_wp2_with (first | (refine wpList_store rfl _ _ _ 44 (.inr rfl) 3 K inj Tryz.underlying44 rfl (by assumption) ⟨#[105, 110, 116]⟩ rfl (ky ⟨#[105, 110, 116]⟩ (by decide)) 0 rfl ?_; intro w1 h1 g1; have bb := below_row (by assumption) g1 (Nat.le_refl _)) | (refine wpList_store rfl _ _ _ 44 (.inr rfl) 3 K inj Tryz.underlying44 rfl (by assumption) ⟨#[98, 111, 111, 108]⟩ rfl (ky ⟨#[98, 111, 111, 108]⟩ (by decide)) 0 rfl ?_; intro w1 h1 g1; have bb := below_row (by assumption) g1 (Nat.le_refl _)) | (refine wpList_store rfl _ _ _ 44 (.inr rfl) 3 K inj Tryz.underlying44 rfl (by assumption) ⟨#[115, 116, 114, 105, 110, 103]⟩ rfl (ky ⟨#[115, 116, 114, 105, 110, 103]⟩ (by decide)) 0 rfl ?_; intro w1 h1 g1; have bb := below_row (by assumption) g1 (Nat.le_refl _)) | (refine wpList_store rfl _ _ _ 44 (.inr rfl) 3 K inj Tryz.underlying44 rfl (by assumption) ⟨#[117, 110, 105, 116]⟩ rfl (ky ⟨#[117, 110, 105, 116]⟩ (by decide)) 0 rfl ?_; intro w1 h1 g1; have bb := below_row (by assumption) g1 (Nat.le_refl _)) | (refine wpList_store rfl _ _ _ 44 (.inr rfl) 3 K inj Tryz.underlying44 rfl (by assumption) ⟨#[45, 62]⟩ rfl (ky ⟨#[45, 62]⟩ (by decide)) 2 rfl ?_; intro w1 h1 g1; have bb := below_row (by assumption) g1 (Nat.le_refl _)) | (refine wpList_store rfl _ _ _ 44 (.inr rfl) 3 K inj Tryz.underlying44 rfl (by assumption) ⟨#[42]⟩ rfl (ky ⟨#[42]⟩ (by decide)) 2 rfl ?_; intro w1 h1 g1; have bb := below_row (by assumption) g1 (Nat.le_refl _)))
  go_ret
  exact ⟨rfl, by assumption, by assumption⟩

theorem labels_small {s : ByteArray} {l : List ByteArray} (h : s ∈ l) (hb : (l.map fun s => s.size + 1).sum ≤ 8388608) : s.size ≤ 8388608 := by
  have : ∀ l : List ByteArray, s ∈ l → s.size + 1 ≤ (l.map fun s => s.size + 1).sum := fun l => by
    induction l with
    | nil => intro h; cases h
    | cons x r ih =>
      intro h
      simp only [List.map_cons, List.sum_cons]
      rcases List.mem_cons.1 h with rfl | h
      · omega
      · have := ih h; omega
  have := this l h
  omega

set_option maxHeartbeats 2000000 in
theorem rising_any (a : Option Addr) (cap : Nat) (l : List ByteArray) (w : World) (hl : StrsAt w a l) (hb : (l.map fun s => s.size + 1).sum ≤ 8388608) (hm : MaxAt w) :
    Calls Tryz.prog 39 #[.slice a l.length cap] w fun e w' => e = .returned (.bool (rising l)) ∧ w = w' := by
  have hlen : l.length ≤ 8388608 := Nat.le_trans (length_le_sum _ (fun x => by omega) l) hb
  go_enter Tryz.func39, Tryz.ntmps39
  go_wp2_with fail
  go_loop [7] (fun i => ∃ k : Nat, k ≤ l.length ∧ i = .int .i64 k ∧ ∀ j, j < k → labelOk l j = true) (fun i => l.length - (intOf i).toNat)
  case atStart => exact ⟨0, Nat.zero_le _, rfl, fun j h => by omega⟩
  case round =>
    obtain ⟨k, hk, rfl, hrel⟩ := hrel
    have HR := Tre.hid hrel
    clear hrel
    by_cases hlt : k < l.length
    · obtain ⟨b, off, rfl, hc⟩ := hl.at_ k (.string l[k]) (by simp [List.getElem?_eq_getElem hlt])
      have hsz := labels_small (List.getElem_mem hlt) hb
      have hok : labelOk l k = (isName l[k] && (k == 0 || Op.bytesLess (l.getD (k - 1) ByteArray.empty).toList l[k].toList)) := by
        unfold labelOk; rw [List.getD_eq_getElem?_getD, List.getElem?_eq_getElem hlt, Option.getD_some]
      have no : labelOk l k = false → rising l = false := fun h => by
        unfold rising
        rw [← Bool.not_eq_true, List.all_eq_true]
        exact fun hh => by have := hh k (List.mem_range.2 hlt); rw [h] at this; cases this
      by_cases hn : isName l[k] = true
      · by_cases hk0 : k = 0
        · have HO : Hid (labelOk l k = true) := by show _ = _; rw [hok, hn]; simp [hk0]
          have e0 : ¬ (0 : Int) < (k : Int) := by omega
          clear hok no hk0
          go_wp2_with (go_at_call 60; refine (isName_any _ _ hsz hm).mono ?_; rintro e w' ⟨rfl, rfl⟩)
          go_round
          case rel =>
            refine ⟨k + 1, by omega, by go_num, fun j hj => ?_⟩
            by_cases hjk : j = k
            · rw [hjk]; exact HO.out
            · exact HR.out j (by omega)
          case measure => simp [intOf]; omega
        · have hp : k - 1 < l.length := by omega
          obtain ⟨b', off', hbb, hc'⟩ := hl.at_ (k - 1) (.string l[k - 1]) (by simp [List.getElem?_eq_getElem hp])
          cases hbb
          have e0 : (0 : Int) < (k : Int) := by omega
          have e1 : (0 : Int) ≤ (k : Int) - 1 := by omega
          have hgd : l.getD (k - 1) ByteArray.empty = l[k - 1] := by rw [List.getD_eq_getElem?_getD, List.getElem?_eq_getElem hp, Option.getD_some]
          have hb0 : (k == 0) = false := by simpa using hk0
          by_cases hlo : Op.bytesLess l[k - 1].toList l[k].toList = true
          · have HO : Hid (labelOk l k = true) := by show _ = _; rw [hok, hn, hb0, hgd, hlo]; rfl
            clear hok no hgd hb0
            go_wp2_with (go_at_call 60; refine (isName_any _ _ hsz hm).mono ?_; rintro e w' ⟨rfl, rfl⟩)
            go_round
            case rel =>
              refine ⟨k + 1, by omega, by go_num, fun j hj => ?_⟩
              by_cases hjk : j = k
              · rw [hjk]; exact HO.out
              · exact HR.out j (by omega)
            case measure => simp [intOf]; omega
          · have HO : Hid (rising l = false) := no (by rw [hok, hn, hb0, hgd]; simpa using hlo)
            have hlo' : Op.bytesLess l[k - 1].toList l[k].toList = false := by simpa using hlo
            clear hok no hgd hb0 hlo
            go_wp2_with (go_at_call 60; refine (isName_any _ _ hsz hm).mono ?_; rintro e w' ⟨rfl, rfl⟩)
            go_ret
            exact ⟨ret_bool HO.out.symm, rfl⟩
      · have hn' : isName l[k] = false := by simpa using hn
        have HO : Hid (rising l = false) := no (by rw [hok, hn']; rfl)
        clear hok no hn
        go_wp2_with (go_at_call 60; refine (isName_any _ _ hsz hm).mono ?_; rintro e w' ⟨rfl, rfl⟩)
        go_ret
        exact ⟨ret_bool HO.out.symm, rfl⟩
    · have HO : Hid (rising l = true) := by
        show _ = _
        unfold rising
        rw [List.all_eq_true]
        exact fun j hj => HR.out j (by have := List.mem_range.1 hj; omega)
      go_wp2_with fail
      go_ret
      exact ⟨ret_bool HO.out.symm, rfl⟩
end Go.Proofs.YtaleodkbghogfaaGreatDoor.gr
