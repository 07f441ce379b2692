/- Layer 1, plain: a text's tokens. Plain laws of the lexer's blanks and notes. Plain: the lexer's answer at a given text, by reckoning. Layer 3, plain: types as they are written, and the parser (where it comes to a type, labels rising). Layer 2, plain: which types may be, and how deep they are. Layer 7, plain: a type's nodes in a table; what its names are bound to; its graph. The lexer's walks: rest, fail. The lexer's contracts of library calls, in the words of the plain lexer; what an error is in memory. lex.(*lexer).skip: blanks and notes. -/
import Derived.Test.YtoieknnnadgfpaaGreatDoorB00
import Derived.Test.YtoieknnnadgfpaaGreatDoorB01
import Derived.Test.YtoieknnnadgfpaaGreatDoorB06
import Derived.Test.YtoieknnnadgfpaaGreatDoorB08
import Derived.Deep.DeepCutAuto
import Derived.Deep.RegionHeld3
import Derived.Deep.RegionWith
import Derived.Test.YtoieknnnadgfpaaGreatDoorB05
import Derived.Shelf.Strings.SlTrimAscii
import Derived.Lib.Index
import Derived.Deep.LoopGhost
set_option linter.unusedVariables false
namespace Go.Tre
structure Tok where
 kind : Nat
 at_ : Nat
 n : Int
 s : List UInt8
deriving DecidableEq

def blank (c : UInt8) : Bool := c == 9 || c == 10 || c == 13 || c == 32
def noteEnd : List UInt8 → Option (List UInt8)
 | [] => none
 | [_] => none
 | c :: d :: r => if c = 42 ∧ d = 41 then some r else noteEnd (d :: r)
theorem noteEnd_len : ∀ {l r : List UInt8}, noteEnd l = some r → r.length + 2 ≤ l.length
 | [], _, h => by cases h
 | [_], _, h => by cases h
 | c :: d :: l, r, h => by
  unfold noteEnd at h
  split at h
  ·cases h; simp
  ·have := noteEnd_len h; simp only [List.length_cons] at this ⊢; omega
def skipS (l : List UInt8) : Option (List UInt8) :=
 match h : l.dropWhile blank with
 | 40 :: 42 :: r => match h2 : noteEnd r with
  | none => none
  | some r' => skipS r'
 | r => some r
termination_by l.length
decreasing_by
 have h3 := (List.dropWhile_sublist (l := l) blank).length_le
 rw [h] at h3
 have h4 := noteEnd_len h2
 simp only [List.length_cons] at h3
 omega
def quotedS : List UInt8 → Option (List UInt8 × Nat)
 | [] => none
 | c :: r =>
  if c = 34 then some ([], 1)
  else if c = 92 then match r with
   | [] => none
   | d :: r' => if d = 92 ∨ d = 34 then (quotedS r').map fun p => (d :: p.1, p.2 + 2) else if d = 110 then (quotedS r').map fun p => (10 :: p.1, p.2 + 2) else none
  else (quotedS r).map fun p => (c :: p.1, p.2 + 1)
def symbolsS : List (List UInt8) := [[45, 62], [60, 45], [58, 62], [46, 46], [123, 60], [62, 125], [40], [41], [59], [58], [61], [60], [62], [43], [45], [42], [47], [44], [35]]
def isDig (c : UInt8) : Bool := decide (48 ≤ c.toNat) && decide (c.toNat ≤ 57)
def digitsVal (l : List UInt8) : Nat := l.foldl (fun a c => 10 * a + (c.toNat - 48)) 0
def nextS (l : List UInt8) : Option (Tok × Nat) :=
 if wordFrom true l > 0 then
  if wordFrom true l > 100 then none
  else some (⟨if keyWords.contains (l.take (wordFrom true l)) then 2 else 1, 0, 0, l.take (wordFrom true l)⟩, wordFrom true l)
 else match l with
  | [] => none
  | c :: r =>
   if c = 39 then
    if wordFrom true r = 0 ∨ wordFrom true r > 100 then none else some (⟨5, 0, 0, r.take (wordFrom true r)⟩, wordFrom true r + 1)
   else if isDig c then
    let d := (c :: r).takeWhile isDig
    if digitsVal d ≤ 9223372036854775807 then some (⟨3, 0, digitsVal d, []⟩, d.length) else none
   else if c = 34 then (quotedS r).map fun p => (⟨4, 0, 0, p.1⟩, p.2 + 1)
   else (symbolsS.find? fun x => x.isPrefixOf (c :: r)).map fun x => (⟨6, 0, 0, x⟩, x.length)
theorem skipS_len {l r : List UInt8} (h : skipS l = some r) : r.length ≤ l.length := by
 induction hn : l.length using Nat.strongRecOn generalizing l with
 | _ n ih =>
  have h3 := (List.dropWhile_sublist (l := l) blank).length_le
  rw [skipS] at h
  split at h
  ·rename_i r0 h1
   rw [h1] at h3
   simp only [List.length_cons] at h3
   split at h
   ·cases h
   ·rename_i r' h2
    have h4 := noteEnd_len h2
    have := ih r'.length (by omega) h rfl
    omega
  ·cases h
   omega
theorem wordFrom_len : ∀ (l : List UInt8) (b : Bool), wordFrom b l ≤ l.length
 | [], _ => by simp [wordFrom]
 | c :: r, b => by
  unfold wordFrom
  split
  ·have := wordFrom_len r false; simp only [List.length_cons]; omega
  ·simp
theorem quotedS_len : ∀ (k : Nat) (l : List UInt8), l.length ≤ k → ∀ p, quotedS l = some p → 1 ≤ p.2 ∧ p.2 ≤ l.length
 | 0, l, hk, p, h => by
  have : l = [] := List.eq_nil_of_length_eq_zero (by omega)
  subst this
  simp [quotedS] at h
 | k + 1, [], _, p, h => by simp [quotedS] at h
 | k + 1, c :: r, hk, p, h => by
  simp only [List.length_cons] at hk ⊢
  unfold quotedS at h
  split at h
  ·cases h; exact ⟨Nat.le_refl _, by simp⟩
  ·split at h
   ·split at h
    ·cases h
    ·rename_i d r'
     simp only [List.length_cons] at hk ⊢
     split at h
     ·obtain ⟨q, hq, rfl⟩ := Option.map_eq_some_iff.1 h
      have := quotedS_len k r' (by omega) q hq
      simp only; omega
     ·split at h
      ·obtain ⟨q, hq, rfl⟩ := Option.map_eq_some_iff.1 h
       have := quotedS_len k r' (by omega) q hq
       simp only; omega
      ·cases h
   ·obtain ⟨q, hq, rfl⟩ := Option.map_eq_some_iff.1 h
    have := quotedS_len k r (by omega) q hq
    simp only; omega
theorem takeWhile_len {α : Type} (p : α → Bool) : ∀ l : List α, (l.takeWhile p).length ≤ l.length := fun l => (List.takeWhile_sublist p).length_le
theorem nextS_len {l : List UInt8} {t : Tok} {n : Nat} (h : nextS l = some (t, n)) : 1 ≤ n ∧ n ≤ l.length := by
 unfold nextS at h
 split at h
 ·split at h
  ·cases h
  ·cases h
   exact ⟨by omega, wordFrom_len l true⟩
 ·split at h
  ·cases h
  ·rename_i c r _
   split at h
   ·split at h
    ·cases h
    ·cases h
     have := wordFrom_len r true
     simp only [List.length_cons]; omega
   ·split at h
    ·rename_i hd
     simp only at h
     split at h
     ·cases h
      refine ⟨?_, takeWhile_len _ _⟩
      rw [List.takeWhile_cons, if_pos hd]; simp
     ·cases h
    ·split at h
     ·obtain ⟨q, hq, e⟩ := Option.map_eq_some_iff.1 h
      cases e
      have := quotedS_len r.length r (Nat.le_refl _) q hq
      simp only [List.length_cons]; omega
     ·obtain ⟨x, hx, e⟩ := Option.map_eq_some_iff.1 h
      cases e
      have h1 := List.find?_some hx
      have h2 := List.mem_of_find?_eq_some hx
      have h3 : x <+: c :: r := by simpa using h1
      refine ⟨?_, h3.length_le⟩
      have : ∀ y ∈ symbolsS, 1 ≤ y.length := by decide
      exact this x h2
def allS (N : Nat) (l : List UInt8) : Option (List Tok) :=
 match h : skipS l with
 | none => none
 | some [] => some [⟨0, N, 0, []⟩]
 | some (c :: r) => match h2 : nextS (c :: r) with
  | none => none
  | some (t, n) => (allS N ((c :: r).drop n)).map fun ts => { t with at_ := N - (c :: r).length } :: ts
termination_by l.length
decreasing_by
 have h3 := skipS_len h
 have h4 := nextS_len h2
 simp only [List.length_drop, List.length_cons] at *
 omega
def lexS (l : List UInt8) : Option (List Tok) := if l.length ≤ 65536 then allS l.length l else none
end Go.Tre
namespace Go.Tre
theorem allS_eq (N : Nat) (l : List UInt8) : allS N l = match skipS l with
  | none => none
  | some [] => some [⟨0, N, 0, []⟩]
  | some (c :: r) => match nextS (c :: r) with
   | none => none
   | some (t, n) => (allS N ((c :: r).drop n)).map fun ts => { t with at_ := N - (c :: r).length } :: ts := by
 rw [allS]
 split
 ·rename_i h; rw [h]
 ·rename_i h; rw [h]
 ·rename_i c r h
  rw [h]
  simp only
  split
  ·rename_i h2; rw [h2]
  ·rename_i t n h2; rw [h2]
theorem skipS_note' {l r : List UInt8} (h : l.dropWhile blank = 40 :: 42 :: r) : skipS l = (noteEnd r).bind skipS := by
 rw [skipS]
 split
 ·rename_i r0 h1
  rw [h] at h1
  cases h1
  split
  ·rename_i h2; rw [h2]; rfl
  ·rename_i h2; rw [h2]; rfl
 ·rename_i hn
  exact absurd h (hn r)
theorem skipS_rest' {l : List UInt8} (h : ∀ r, l.dropWhile blank ≠ 40 :: 42 :: r) : skipS l = some (l.dropWhile blank) := by
 rw [skipS]
 split
 ·rename_i r0 h1
  exact absurd h1 (h r0)
 ·rfl
end Go.Tre
namespace Go.Tre
def skipF : Nat → List UInt8 → Option (List UInt8)
 | 0, _ => none
 | k + 1, l => match l.dropWhile blank with
  | 40 :: 42 :: r => match noteEnd r with
   | none => none
   | some r' => skipF k r'
  | r => some r
theorem skipF_eq : ∀ (k : Nat) (l : List UInt8), l.length < k → skipF k l = skipS l
 | 0, _, h => by omega
 | k + 1, l, h => by
  by_cases hn : ∃ r, l.dropWhile blank = 40 :: 42 :: r
  ·obtain ⟨r, hr⟩ := hn
   rw [skipS_note' hr, skipF, hr]
   simp only
   cases hne : noteEnd r with
   | none => rfl
   | some r' =>
    have h1 := noteEnd_len hne
    have h2 := (List.dropWhile_sublist (l := l) blank).length_le
    rw [hr] at h2
    simp only [List.length_cons] at h2
    exact skipF_eq k r' (by omega)
  ·have hn' : ∀ r, l.dropWhile blank ≠ 40 :: 42 :: r := fun r hr => hn ⟨r, hr⟩
   rw [skipS_rest' hn', skipF]
   split
   ·rename_i r hr; exact absurd hr (hn' r)
   ·rfl
def allF : Nat → Nat → List UInt8 → Option (List Tok)
 | 0, _, _ => none
 | k + 1, N, l => match skipF (l.length + 1) l with
  | none => none
  | some [] => some [⟨0, N, 0, []⟩]
  | some (c :: r) => match nextS (c :: r) with
   | none => none
   | some (t, n) => (allF k N ((c :: r).drop n)).map fun ts => { t with at_ := N - (c :: r).length } :: ts
theorem allF_eq : ∀ (k N : Nat) (l : List UInt8), l.length < k → allF k N l = allS N l
 | 0, _, _, h => by omega
 | k + 1, N, l, h => by
  rw [allS_eq, allF, skipF_eq _ l (Nat.lt_succ_self _)]
  cases hs : skipS l with
  | none => rfl
  | some r =>
   have hrl := skipS_len hs
   cases r with
   | nil => rfl
   | cons c r =>
    simp only
    cases hn : nextS (c :: r) with
    | none => rfl
    | some q =>
     obtain ⟨t, n⟩ := q
     have hnl := nextS_len hn
     simp only
     rw [allF_eq k N ((c :: r).drop n) (by rw [List.length_drop]; omega)]
theorem lexS_of {l : List UInt8} {ts : List Tok} (h : allF (l.length + 1) l.length l = some ts) (hl : l.length ≤ 65536) : lexS l = some ts := by
 unfold lexS
 rw [if_pos hl, ← allF_eq _ _ l (Nat.lt_succ_self _), h]
end Go.Tre
namespace Go.Tre
inductive Ty where
 | mk (kind : Nat) (s : List UInt8) (args : List Ty) (labels : List (List UInt8)) (opn : Bool)
def Ty.kind : Ty → Nat | .mk k _ _ _ _ => k
def Ty.s : Ty → List UInt8 | .mk _ s _ _ _ => s
def Ty.args : Ty → List Ty | .mk _ _ a _ _ => a
def Ty.labels : Ty → List (List UInt8) | .mk _ _ _ l _ => l
def Ty.opn : Ty → Bool | .mk _ _ _ _ o => o
def tk (l : List Tok) (i kind : Nat) (s : List UInt8) : Bool := match l[i]? with
 | some t => decide (t.kind = kind) && decide (t.s = s)
 | none => false
def wd (l : List Tok) (i kind : Nat) : Option (List UInt8) := match l[i]? with
 | some t => if t.kind = kind then some t.s else none
 | none => none
def basics : List (List UInt8) := [[105, 110, 116], [98, 111, 111, 108], [115, 116, 114, 105, 110, 103], [117, 110, 105, 116]]
def opS (n : Nat) : List UInt8 := if n = 1 then [45, 62] else [42]
def lessS : List UInt8 → List UInt8 → Bool
 | _, [] => false
 | [], _ :: _ => true
 | a :: l, b :: r => decide (a.toNat < b.toNat) || (decide (a = b) && lessS l r)
mutual
def pLev (l : List Tok) : Nat → Nat → Nat → Option (Ty × Nat)
 | 0, _, _ => none
 | k + 1, n, i =>
  if n = 0 then (pLev l k 1 i).bind fun r => pAs l k r.1 r.2
  else if n = 1 ∨ n = 2 then (pLev l k (n + 1) i).bind fun r =>
   if tk l r.2 6 (opS n) then (pLev l k n (r.2 + 1)).map fun q => (.mk 2 (opS n) [r.1, q.1] [] false, q.2) else some r
  else match wd l i 5 with
   | some s => some (.mk 1 s [] [] false, i + 1)
   | none => match wd l i 1 with
    | some s => if basics.contains s then some (.mk 2 s [] [] false, i + 1) else none
    | none =>
     if tk l i 6 [40] then (pLev l k 0 (i + 1)).bind fun r => if tk l r.2 6 [41] then some (r.1, r.2 + 1) else none
     else if tk l i 6 [60] then (if tk l (i + 1) 6 [62] then some (.mk 3 [] [] [] false, i + 2) else pObj l k [] [] (i + 1))
     else none
def pAs (l : List Tok) : Nat → Ty → Nat → Option (Ty × Nat)
 | 0, _, _ => none
 | k + 1, t, i => if tk l i 2 [97, 115] then (wd l (i + 1) 5).bind fun s => pAs l k (.mk 4 s [t] [] false) (i + 2) else some (t, i)
def pObj (l : List Tok) : Nat → List (List UInt8) → List Ty → Nat → Option (Ty × Nat)
 | 0, _, _, _ => none
 | k + 1, labels, args, i =>
  if tk l i 6 [46, 46] then (if tk l (i + 1) 6 [62] then some (.mk 3 [] args labels true, i + 2) else none)
  else (wd l i 1).bind fun s => if tk l (i + 1) 6 [58] then (pLev l k 1 (i + 2)).bind fun r =>
   if labels.all (lessS · s) = false then none
   else if tk l r.2 6 [62] then some (.mk 3 [] (args ++ [r.1]) (labels ++ [s]) false, r.2 + 1)
   else if tk l r.2 6 [59] then pObj l k (labels ++ [s]) (args ++ [r.1]) (r.2 + 1)
   else none
  else none
end
end Go.Tre
namespace Go.Tre
def wordB (s : List UInt8) : Bool := isName ⟨s.toArray⟩ || isKey ⟨s.toArray⟩
def byteStrs (l : List (List UInt8)) : List ByteArray := l.map fun x => ⟨x.toArray⟩
def ownT (k : Nat) (s : List UInt8) (n : Nat) (labels : List (List UInt8)) (o : Bool) : Bool :=
 if k = 3 then decide (s = []) && (decide (labels.length = n) && rising (byteStrs labels))
 else if 0 < labels.length ∨ o = true then false
 else if k = 1 then wordB s && decide (n = 0)
 else if k = 4 then wordB s && decide (n = 1)
 else if k = 2 then (if s = [45, 62] ∨ s = [42] then decide (n = 2) else decide (n = 0) && basics.contains s)
 else false
mutual
def walkT : Ty → Int
 | .mk k s args labels o => if ownT k s args.length labels o = true then (if walkTs args 0 < 0 then -1 else walkTs args 0 + 1) else -1
def walkTs : List Ty → Int → Int
 | [], d => d
 | t :: r, d => if walkT t < 0 then -1 else walkTs r (max d (walkT t))
end
def verdictI (d : Int) : Int := if d < 0 then 2 else if 200 < d then 4 else 0
mutual
def Ty.weight : Ty → Nat
 | .mk _ s args labels _ => 1 + s.length + (labels.map fun x => x.length + 1).sum + weights args
def weights : List Ty → Nat
 | [] => 0
 | t :: r => t.weight + weights r
end
theorem weight_pos (t : Ty) : 1 ≤ t.weight := by cases t; unfold Ty.weight; omega
theorem weights_at : ∀ {l : List Ty} {i : Nat} {t : Ty}, l[i]? = some t → t.weight ≤ weights l
 | [], i, t, h => by simp at h
 | x :: r, 0, t, h => by simp at h; subst h; unfold weights; omega
 | x :: r, i + 1, t, h => by
  simp at h
  have := weights_at h
  unfold weights; omega
theorem weights_len : ∀ l : List Ty, l.length ≤ weights l
 | [] => by simp [weights]
 | x :: r => by have := weights_len r; have := weight_pos x; unfold weights; simp; omega
theorem walkT_low (t : Ty) : -1 ≤ walkT t := by
 cases t with
 | mk k s args labels o => unfold walkT; split <;> (try split) <;> omega
mutual
theorem walkT_weight : ∀ t : Ty, walkT t ≤ t.weight
 | .mk k s args labels o => by
  have := walkTs_weight args 0
  unfold walkT Ty.weight
  split
  ·split <;> omega
  ·omega
theorem walkTs_weight : ∀ (l : List Ty) (d : Int), walkTs l d ≤ max d (weights l)
 | [], d => by unfold walkTs; omega
 | t :: r, d => by
  have h1 := walkT_weight t
  have h2 := walkTs_weight r (max d (walkT t))
  unfold walkTs weights
  split <;> omega
end
end Go.Tre
namespace Go.Tre
structure Ent where
 kind : Nat
 s : List UInt8
 args : List Nat
 labels : List (List UInt8)
 opn : Bool
mutual
def Ty.count : Ty → Nat
 | .mk _ _ args _ _ => 1 + counts args
def counts : List Ty → Nat
 | [] => 0
 | t :: r => t.count + counts r
end
def idxs : List Ty → Nat → List Nat
 | [], _ => []
 | t :: r, b => b :: idxs r (b + t.count)
mutual
def flat : Ty → Nat → List Ent
 | .mk k s args labels o, b => ⟨k, s, idxs args (b + 1), labels, o⟩ :: flats args (b + 1)
def flats : List Ty → Nat → List Ent
 | [], _ => []
 | t :: r, b => flat t b ++ flats r (b + t.count)
end
mutual
theorem flat_len : ∀ (t : Ty) (b : Nat), (flat t b).length = t.count
 | .mk k s args labels o, b => by unfold flat Ty.count; rw [List.length_cons, flats_len args (b + 1)]; omega
theorem flats_len : ∀ (l : List Ty) (b : Nat), (flats l b).length = counts l
 | [], b => by unfold flats counts; rfl
 | t :: r, b => by unfold flats counts; rw [List.length_append, flat_len t b, flats_len r _]
end
theorem idxs_len : ∀ (l : List Ty) (b : Nat), (idxs l b).length = l.length
 | [], _ => rfl
 | t :: r, b => by unfold idxs; simp [idxs_len r]
abbrev Bd := (ByteArray → Option Nat) × Nat
def stepB (e : Ent) (i : Nat) (bd : Bd) : Option Bd := if e.kind = 4 then (if (bd.1 ⟨e.s.toArray⟩).isSome then none else some (upd bd.1 ⟨e.s.toArray⟩ i, bd.2 + 1)) else some bd
def bind1 (T : List Ent) : Nat → Nat → Bd → Option Bd
 | 0, _, _ => none
 | k + 1, i, bd => (T[i]?).bind fun e => (stepB e i bd).bind fun bd => e.args.foldlM (fun bd j => bind1 T k j bd) bd
def follow1 (T : List Ent) (bd : ByteArray → Option Nat) : Nat → Nat → Option Nat
 | 0, _ => none
 | k + 1, i => (T[i]?).bind fun e =>
  if e.kind = 4 then (e.args[0]?).bind (follow1 T bd k)
  else if e.kind = 1 then (match bd ⟨e.s.toArray⟩ with | some b => follow1 T bd k b | none => some i) else some i
structure LSt where
 vars : ByteArray → Option Nat
 made : Nat → Option Nat
 ns : List Tre.Node
def nodeOf (e : Ent) : Tre.Node := if e.kind = 2 then ⟨2, ⟨e.s.toArray⟩, [], [], false⟩ else ⟨3, ByteArray.empty, [], byteStrs e.labels, e.opn⟩
def kidsF (f : Nat → LSt → Option (Nat × LSt)) : List Nat → List Nat → LSt → Option (List Nat × LSt)
 | [], l, st => some (l, st)
 | j :: r, l, st => (f j st).bind fun p => kidsF f r (l ++ [p.1]) p.2
def varNode : Tre.Node := ⟨1, ByteArray.empty, [], [], false⟩
def node1 (T : List Ent) (bd : Bd) : Nat → Nat → LSt → Option (Nat × LSt)
 | 0, _, _ => none
 | k + 1, i, st => (follow1 T bd.1 (2 * bd.2 + 2) i).bind fun x => (T[x]?).bind fun e =>
  if e.kind = 1 then some (match st.vars ⟨e.s.toArray⟩ with | some a => (a, st) | none => (st.ns.length, ⟨upd st.vars ⟨e.s.toArray⟩ st.ns.length, st.made, st.ns ++ [varNode]⟩))
  else match st.made x with
   | some a => some (a, st)
   | none => (kidsF (node1 T bd k) e.args [] ⟨st.vars, upd st.made x st.ns.length, st.ns ++ [nodeOf e]⟩).map fun p =>
    (st.ns.length, ⟨p.2.vars, p.2.made, p.2.ns.set st.ns.length { nodeOf e with args := p.1.map fun a : Nat => (a : Int) }⟩)
def loadT (T : List Ent) (k i : Nat) : Option Tre.Graph :=
 (bind1 T k i (fun _ => none, 0)).bind fun bd =>
  (node1 T bd k i ⟨fun _ => none, fun _ => none, []⟩).map fun p => ⟨p.2.ns, (p.1 : Int)⟩
structure SmallT (T : List Ent) : Prop where
 s : ∀ (i : Nat) (e : Ent), T[i]? = some e → e.s.length ≤ 4194304
 args : ∀ (i : Nat) (e : Ent), T[i]? = some e → e.args.length ≤ 4194304
 labs : ∀ (i : Nat) (e : Ent), T[i]? = some e → e.labels.length ≤ 4194304
end Go.Tre
namespace Go.Tre
open Go.RowKit
structure LexAt (b : Nat) (s : ByteArray) (k : Nat) (w : World) : Prop where
 text : w.cell? ⟨b, 0, none⟩ = some (.string s)
 place : w.cell? ⟨b, 1, none⟩ = some (.int .i64 (k : Int))
theorem LexAt.below {b : Nat} {s : ByteArray} {k : Nat} {w w' : World} (h : LexAt b s k w) (hb : Below w.heap.size w w') : LexAt b s k w' :=
 ⟨cell_below hb h.text, cell_below hb h.place⟩
end Go.Tre
namespace Go.Proofs.YtoieknnnadgfpaaGreatDoor.lex
open Go.RowKit Go.Tre
set_option maxHeartbeats 1000000 in
theorem rest (b : Nat) (s : ByteArray) (k : Nat) (w : World) (h : LexAt b s k w) (hk : k ≤ s.size) (hs : s.size ≤ 8388608) :
  Calls Tryz.prog 60 #[.pointer (some ⟨b, 0, none⟩)] w fun e w' => e = .returned (.string (s.extract k s.size)) ∧ Below w.heap.size w w' := by
 have hk' : (k : Int) ≤ (s.size : Int) := by omega
 have x0 := h.text
 have x1 := h.place
 clear h
 go_enter Tryz.func60, Tryz.ntmps60
 go_wp2_with fail
 go_region_held3 (fun w' => Below w.heap.size w w' ∧ w'.cell? ⟨b, 0, none⟩ = some (.string s) ∧ w'.cell? ⟨b, 1, none⟩ = some (.int .i64 (k : Int)))
  (first | exact ⟨(Below.refl _ _).drew, x0, x1⟩ | go_keep) (fail)
 have hb := (show Below w.heap.size w w.drew ∧ _ from by assumption).1
 have HB := Tre.hid hb
 clear hb
 go_wp2_with fail
 go_ret
 exact ⟨rfl, HB.out⟩
set_option maxHeartbeats 1000000 in
theorem fail (b : Nat) (s : ByteArray) (k : Nat) (w : World) (h : LexAt b s k w) :
  Calls Tryz.prog 82 #[.pointer (some ⟨b, 0, none⟩)] w fun e w' => e = .returned (.iface 103 (.pointer (some ⟨w.heap.size, 0, none⟩))) ∧ w' = w.alloc (.cells #[.int .i64 (k : Int), .int .i64 5] 107) := by
 have x0 := h.text
 have x1 := h.place
 clear h
 go_enter Tryz.func82, Tryz.ntmps82
 go_wp2_with fail
 go_ret
 exact ⟨rfl, rfl⟩
end Go.Proofs.YtoieknnnadgfpaaGreatDoor.lex
namespace Go.Tre
open Go.RowKit
theorem noteEnd_none : ∀ {l : List UInt8}, noteEnd l = none → Lib.index l [42, 41] = -1
 | [], _ => by decide
 | [c], _ => by
  unfold Lib.index
  simp [Lib.index]
 | c :: d :: l, h => by
  unfold noteEnd at h
  split at h
  ·cases h
  ·rename_i hn
   have ih := noteEnd_none h
   unfold Lib.index
   rw [if_neg, ih]
   ·rfl
   ·intro hp
    simp at hp
    exact hn ⟨hp.1.symm, hp.2.symm⟩
theorem noteEnd_some : ∀ {l r : List UInt8}, noteEnd l = some r → ∃ k : Nat, Lib.index l [42, 41] = (k : Int) ∧ l.drop (k + 2) = r ∧ k + 2 ≤ l.length
 | [], _, h => by cases h
 | [c], _, h => by cases h
 | c :: d :: l, r, h => by
  unfold noteEnd at h
  split at h
  ·rename_i hc
   cases h
   refine ⟨0, ?_, rfl, by simp⟩
   unfold Lib.index
   rw [if_pos]
   ·rfl
   ·simp [hc.1, hc.2]
  ·rename_i hn
   obtain ⟨k, h1, h2, h3⟩ := noteEnd_some h
   refine ⟨k + 1, ?_, ?_, ?_⟩
   ·unfold Lib.index
    rw [if_neg, h1, if_neg]
    ·omega
    ·simp
    ·intro hp
     simp at hp
     exact hn ⟨hp.1.symm, hp.2.symm⟩
   ·simpa using h2
   ·simp only [List.length_cons] at h3 ⊢; omega
theorem skipS_note {l r : List UInt8} (h : l.dropWhile blank = 40 :: 42 :: r) : skipS l = (noteEnd r).bind skipS := by
 rw [skipS]
 split
 ·rename_i r0 h1
  rw [h] at h1
  cases h1
  split
  ·rename_i h2; rw [h2]; rfl
  ·rename_i h2; rw [h2]; rfl
 ·rename_i hn
  exact absurd h (hn r)
theorem skipS_rest {l : List UInt8} (h : ∀ r, l.dropWhile blank ≠ 40 :: 42 :: r) : skipS l = some (l.dropWhile blank) := by
 rw [skipS]
 split
 ·rename_i r0 h1
  exact absurd h1 (h r0)
 ·rfl
theorem extract_list (s : ByteArray) (k : Nat) : (s.extract k s.size).data.toList = s.data.toList.drop k := by
 rw [ByteArray.data_extract, Array.toList_extract]
 have : s.size = s.data.toList.length := rfl
 rw [this, List.extract_eq_take_drop, List.take_of_length_le (by simp)]
theorem blank_set : ([9, 10, 13, 32] : List UInt8).contains = blank := by
 funext c
 rw [Bool.eq_iff_iff]
 simp [Tre.blank, or_assoc]
theorem data_inj' {a b : ByteArray} (h : a.data.toList = b.data.toList) : a = b := ByteArray.ext (Array.toList_inj.1 h)
theorem dropWhile_drop (p : UInt8 → Bool) : ∀ l : List UInt8, l.drop (l.length - (l.dropWhile p).length) = l.dropWhile p
 | [] => rfl
 | c :: l => by
  rw [List.dropWhile_cons]
  split
  ·have := dropWhile_drop p l
   have hl := (List.dropWhile_sublist (l := l) p).length_le
   rw [List.length_cons, show l.length + 1 - (l.dropWhile p).length = (l.length - (l.dropWhile p).length) + 1 by omega, List.drop_succ_cons]
   exact this
  ·simp
def ErrIn (w : World) (bs : List Nat) (v : Value) (at_ no : Nat) : Prop :=
 (∃ p, bs = [p] ∧ v = .iface 103 (.pointer (some ⟨p, 0, none⟩)) ∧ w.heap[p]? = some (.cells #[.int .i64 at_, .int .i64 no] 107 (0, 0))) ∨
 (∃ p q r t x c, bs = [p, q, r] ∧ v = .iface 211 (.pointer (some ⟨q, 0, none⟩)) ∧ w.heap[p]? = some (.cells #[.int .i64 at_, .int .i64 no] 107 (0, 0)) ∧
  w.heap[q]? = some (.cells #[.slice (some ⟨r, 0, none⟩) 2 c] t (0, 0)) ∧ (∃ t' cs fz, w.heap[r]? = some (.cells cs t' fz) ∧ cs[0]? = some (.iface 103 (.pointer (some ⟨p, 0, none⟩))) ∧ cs[1]? = some x) ∧ 2 ≤ c)
def errR (bs : List Nat) (v : Value) (at_ no : Nat) : Res where
 own b := b ∈ bs
 P w := ErrIn w bs v at_ no
 stable w w' h hs := by
  rcases h with ⟨p, rfl, rfl, h1⟩ | ⟨p, q, r, t, x, c, rfl, rfl, h1, h2, ⟨t', cs, fz, h3, h4⟩, h5⟩
  ·exact .inl ⟨p, rfl, rfl, (hs p (by simp)).trans h1⟩
  ·exact .inr ⟨p, q, r, t, x, c, rfl, rfl, (hs p (by simp)).trans h1, (hs q (by simp)).trans h2, ⟨t', cs, fz, (hs r (by simp)).trans h3, h4⟩, h5⟩
 has w h b hb := by
  rcases h with ⟨p, rfl, rfl, h1⟩ | ⟨p, q, r, t, x, c, rfl, rfl, h1, h2, ⟨t', cs, fz, h3, h4⟩, h5⟩
  ·simp at hb; subst hb; exact (Array.getElem?_eq_some_iff.1 h1).1
  ·simp at hb
   rcases hb with rfl | rfl | rfl
   ·exact (Array.getElem?_eq_some_iff.1 h1).1
   ·exact (Array.getElem?_eq_some_iff.1 h2).1
   ·exact (Array.getElem?_eq_some_iff.1 h3).1
abbrev lexR (b : Nat) (s : ByteArray) (k : Nat) : Res := cellsR b 140 #[.string s, .int .i64 (k : Int)]
theorem lexAt {w0 w : World} {rs : List Res} {b : Nat} {s : ByteArray} {k : Nat} (h : Mem w0 w rs) (i : Nat) (hi : rs[i]? = some (lexR b s k)) : LexAt b s k w := by
 obtain ⟨h0, h1⟩ := h.two i hi
 exact ⟨h0, h1⟩
end Go.Tre
namespace Go.Proofs.YtoieknnnadgfpaaGreatDoor.lex
open Go.RowKit Go.Tre
theorem rest_is (b : Nat) (s : ByteArray) (k : Nat) (x : ByteArray) (w : World) (h : LexAt b s k w) (hk : k ≤ s.size) (hs : s.size ≤ 8388608) (hx : x.data.toList = s.data.toList.drop k) :
  Calls Tryz.prog 60 #[.pointer (some ⟨b, 0, none⟩)] w fun e w' => e = .returned (.string x) ∧ Below w.heap.size w w' := by
 rw [show x = s.extract k s.size from data_inj' (by rw [hx, extract_list])]
 exact rest b s k w h hk hs
theorem trimBlank (x d : ByteArray) (w : World) (hd : d.data.toList = x.data.toList.dropWhile Tre.blank) :
  Calls Tryz.prog 79 #[.string x, .string ⟨#[9, 10, 13, 32]⟩] w fun e w' => e = .returned (.string d) ∧ Below w.heap.size w w' := by
 refine (Any.strings_TrimLeft_laid Tryz.lays161 (by kernel_rfl) x ⟨#[9, 10, 13, 32]⟩ w (by decide) (ascii_of_all (by decide))).mono ?_
 rintro e w' ⟨rfl, hb⟩
 refine ⟨?_, hb⟩
 rw [show d = ⟨(Lib.trimLeftS x.data.toList [9, 10, 13, 32]).toArray⟩ from data_inj' (by rw [hd]; unfold Lib.trimLeftS; rw [← blank_set])]
theorem cutNote (d n : ByteArray) (is : Bool) (w : World) (h1 : Lib.hasPrefix d.data.toList [40, 42] = is) (h2 : n.data.toList = Lib.trimPrefix d.data.toList [40, 42]) :
  Calls Tryz.prog 80 #[.string d, .string ⟨#[40, 42]⟩] w fun e w' => e = .returned (.tuple #[.string n, .bool is]) ∧ w = w' := by
 refine (Tryz.strings_CutPrefix d ⟨#[40, 42]⟩ w).mono ?_
 rintro e w' ⟨rfl, rfl⟩
 refine ⟨?_, rfl⟩
 rw [show n = ⟨(Lib.trimPrefix d.data.toList [40, 42]).toArray⟩ from data_inj' (by rw [h2]), ← h1]
theorem indexEnd (n : ByteArray) (i : Int) (w : World) (hs : n.size < 4294967281) (hm : MaxAt w) (h : Lib.index n.data.toList [42, 41] = i) :
  Calls Tryz.prog 81 #[.string n, .string ⟨#[42, 41]⟩] w fun e w' => e = .returned (.int .i64 i) ∧ w = w' := by
 obtain ⟨m, hm⟩ := hm
 refine (Tryz.strings_Index n ⟨#[42, 41]⟩ m w hs hm).mono ?_
 rintro e w' ⟨rfl, rfl⟩
 exact ⟨by rw [← h], rfl⟩
end Go.Proofs.YtoieknnnadgfpaaGreatDoor.lex
namespace Go.Proofs.YtoieknnnadgfpaaGreatDoor.lex
open Go.RowKit Go.Tre
def SkipPost (w0 : World) (rs : List Res) (b : Nat) (s : ByteArray) (D : Option (List UInt8)) (e : Ending) (w' : World) : Prop :=
 (∃ k' : Nat, k' ≤ s.size ∧ D = some (s.data.toList.drop k') ∧ e = .returned .nilIface ∧ Mem w0 w' (lexR b s k' :: rs)) ∨
 (D = none ∧ ∃ v bs, ∃ k' : Nat, k' ≤ s.size ∧ e = .returned v ∧ Mem w0 w' (errR bs v k' 5 :: lexR b s k' :: rs))
theorem errNew {w0 w : World} {rs : List Res} {k : Nat} (h : Mem w0 w rs) : Mem w0 (w.alloc (.cells #[.int .i64 (k : Int), .int .i64 5] 107)) (errR [w.heap.size] (.iface 103 (.pointer (some ⟨w.heap.size, 0, none⟩))) k 5 :: rs) :=
 (h.allocR #[.int .i64 (k : Int), .int .i64 5] 107).as_ 0 rfl _ (fun hp => .inl ⟨_, rfl, rfl, hp⟩) (fun b hb => List.mem_singleton.1 hb)

set_option maxRecDepth 100000 in
set_option maxHeartbeats 8000000 in
theorem skip (w0 : World) (rs : List Res) (b : Nat) (s : ByteArray) (k0 : Nat) (w : World) (h : Mem w0 w (lexR b s k0 :: rs)) (hk0 : k0 ≤ s.size) (hs : s.size ≤ 4194304) (hm : MaxAt w0) :
  Calls Tryz.prog 59 #[.pointer (some ⟨b, 0, none⟩)] w (SkipPost w0 rs b s (skipS (s.data.toList.drop k0))) := by
 have HM0 := Tre.hid h
 have HMX := Tre.hid hm
 obtain ⟨D, hD⟩ : ∃ D, Hid (skipS (s.data.toList.drop k0) = D) := ⟨_, rfl⟩
 rw [hD.out]
 clear h hm
 go_enter Tryz.func59, Tryz.ntmps59
 go_wp2_with fail
 go_loopg [3] (s.size - k0) (fun gk v3 wr => ∃ (u3 : Value) (k : Nat), v3 = u3 ∧ Hid (skipS (s.data.toList.drop k) = D ∧ gk = s.size - k) ∧ k ≤ s.size ∧ Hid (Mem w0 wr (lexR b s k :: rs)))
 case atStart => exact ⟨_, k0, rfl, ⟨hD.out, rfl⟩, hk0, HM0.out⟩
 case round =>
  obtain ⟨u3, k, rfl, hI, hk, HM⟩ := hrel
  obtain ⟨x, hx⟩ : ∃ x : ByteArray, Hid (x.data.toList = s.data.toList.drop k) := ⟨s.extract k s.size, extract_list s k⟩
  obtain ⟨d, HD⟩ : ∃ d : ByteArray, Hid (d.data.toList = x.data.toList.dropWhile Tre.blank) := ⟨⟨(x.data.toList.dropWhile Tre.blank).toArray⟩, by show _ = _; simp⟩
  have HX := hx
  have hxs : x.size = s.size - k := by
   have := congrArg List.length hx.out
   simpa using this
  have hds : d.size ≤ x.size := by
   have h1 := congrArg List.length HD.out
   have h2 := (List.dropWhile_sublist (l := x.data.toList) Tre.blank).length_le
   have h3 : d.size = d.data.toList.length := rfl
   have h4 : x.size = x.data.toList.length := rfl
   omega
  have hdk : d.size + k ≤ s.size := by omega
  have HDL : Hid (d.data.toList = s.data.toList.drop (s.size - d.size)) := by
   show _ = _
   have h1 := dropWhile_drop Tre.blank x.data.toList
   rw [← HD.out, HX.out, List.drop_drop] at h1
   have h2 : (s.data.toList.drop k).length - d.data.toList.length + k = s.size - d.size := by
    have h4 : (s.data.toList.drop k).length = s.size - k := by simp
    have h3 : d.size = d.data.toList.length := rfl
    omega
   rw [Nat.add_comm, h2] at h1
   exact h1.symm
  have HWR : Hid (IntKind.i64.wrap ((s.size : Int) - (d.size : Int)) = (s.size : Int) - (d.size : Int)) := IntWalk.i64_in _ (by omega)
  clear hxs hds hx
  go_wp2_with fail
  have cS : Cond (fun w' => w'.cell? ⟨b, 0, none⟩ = some (.string s)) := ⟨⟩
  refine cS.keep [13] ?_ (fun hH0 => ?_)
  ·exact (lexAt HM.out 0 rfl).text
  have H0 := Tre.hid HM.out.drew
  generalize hq : wr.drew = wq0 at H0 hH0 ⊢
  clear hq
  refine lPq 0 (some 6) (v := ?_) rfl ?_ (keep_of hH0) ?_
  rotate_left
  ·intro w; go_simp <;> with_reducible rfl
  try simp only [Act.put, zqf, zqg, zqh]
  refine lPq 1 (some 7) (v := ?_) rfl ?_ (keep_of hH0) ?_
  rotate_left
  ·intro w; go_simp <;> with_reducible rfl
  try simp only [Act.put, zqf, zqg, zqh]
  refine lPq 2 (some 8) (v := ?_) rfl ?_ (keep_of hH0) ?_
  rotate_left
  ·intro w; go_simp <;> with_reducible rfl
  try simp only [Act.put, zqf, zqg, zqh]
  refine lPq 3 (some 9) (v := ?_) rfl ?_ (keep_of hH0) ?_
  rotate_left
  ·intro w; go_simp <;> with_reducible rfl
  try simp only [Act.put, zqf, zqg, zqh]
  refine lPq 6 (some 12) (v := ?_) rfl ?_ (keep_of hH0) ?_
  rotate_left
  ·intro w; go_simp <;> with_reducible rfl
  try simp only [Act.put, zqf, zqg, zqh]
  refine lTq 4 (some 10) (v := ?_) rfl ?_ hH0 ?_
  rotate_left
  ·intro w hSw; (try dsimp only at hSw); go_simp <;> with_reducible rfl
  try simp only [Act.put, zqf, zqg, zqh]
  refine lPq 5 (some 11) (v := ?_) rfl ?_ (keep_of hH0) ?_
  rotate_left
  ·intro w; go_simp <;> with_reducible rfl
  try simp only [Act.put, zqf, zqg, zqh]
  refine lOne 7 (by kernel_rfl) (LStep.op (fun K hK => ?_))
  go_simp
  refine (rest_is b s k x wq0 (lexAt H0.out 0 rfl) hk (by omega) HX.out).mono ?_
  rintro e wq1 ⟨rfl, mq⟩
  have H1 := Tre.hid (H0.out.quiet mq)
  clear mq
  (try dsimp only)
  refine hK.out _ _ ?_ (fun hH1 => ?_)
  ·exact (lexAt H1.out 0 rfl).text
  clear hK K hH0
  try simp only [Act.put, zqf, zqg, zqh]
  refine lOne 8 (by kernel_rfl) (LStep.op (fun K hK => ?_))
  go_simp
  refine (trimBlank x d wq1 HD.out).mono ?_
  rintro e wq2 ⟨rfl, mq⟩
  have H2 := Tre.hid (H1.out.quiet mq)
  clear mq
  (try dsimp only)
  refine hK.out _ _ ?_ (fun hH2 => ?_)
  ·exact (lexAt H2.out 0 rfl).text
  clear hK K hH1
  try simp only [Act.put, zqf, zqg, zqh]
  refine lPq 9 (some 15) (v := ?_) rfl ?_ (keep_of hH2) ?_
  rotate_left
  ·intro w; go_simp <;> with_reducible rfl
  try simp only [Act.put, zqf, zqg, zqh]
  refine lPq 10 (some 16) (v := ?_) rfl ?_ (keep_of hH2) ?_
  rotate_left
  ·intro w; go_simp <;> with_reducible rfl
  try simp only [Act.put, zqf, zqg, zqh]
  refine lPq 11 (some 17) (v := ?_) rfl ?_ (keep_of hH2) ?_
  rotate_left
  ·intro w; go_simp <;> with_reducible rfl
  try simp only [Act.put, zqf, zqg, zqh]
  refine lPq 12 (some 18) (v := ?_) rfl ?_ (keep_of hH2) ?_
  rotate_left
  ·intro w; go_simp <;> with_reducible rfl
  try simp only [Act.put, zqf, zqg, zqh]
  refine lOne 13 (by kernel_rfl) (LFall.op (by kernel_rfl) (fun K hK => ?_))
  have f2 := H2.out.free 0 rfl 1
  have q2 := (lexAt H2.out 0 rfl).place
  have H3 := Tre.hid (H2.out.setCell 0 rfl 1 (.int .i64 ((s.size : Int) - (d.size : Int))))
  go_simp
  simp only [HWR.out]
  generalize hw : wq2.setCell ⟨b, 1, none⟩ (.int .i64 ((s.size : Int) - (d.size : Int))) = wq3 at H3 ⊢
  clear hw f2 q2
  refine hK.out _ _ ?_
  clear hK K hH2
  try simp only [Act.put, zqf, zqg, zqh]
  refine lDone (by kernel_rfl) ?_
  obtain ⟨k1, hk1⟩ : ∃ k1 : Nat, Hid (k1 = s.size - d.size) := ⟨_, rfl⟩
  have hkk : k1 ≤ s.size := by have := hk1.out; omega
  have H4 : Hid (Mem w0 wq3 (lexR b s k1 :: rs)) := by
   have := H3.out
   have e : ((s.size : Int) - (d.size : Int)) = (k1 : Int) := by have := hk1.out; omega
   rw [e] at this
   exact this
  have HDK : Hid (d.data.toList = s.data.toList.drop k1) := by show _ = _; rw [hk1.out]; exact HDL.out
  clear H3
  go_wp2_with fail
  refine (rest_is b s k1 d _ (lexAt H4.out 0 rfl) hkk (by omega) HDK.out).mono ?_
  rintro e w4 ⟨rfl, mq⟩
  have H5 := Tre.hid (H4.out.quiet mq)
  clear mq H4
  obtain ⟨n, HN⟩ : ∃ n : ByteArray, Hid (n.data.toList = Lib.trimPrefix d.data.toList [40, 42]) := ⟨⟨(Lib.trimPrefix d.data.toList [40, 42]).toArray⟩, by show _ = _; simp⟩
  by_cases hn : Lib.hasPrefix d.data.toList [40, 42] = true
  ·have HNN := Tre.hid hn
   obtain ⟨r, hr⟩ : ∃ r, Hid (d.data.toList = 40 :: 42 :: r) := by
    obtain ⟨t, ht⟩ := List.isPrefixOf_iff_prefix.1 hn
    exact ⟨t, ht.symm⟩
   have HNR : Hid (n.data.toList = r) := by
    show _ = _
    rw [HN.out]; unfold Lib.trimPrefix; rw [if_pos HNN.out, hr.out]; rfl
   have hns : n.size + 2 = d.size := by
    have h1 := congrArg List.length HNR.out
    have h2 := congrArg List.length hr.out
    have h3 : n.size = n.data.toList.length := rfl
    have h4 : d.size = d.data.toList.length := rfl
    simp only [List.length_cons] at h2
    omega
   have hnl : n.size < 4294967281 := by omega
   have HSK : Hid (D = (noteEnd r).bind skipS) := by
    show _ = _
    rw [← hI.out.1]
    apply skipS_note
    rw [← HX.out, ← HD.out, hr.out]
   have HNS := Tre.hid hns
   clear hn hns
   go_wp2_with fail
   refine (cutNote d n true _ HNN.out HN.out).mono ?_
   rintro e w' ⟨rfl, rfl⟩
   cases hne : noteEnd r with
   | none =>
    have hix := noteEnd_none hne
    rw [← HNR.out] at hix
    have HIX := Tre.hid hix
    have HDN : Hid (D = none) := by show _ = _; rw [HSK.out, hne]; rfl
    clear hix hne
    go_wp2_with fail
    refine (indexEnd n (-1) _ hnl (HMX.out.below H5.out.below) HIX.out).mono ?_
    rintro e w' ⟨rfl, rfl⟩
    go_wp2_with fail
    refine (fail b s k1 _ (lexAt H5.out 0 rfl)).mono ?_
    rintro e w' ⟨rfl, rfl⟩
    have H6 := Tre.hid (errNew (k := k1) H5.out)
    go_wp2_with (fail)
    go_ret
    exact .inr ⟨HDN.out, _, _, k1, hkk, rfl, H6.out⟩
   | some r' =>
    obtain ⟨i, hi1, hi2, hi3⟩ := noteEnd_some hne
    rw [← HNR.out] at hi1
    have hin : i + 2 ≤ n.size := by
     have h3 : n.size = n.data.toList.length := rfl
     rw [h3, HNR.out]; exact hi3
    have HIX := Tre.hid hi1
    have HDN : Hid (D = skipS r') := by show _ = _; rw [HSK.out, hne]; rfl
    have HKE : Hid (s.data.toList.drop (k1 + (i + 4)) = r') := by
     show _ = _
     rw [← List.drop_drop, ← HDK.out, hr.out]
     exact hi2
    have hk2 : k1 + (i + 4) ≤ s.size := by have := HNS.out; have := hk1.out; omega
    have i1 : (0 : Int) ≤ (i : Int) := by omega
    have i2 : (i : Int) ≤ 8388608 := by omega
    clear hi1 hi2 hi3 hne
    go_wp2_with fail
    refine (indexEnd n i _ hnl (HMX.out.below H5.out.below) HIX.out).mono ?_
    rintro e w' ⟨rfl, rfl⟩
    obtain ⟨q0, q1⟩ := H5.out.two 0 rfl
    have f1 := H5.out.free 0 rfl 1
    go_wp2_with fail
    have H6 := Tre.hid (H5.out.setCell 0 rfl 1 (.int .i64 ((k1 : Int) + ((i : Int) + 4))))
    go_roundg (s.size - (k1 + (i + 4)))
    case measure => have h1 := hI.out.2; have := hk1.out; rw [h1]; omega
    case rel =>
     refine ⟨_, k1 + (i + 4), rfl, ⟨?_, rfl⟩, hk2, ?_⟩
     ·rw [HKE.out, HDN.out]
     ·have := H6.out
      rw [show ((k1 : Int) + ((i : Int) + 4)) = ((k1 + (i + 4) : Nat) : Int) by omega] at this
      exact this
  ·have hn' : Lib.hasPrefix d.data.toList [40, 42] = false := by simpa using hn
   have HNN := Tre.hid hn'
   have HSK : Hid (D = some (s.data.toList.drop k1)) := by
    show _ = _
    rw [← hI.out.1, skipS_rest, ← HX.out, ← HD.out, HDK.out]
    intro r hr
    rw [← HX.out, ← HD.out] at hr
    apply hn
    rw [hr]
    exact List.isPrefixOf_iff_prefix.2 ⟨r, rfl⟩
   clear hn hn'
   go_wp2_with fail
   refine (cutNote d n false _ HNN.out HN.out).mono ?_
   rintro e w' ⟨rfl, rfl⟩
   go_wp2_with fail
   go_ret
   exact .inl ⟨k1, hkk, HSK.out, rfl, H5.out⟩
end Go.Proofs.YtoieknnnadgfpaaGreatDoor.lex
