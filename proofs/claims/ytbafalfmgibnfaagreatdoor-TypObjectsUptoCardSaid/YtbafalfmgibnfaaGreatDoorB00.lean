/- Which words are keys: the text of all of them, blanks between, holds a word between blanks just if it is one of them. How lists, nodes and graphs lie in memory; what stays while other blocks are written. Names and words: lex.goes, lex.word, and the reference's letter, digit, small, word. Layer 1, plain: a text's tokens. Plain laws of the lexer's blanks and notes. Plain: the lexer's answer at a given text, by reckoning. Layer 3, plain: types as they are written, and the parser (where it comes to a type). Laws on a map that a call makes: its block stands for a partial function on plain keys and plain values. -/
import Derived.Lib.IndexMore
import Derived.WalkKit
import Derived.Test.YtbafalfmgibnfaaGreatDoorRows
import Derived.WalkSpells
import Derived.WalkLawsBesides
import Derived.Maps.OwnSet
import Derived.Maps.Keyed
set_option linter.unusedVariables false
namespace Go
theorem zqb {α : Type} {a : α} {l : List α} {i : Nat} : (a :: l)[i + 1]? = l[i]? := rfl
theorem zqc {α : Type} {a : α} {l : List α} : (a :: l)[0]? = some a := rfl
theorem zqd {α β : Type} {a : α} {f : α → β} : Option.map f (some a) = some (f a) := rfl
theorem zqe {α : Type} {a b : α} : (some a = some b) = (a = b) := Option.some.injEq a b
theorem zqf {α : Type} {l : List α} {i : Nat} {a : α} : l.toArray.setIfInBounds i a = (l.set i a).toArray := List.setIfInBounds_toArray ..
theorem zqg {α : Type} {x : α} {xs : List α} {a : α} : (x :: xs).set 0 a = a :: xs := rfl
theorem zqh {α : Type} {x : α} {xs : List α} {n : Nat} {a : α} : (x :: xs).set (n + 1) a = x :: xs.set n a := rfl
end Go
namespace Go.Tre

def spaced : List (List UInt8) → List UInt8
 | [] => [32]
 | x :: r => 32 :: (x ++ spaced r)

theorem prefix_word : ∀ (s x r : List UInt8), (∀ c ∈ s, c ≠ 32) → (∀ c ∈ x, c ≠ 32) → (s ++ [32]) <+: (x ++ 32 :: r) → s = x
 | [], [], _, _, _, _ => rfl
 | [], c :: x, r, _, h2, h => by
  obtain ⟨t, ht⟩ := h
  simp at ht
  exact absurd ht.1.symm (h2 c (by simp))
 | a :: s, [], r, h1, _, h => by
  obtain ⟨t, ht⟩ := h
  simp at ht
  exact absurd ht.1 (h1 a (by simp))
 | a :: s, c :: x, r, h1, h2, h => by
  obtain ⟨t, ht⟩ := h
  simp at ht
  obtain ⟨rfl, ht⟩ := ht
  rw [prefix_word s x r (fun c hc => h1 c (by simp [hc])) (fun c hc => h2 c (by simp [hc])) ⟨t, by simpa using ht⟩]

theorem spaced_head : ∀ ws, ∃ r, spaced ws = 32 :: r
 | [] => ⟨[], rfl⟩
 | x :: r => ⟨x ++ spaced r, rfl⟩

theorem infix_skip (n x r : List UInt8) (h : (∀ c ∈ x, c ≠ 32)) (hi : (32 :: n) <:+: (x ++ r)) : (32 :: n) <:+: r := by
 induction x with
 | nil => simpa using hi
 | cons c x ih =>
  rw [List.cons_append, List.infix_cons_iff] at hi
  rcases hi with hi | hi
  ·obtain ⟨t, ht⟩ := hi
   simp at ht
   exact absurd ht.1.symm (h c (by simp))
  ·exact ih (fun d hd => h d (by simp [hd])) hi

theorem infix_spaced (s : List UInt8) (hs : ∀ c ∈ s, c ≠ 32) (h0 : s ≠ []) : ∀ ws : List (List UInt8), (∀ x ∈ ws, ∀ c ∈ x, c ≠ 32) → ((32 :: (s ++ [32])) <:+: spaced ws ↔ s ∈ ws)
 | [], _ => by
  constructor
  ·intro h
   have := h.length_le
   simp [spaced] at this
  ·intro h
   cases h
 | x :: ws, hw => by
  have ih := infix_spaced s hs h0 ws (fun y hy => hw y (by simp [hy]))
  obtain ⟨r, hr⟩ := spaced_head ws
  rw [spaced, List.infix_cons_iff]
  constructor
  ·rintro (h | h)
   ·obtain ⟨t, ht⟩ := h
    simp only [List.cons_append, List.cons.injEq, true_and] at ht
    rw [hr] at ht
    exact List.mem_cons.2 (.inl (prefix_word s x r hs (hw x (by simp)) ⟨t, ht⟩))
   ·exact List.mem_cons_of_mem _ (ih.1 (infix_skip _ x _ (hw x (by simp)) h))
  ·intro h
   rcases List.mem_cons.1 h with rfl | h
   ·refine .inl ⟨r, ?_⟩
    rw [hr]; simp
   ·exact .inr ((ih.2 h).trans ⟨x, [], by simp⟩)

theorem index_infix : ∀ (l s : List UInt8), 0 ≤ Lib.index l s ↔ s <:+: l
 | [], s => by
  unfold Lib.index
  cases s with
  | nil => simp
  | cons a s => simp
 | b :: l, s => by
  have ih := index_infix l s
  have hge := Lib.index_ge l s
  unfold Lib.index
  rw [List.infix_cons_iff]
  by_cases h : s.isPrefixOf (b :: l) = true
  ·rw [if_pos h]
   have := List.isPrefixOf_iff_prefix.1 h
   simp [this]
  ·rw [if_neg h]
   have h' : ¬ s <+: b :: l := fun hp => h (List.isPrefixOf_iff_prefix.2 hp)
   by_cases hm : Lib.index l s = -1
   ·have : ¬ s <:+: l := fun hh => by have := ih.2 hh; omega
    simp [hm, h', this]
   ·have h2 : 0 ≤ Lib.index l s := by omega
    have : s <:+: l := ih.1 h2
    have hm' : (Lib.index l s == -1) = false := by simpa using hm
    simp only [hm', this, or_true, iff_true]
    simp; omega

def keyWords : List (List UInt8) := [[97, 110, 100], [97, 115], [99, 108, 97, 115, 115], [101, 108, 115, 101], [101, 110, 100], [102, 97, 108, 115, 101], [102, 117, 110], [105, 102], [105, 110], [105, 110, 104, 101, 114, 105, 116], [108, 101, 116], [109, 101, 116, 104, 111, 100], [110, 101, 119], [111, 98, 106, 101, 99, 116], [114, 101, 99], [116, 104, 101, 110], [116, 114, 117, 101], [118, 97, 108], [118, 105, 114, 116, 117, 97, 108]]
def isKey (s : ByteArray) : Bool := keyWords.contains s.data.toList
theorem keyWords_no : ∀ x ∈ keyWords, ∀ c ∈ x, c ≠ 32 := by decide
theorem contains_blank (s : List UInt8) : Lib.contains s [32] = decide (32 ∈ s) := by
 unfold Lib.contains
 rw [decide_eq_decide, index_infix]
 constructor
 ·rintro ⟨a, b, rfl⟩; simp
 ·intro h
  obtain ⟨a, b, rfl⟩ := List.append_of_mem h
  exact ⟨a, b, by simp⟩
theorem contains_keys (s : List UInt8) (h : ¬ 32 ∈ s) (h0 : s ≠ []) : Lib.contains (spaced keyWords) (32 :: (s ++ [32])) = keyWords.contains s := by
 unfold Lib.contains
 rw [Bool.eq_iff_iff, decide_eq_true_iff, index_infix, infix_spaced s (fun c hc e => h (e ▸ hc)) h0 _ keyWords_no]
 simp
end Go.Tre
namespace Go.Tre
open Go.RowKit

theorem hid {p : Prop} (h : p) : Hid p := h

structure Row (w : World) (sz : Nat) (a : Option Addr) (n : Nat) (cs : List Value) : Prop where
 len : cs.length = n * sz
 at_ : ∀ j u, cs[j]? = some u → ∃ b off, a = some ⟨b, off, none⟩ ∧ w.cell? ⟨b, off + j, none⟩ = some u

theorem cell_below {w w' : World} (h : Below w.heap.size w w') {p : Addr} {v : Value} (hc : w.cell? p = some v) : w'.cell? p = some v :=
 (h.cell (World.block_lt_of_cell? w p hc)).trans hc

theorem Row.below {w w' : World} {sz : Nat} {a : Option Addr} {n : Nat} {cs : List Value} (h : Row w sz a n cs) (hb : Below w.heap.size w w') : Row w' sz a n cs :=
 ⟨h.len, fun j u hu => by obtain ⟨b, off, e, hc⟩ := h.at_ j u hu; exact ⟨b, off, e, cell_below hb hc⟩⟩

structure Node where
 kind : Int
 name : ByteArray
 args : List Int
 labels : List ByteArray
 isOpen : Bool

structure Graph where
 ns : List Node
 root : Int

abbrev IntsAt (w : World) (a : Option Addr) (xs : List Int) : Prop := Row w 1 a xs.length (xs.map (Value.int .i64))
abbrev StrsAt (w : World) (a : Option Addr) (xs : List ByteArray) : Prop := Row w 1 a xs.length (xs.map Value.string)

def NodeAt (w : World) (b p : Nat) (n : Node) : Prop :=
 ∃ aa ca al cl, w.cell? ⟨b, p, none⟩ = some (.int .i64 n.kind) ∧ w.cell? ⟨b, p + 1, none⟩ = some (.string n.name) ∧ w.cell? ⟨b, p + 2, none⟩ = some (.slice aa n.args.length ca) ∧
  w.cell? ⟨b, p + 3, none⟩ = some (.slice al n.labels.length cl) ∧ w.cell? ⟨b, p + 4, none⟩ = some (.bool n.isOpen) ∧ IntsAt w aa n.args ∧ StrsAt w al n.labels ∧ n.args.length ≤ ca ∧ n.labels.length ≤ cl

structure NodesAt (w : World) (a : Option Addr) (ns : List Node) : Prop where
 at_ : ∀ (k : Nat) (n : Node), ns[k]? = some n → ∃ b off, a = some ⟨b, off, none⟩ ∧ NodeAt w b (off + k * 5) n

theorem NodeAt.below {w w' : World} {b p : Nat} {n : Node} (h : NodeAt w b p n) (hb : Below w.heap.size w w') : NodeAt w' b p n := by
 obtain ⟨aa, ca, al, cl, h0, h1, h2, h3, h4, h5, h6, h7⟩ := h
 exact ⟨aa, ca, al, cl, cell_below hb h0, cell_below hb h1, cell_below hb h2, cell_below hb h3, cell_below hb h4, h5.below hb, h6.below hb, h7⟩

theorem NodesAt.below {w w' : World} {a : Option Addr} {ns : List Node} (h : NodesAt w a ns) (hb : Below w.heap.size w w') : NodesAt w' a ns :=
 ⟨fun k n hk => by
  obtain ⟨b, off, e, hn⟩ := h.at_ k n hk
  exact ⟨b, off, e, hn.below hb⟩⟩

def Node.weight (n : Node) : Nat := 1 + n.name.size + n.args.length + (n.labels.map fun s => s.size + 1).sum
def Graph.weight (g : Graph) : Nat := (g.ns.map Node.weight).sum

theorem length_le_sum {α : Type} (f : α → Nat) (h : ∀ x, 1 ≤ f x) (l : List α) : l.length ≤ (l.map f).sum := by
 induction l with
 | nil => simp
 | cons x r ih => simp; have := h x; omega
end Go.Tre
namespace Go.Tre
def goesB (c : Int) (b : Bool) : Bool := if (48 ≤ c ∧ c ≤ 57) ∨ (65 ≤ c ∧ c ≤ 90) then !b else decide ((97 ≤ c ∧ c ≤ 122) ∨ c = 95)
def wordFrom (b : Bool) : List UInt8 → Nat
 | [] => 0
 | c :: r => if goesB c.toNat b then 1 + wordFrom false r else 0
def wordLen (s : ByteArray) : Nat := wordFrom true s.data.toList
end Go.Tre
namespace Go.Proofs.YtbafalfmgibnfaaGreatDoor.lex
open Go.RowKit Go.Tre

theorem ret_int {k : IntKind} {a b : Int} (h : a = b) : Ending.returned (.int k a) = .returned (.int k b) := by rw [h]
theorem nat_beq0 (k : Nat) : ((k : Int) == 0) = (k == 0) := by
 cases k
 ·rfl
 ·simp; omega
theorem drop_at (s : ByteArray) (k : Nat) (h : k < s.size) : s.data.toList.drop k = s[k] :: s.data.toList.drop (k + 1) := by
 rw [List.drop_eq_getElem_cons (by simpa using h)]; rfl
theorem ret_bool {x y : Bool} (h : x = y) : Ending.returned (.bool x) = .returned (.bool y) := by rw [h]

set_option maxHeartbeats 1000000 in
theorem goes (c : Int) (b : Bool) (w : World) (h0 : 0 ≤ c) (h1 : c ≤ 255) :
  Calls Tryz.prog 43 #[.int .u8 c, .bool b] w fun e w' => e = .returned (.bool (goesB c b)) ∧ w = w' := by
 have H : c < 48 ∨ (48 ≤ c ∧ c ≤ 57) ∨ (57 < c ∧ c < 65) ∨ (65 ≤ c ∧ c ≤ 90) ∨ (90 < c ∧ c < 95) ∨ c = 95 ∨ c = 96 ∨ (97 ≤ c ∧ c ≤ 122) ∨ 122 < c := by omega
 cases b
 all_goals
  rcases H with h | ⟨h, h'⟩ | ⟨h, h'⟩ | ⟨h, h'⟩ | ⟨h, h'⟩ | rfl | rfl | ⟨h, h'⟩ | h
  all_goals
   go_enter Tryz.func43, Tryz.ntmps43
   go_wp2_with fail
   go_ret
   refine ⟨ret_bool ?_, rfl⟩
   unfold goesB
   simp
   try omega

set_option maxHeartbeats 1000000 in
theorem word (s : ByteArray) (w : World) (hs : s.size ≤ 8388608) :
  Calls Tryz.prog 24 #[.string s] w fun e w' => e = .returned (.int .i64 (wordLen s)) ∧ w = w' := by
 go_enter Tryz.func24, Tryz.ntmps24
 go_wp2_with fail
 go_loop [3] (fun n => ∃ k : Nat, k ≤ s.size ∧ n = .int .i64 k ∧ wordLen s = k + wordFrom (k == 0) (s.data.toList.drop k)) (fun n => s.size - (intOf n).toNat)
 case atStart => exact ⟨0, Nat.zero_le _, rfl, by simp [wordLen]⟩
 case round =>
  obtain ⟨k, hk, rfl, hrel⟩ := hrel
  have HR := Tre.hid hrel
  clear hrel
  by_cases hlt : k < s.size
  ·have hd : s.data.toList.drop k = s[k] :: s.data.toList.drop (k + 1) := drop_at s k hlt
   have h255 := s[k].toNat_lt
   by_cases hg : goesB s[k].toNat ((k : Int) == 0) = true
   ·have HW : Hid (wordLen s = (k + 1 : Nat) + wordFrom ((k + 1 : Nat) == 0) (s.data.toList.drop (k + 1))) := by
     show _ = _
     rw [HR.out, hd, wordFrom, ← nat_beq0, if_pos hg, show (k + 1 == 0) = false from rfl]; omega
    clear hd
    go_wp2_with (go_at_call 43; refine (goes _ _ _ (by omega) (by omega)).mono ?_; rintro e w' ⟨rfl, rfl⟩)
    go_round
    case rel => exact ⟨k + 1, by omega, rfl, HW.out⟩
    case measure => simp [intOf]; omega
   ·have hg' : goesB s[k].toNat ((k : Int) == 0) = false := by simpa using hg
    have HW : Hid (wordLen s = k) := by
     show _ = _
     rw [HR.out, hd, wordFrom, ← nat_beq0, if_neg (by simpa using hg)]; omega
    clear hd hg
    go_wp2_with (go_at_call 43; refine (goes _ _ _ (by omega) (by omega)).mono ?_; rintro e w' ⟨rfl, rfl⟩)
    go_ret
    exact ⟨ret_int (by rw [HW.out]), rfl⟩
  ·have HW : Hid (wordLen s = k) := by
    show _ = _
    rw [HR.out, List.drop_of_length_le (by simp; omega)]; rfl
   go_wp2_with fail
   go_ret
   exact ⟨ret_int (by rw [HW.out]), rfl⟩
end Go.Proofs.YtbafalfmgibnfaaGreatDoor.lex
namespace Go.Tre
structure Tok where
 kind : Nat
 at_ : Nat
 n : Int
 s : List UInt8
deriving DecidableEq

def blank (c : UInt8) : Bool := c == 9 || c == 10 || c == 13 || c == 32
def noteEnd : List UInt8 → Option (List UInt8)
 | [] => none
 | [_] => none
 | c :: d :: r => if c = 42 ∧ d = 41 then some r else noteEnd (d :: r)
theorem noteEnd_len : ∀ {l r : List UInt8}, noteEnd l = some r → r.length + 2 ≤ l.length
 | [], _, h => by cases h
 | [_], _, h => by cases h
 | c :: d :: l, r, h => by
  unfold noteEnd at h
  split at h
  ·cases h; simp
  ·have := noteEnd_len h; simp only [List.length_cons] at this ⊢; omega
def skipS (l : List UInt8) : Option (List UInt8) :=
 match h : l.dropWhile blank with
 | 40 :: 42 :: r => match h2 : noteEnd r with
  | none => none
  | some r' => skipS r'
 | r => some r
termination_by l.length
decreasing_by
 have h3 := (List.dropWhile_sublist (l := l) blank).length_le
 rw [h] at h3
 have h4 := noteEnd_len h2
 simp only [List.length_cons] at h3
 omega
def quotedS : List UInt8 → Option (List UInt8 × Nat)
 | [] => none
 | c :: r =>
  if c = 34 then some ([], 1)
  else if c = 92 then match r with
   | [] => none
   | d :: r' => if d = 92 ∨ d = 34 then (quotedS r').map fun p => (d :: p.1, p.2 + 2) else if d = 110 then (quotedS r').map fun p => (10 :: p.1, p.2 + 2) else none
  else (quotedS r).map fun p => (c :: p.1, p.2 + 1)
def symbolsS : List (List UInt8) := [[45, 62], [60, 45], [58, 62], [46, 46], [123, 60], [62, 125], [40], [41], [59], [58], [61], [60], [62], [43], [45], [42], [47], [44], [35]]
def isDig (c : UInt8) : Bool := decide (48 ≤ c.toNat) && decide (c.toNat ≤ 57)
def digitsVal (l : List UInt8) : Nat := l.foldl (fun a c => 10 * a + (c.toNat - 48)) 0
def nextS (l : List UInt8) : Option (Tok × Nat) :=
 if wordFrom true l > 0 then
  if wordFrom true l > 100 then none
  else some (⟨if keyWords.contains (l.take (wordFrom true l)) then 2 else 1, 0, 0, l.take (wordFrom true l)⟩, wordFrom true l)
 else match l with
  | [] => none
  | c :: r =>
   if c = 39 then
    if wordFrom true r = 0 ∨ wordFrom true r > 100 then none else some (⟨5, 0, 0, r.take (wordFrom true r)⟩, wordFrom true r + 1)
   else if isDig c then
    let d := (c :: r).takeWhile isDig
    if digitsVal d ≤ 9223372036854775807 then some (⟨3, 0, digitsVal d, []⟩, d.length) else none
   else if c = 34 then (quotedS r).map fun p => (⟨4, 0, 0, p.1⟩, p.2 + 1)
   else (symbolsS.find? fun x => x.isPrefixOf (c :: r)).map fun x => (⟨6, 0, 0, x⟩, x.length)
theorem skipS_len {l r : List UInt8} (h : skipS l = some r) : r.length ≤ l.length := by
 induction hn : l.length using Nat.strongRecOn generalizing l with
 | _ n ih =>
  have h3 := (List.dropWhile_sublist (l := l) blank).length_le
  rw [skipS] at h
  split at h
  ·rename_i r0 h1
   rw [h1] at h3
   simp only [List.length_cons] at h3
   split at h
   ·cases h
   ·rename_i r' h2
    have h4 := noteEnd_len h2
    have := ih r'.length (by omega) h rfl
    omega
  ·cases h
   omega
theorem wordFrom_len : ∀ (l : List UInt8) (b : Bool), wordFrom b l ≤ l.length
 | [], _ => by simp [wordFrom]
 | c :: r, b => by
  unfold wordFrom
  split
  ·have := wordFrom_len r false; simp only [List.length_cons]; omega
  ·simp
theorem quotedS_len : ∀ (k : Nat) (l : List UInt8), l.length ≤ k → ∀ p, quotedS l = some p → 1 ≤ p.2 ∧ p.2 ≤ l.length
 | 0, l, hk, p, h => by
  have : l = [] := List.eq_nil_of_length_eq_zero (by omega)
  subst this
  simp [quotedS] at h
 | k + 1, [], _, p, h => by simp [quotedS] at h
 | k + 1, c :: r, hk, p, h => by
  simp only [List.length_cons] at hk ⊢
  unfold quotedS at h
  split at h
  ·cases h; exact ⟨Nat.le_refl _, by simp⟩
  ·split at h
   ·split at h
    ·cases h
    ·rename_i d r'
     simp only [List.length_cons] at hk ⊢
     split at h
     ·obtain ⟨q, hq, rfl⟩ := Option.map_eq_some_iff.1 h
      have := quotedS_len k r' (by omega) q hq
      simp only; omega
     ·split at h
      ·obtain ⟨q, hq, rfl⟩ := Option.map_eq_some_iff.1 h
       have := quotedS_len k r' (by omega) q hq
       simp only; omega
      ·cases h
   ·obtain ⟨q, hq, rfl⟩ := Option.map_eq_some_iff.1 h
    have := quotedS_len k r (by omega) q hq
    simp only; omega
theorem takeWhile_len {α : Type} (p : α → Bool) : ∀ l : List α, (l.takeWhile p).length ≤ l.length := fun l => (List.takeWhile_sublist p).length_le
theorem nextS_len {l : List UInt8} {t : Tok} {n : Nat} (h : nextS l = some (t, n)) : 1 ≤ n ∧ n ≤ l.length := by
 unfold nextS at h
 split at h
 ·split at h
  ·cases h
  ·cases h
   exact ⟨by omega, wordFrom_len l true⟩
 ·split at h
  ·cases h
  ·rename_i c r _
   split at h
   ·split at h
    ·cases h
    ·cases h
     have := wordFrom_len r true
     simp only [List.length_cons]; omega
   ·split at h
    ·rename_i hd
     simp only at h
     split at h
     ·cases h
      refine ⟨?_, takeWhile_len _ _⟩
      rw [List.takeWhile_cons, if_pos hd]; simp
     ·cases h
    ·split at h
     ·obtain ⟨q, hq, e⟩ := Option.map_eq_some_iff.1 h
      cases e
      have := quotedS_len r.length r (Nat.le_refl _) q hq
      simp only [List.length_cons]; omega
     ·obtain ⟨x, hx, e⟩ := Option.map_eq_some_iff.1 h
      cases e
      have h1 := List.find?_some hx
      have h2 := List.mem_of_find?_eq_some hx
      have h3 : x <+: c :: r := by simpa using h1
      refine ⟨?_, h3.length_le⟩
      have : ∀ y ∈ symbolsS, 1 ≤ y.length := by decide
      exact this x h2
def allS (N : Nat) (l : List UInt8) : Option (List Tok) :=
 match h : skipS l with
 | none => none
 | some [] => some [⟨0, N, 0, []⟩]
 | some (c :: r) => match h2 : nextS (c :: r) with
  | none => none
  | some (t, n) => (allS N ((c :: r).drop n)).map fun ts => { t with at_ := N - (c :: r).length } :: ts
termination_by l.length
decreasing_by
 have h3 := skipS_len h
 have h4 := nextS_len h2
 simp only [List.length_drop, List.length_cons] at *
 omega
def lexS (l : List UInt8) : Option (List Tok) := if l.length ≤ 65536 then allS l.length l else none
end Go.Tre
namespace Go.Tre
theorem allS_eq (N : Nat) (l : List UInt8) : allS N l = match skipS l with
  | none => none
  | some [] => some [⟨0, N, 0, []⟩]
  | some (c :: r) => match nextS (c :: r) with
   | none => none
   | some (t, n) => (allS N ((c :: r).drop n)).map fun ts => { t with at_ := N - (c :: r).length } :: ts := by
 rw [allS]
 split
 ·rename_i h; rw [h]
 ·rename_i h; rw [h]
 ·rename_i c r h
  rw [h]
  simp only
  split
  ·rename_i h2; rw [h2]
  ·rename_i t n h2; rw [h2]
theorem skipS_note' {l r : List UInt8} (h : l.dropWhile blank = 40 :: 42 :: r) : skipS l = (noteEnd r).bind skipS := by
 rw [skipS]
 split
 ·rename_i r0 h1
  rw [h] at h1
  cases h1
  split
  ·rename_i h2; rw [h2]; rfl
  ·rename_i h2; rw [h2]; rfl
 ·rename_i hn
  exact absurd h (hn r)
theorem skipS_rest' {l : List UInt8} (h : ∀ r, l.dropWhile blank ≠ 40 :: 42 :: r) : skipS l = some (l.dropWhile blank) := by
 rw [skipS]
 split
 ·rename_i r0 h1
  exact absurd h1 (h r0)
 ·rfl
end Go.Tre
namespace Go.Tre
def skipF : Nat → List UInt8 → Option (List UInt8)
 | 0, _ => none
 | k + 1, l => match l.dropWhile blank with
  | 40 :: 42 :: r => match noteEnd r with
   | none => none
   | some r' => skipF k r'
  | r => some r
theorem skipF_eq : ∀ (k : Nat) (l : List UInt8), l.length < k → skipF k l = skipS l
 | 0, _, h => by omega
 | k + 1, l, h => by
  by_cases hn : ∃ r, l.dropWhile blank = 40 :: 42 :: r
  ·obtain ⟨r, hr⟩ := hn
   rw [skipS_note' hr, skipF, hr]
   simp only
   cases hne : noteEnd r with
   | none => rfl
   | some r' =>
    have h1 := noteEnd_len hne
    have h2 := (List.dropWhile_sublist (l := l) blank).length_le
    rw [hr] at h2
    simp only [List.length_cons] at h2
    exact skipF_eq k r' (by omega)
  ·have hn' : ∀ r, l.dropWhile blank ≠ 40 :: 42 :: r := fun r hr => hn ⟨r, hr⟩
   rw [skipS_rest' hn', skipF]
   split
   ·rename_i r hr; exact absurd hr (hn' r)
   ·rfl
def allF : Nat → Nat → List UInt8 → Option (List Tok)
 | 0, _, _ => none
 | k + 1, N, l => match skipF (l.length + 1) l with
  | none => none
  | some [] => some [⟨0, N, 0, []⟩]
  | some (c :: r) => match nextS (c :: r) with
   | none => none
   | some (t, n) => (allF k N ((c :: r).drop n)).map fun ts => { t with at_ := N - (c :: r).length } :: ts
theorem allF_eq : ∀ (k N : Nat) (l : List UInt8), l.length < k → allF k N l = allS N l
 | 0, _, _, h => by omega
 | k + 1, N, l, h => by
  rw [allS_eq, allF, skipF_eq _ l (Nat.lt_succ_self _)]
  cases hs : skipS l with
  | none => rfl
  | some r =>
   have hrl := skipS_len hs
   cases r with
   | nil => rfl
   | cons c r =>
    simp only
    cases hn : nextS (c :: r) with
    | none => rfl
    | some q =>
     obtain ⟨t, n⟩ := q
     have hnl := nextS_len hn
     simp only
     rw [allF_eq k N ((c :: r).drop n) (by rw [List.length_drop]; omega)]
theorem lexS_of {l : List UInt8} {ts : List Tok} (h : allF (l.length + 1) l.length l = some ts) (hl : l.length ≤ 65536) : lexS l = some ts := by
 unfold lexS
 rw [if_pos hl, ← allF_eq _ _ l (Nat.lt_succ_self _), h]
end Go.Tre
namespace Go.Tre
inductive Ty where
 | mk (kind : Nat) (s : List UInt8) (args : List Ty) (labels : List (List UInt8)) (opn : Bool)
def Ty.kind : Ty → Nat | .mk k _ _ _ _ => k
def Ty.s : Ty → List UInt8 | .mk _ s _ _ _ => s
def Ty.args : Ty → List Ty | .mk _ _ a _ _ => a
def Ty.labels : Ty → List (List UInt8) | .mk _ _ _ l _ => l
def Ty.opn : Ty → Bool | .mk _ _ _ _ o => o
def tk (l : List Tok) (i kind : Nat) (s : List UInt8) : Bool := match l[i]? with
 | some t => decide (t.kind = kind) && decide (t.s = s)
 | none => false
def wd (l : List Tok) (i kind : Nat) : Option (List UInt8) := match l[i]? with
 | some t => if t.kind = kind then some t.s else none
 | none => none
def basics : List (List UInt8) := [[105, 110, 116], [98, 111, 111, 108], [115, 116, 114, 105, 110, 103], [117, 110, 105, 116]]
def opS (n : Nat) : List UInt8 := if n = 1 then [45, 62] else [42]
def lessS : List UInt8 → List UInt8 → Bool
 | _, [] => false
 | [], _ :: _ => true
 | a :: l, b :: r => decide (a.toNat < b.toNat) || (decide (a = b) && lessS l r)
def posL (labels : List (List UInt8)) (s : List UInt8) : Nat := (labels.takeWhile fun x => lessS x s).length
def insAt {α : Type} (l : List α) (p : Nat) (x : α) : List α := l.take p ++ x :: l.drop p
mutual
def pLev (l : List Tok) : Nat → Nat → Nat → Option (Ty × Nat)
 | 0, _, _ => none
 | k + 1, n, i =>
  if n = 0 then (pLev l k 1 i).bind fun r => pAs l k r.1 r.2
  else if n = 1 ∨ n = 2 then (pLev l k (n + 1) i).bind fun r =>
   if tk l r.2 6 (opS n) then (pLev l k n (r.2 + 1)).map fun q => (.mk 2 (opS n) [r.1, q.1] [] false, q.2) else some r
  else match wd l i 5 with
   | some s => some (.mk 1 s [] [] false, i + 1)
   | none => match wd l i 1 with
    | some s => if basics.contains s then some (.mk 2 s [] [] false, i + 1) else none
    | none =>
     if tk l i 6 [40] then (pLev l k 0 (i + 1)).bind fun r => if tk l r.2 6 [41] then some (r.1, r.2 + 1) else none
     else if tk l i 6 [60] then (if tk l (i + 1) 6 [62] then some (.mk 3 [] [] [] false, i + 2) else pObj l k [] [] (i + 1))
     else none
def pAs (l : List Tok) : Nat → Ty → Nat → Option (Ty × Nat)
 | 0, _, _ => none
 | k + 1, t, i => if tk l i 2 [97, 115] then (wd l (i + 1) 5).bind fun s => pAs l k (.mk 4 s [t] [] false) (i + 2) else some (t, i)
def pObj (l : List Tok) : Nat → List (List UInt8) → List Ty → Nat → Option (Ty × Nat)
 | 0, _, _, _ => none
 | k + 1, labels, args, i =>
  if tk l i 6 [46, 46] then (if tk l (i + 1) 6 [62] then some (.mk 3 [] args labels true, i + 2) else none)
  else (wd l i 1).bind fun s => if tk l (i + 1) 6 [58] then (pLev l k 1 (i + 2)).bind fun r =>
   if labels.contains s = true then none
   else if tk l r.2 6 [62] then some (.mk 3 [] (insAt args (posL labels s) r.1) (insAt labels (posL labels s) s) false, r.2 + 1)
   else if tk l r.2 6 [59] then pObj l k (insAt labels (posL labels s) s) (insAt args (posL labels s) r.1) (r.2 + 1)
   else none
  else none
end
end Go.Tre
namespace Go.Tre
open Go.RowKit Go.Maps Go.MapKept Go.ChangeMaps

section
variable {α β : Type} {P : Program} {k : TypeId} {ek : α → Value} {ev : β → Value} {w : World} {b n : Nat} {m : α → Option β}

def MapIs (P : Program) (k : TypeId) (ek : α → Value) (ev : β → Value) (w : World) (b n : Nat) (m : α → Option β) : Prop :=
 ∃ es clock, w.heap[b]? = some (.map es clock) ∧ es.size = n ∧ Stamped es clock ∧
  (∀ e ∈ es.toList, ∃ a x l, e.key = ek a ∧ e.val = ev x ∧ m a = some x ∧ keyOf P k (ek a) = some l) ∧
  (∀ a x, m a = some x → ∃ e ∈ es.toList, e.key = ek a ∧ e.val = ev x)

def upd [DecidableEq α] (m : α → Option β) (a : α) (x : β) : α → Option β := fun a' => if a' = a then some x else m a'

theorem MapIs.made (w : World) (P : Program) (k : TypeId) (ek : α → Value) (ev : β → Value) : MapIs P k ek ev (w.alloc (.map #[] 0)) w.heap.size 0 (fun _ => none) :=
 ⟨#[], 0, (MapKept.heap_alloc w _).1, rfl, stamped_empty 0, by simp, by simp⟩

theorem MapIs.lt (h : MapIs P k ek ev w b n m) : b < w.heap.size := by
 obtain ⟨es, clock, hb, _⟩ := h
 exact (Array.getElem?_eq_some_iff.1 hb).1

theorem MapIs.kept {w' : World} {row : Option Nat} (h : MapIs P k ek ev w b n m) (hg : w.grownBy w' row) (hne : some b ≠ row) : MapIs P k ek ev w' b n m := by
 have hlt := h.lt
 obtain ⟨es, clock, hb, r⟩ := h
 exact ⟨es, clock, (hg.block b hlt hne).trans hb, r⟩

theorem MapIs.block {w' : World} (h : MapIs P k ek ev w b n m) (he : w'.heap[b]? = w.heap[b]?) : MapIs P k ek ev w' b n m := by
 obtain ⟨es, clock, hb, r⟩ := h
 exact ⟨es, clock, he.trans hb, r⟩

theorem MapIs.alloc (h : MapIs P k ek ev w b n m) (o : Obj) : MapIs P k ek ev (w.alloc o) b n m := h.kept (World.grownBy_alloc w o none) (by simp)
theorem MapIs.drew (h : MapIs P k ek ev w b n m) : MapIs P k ek ev w.drew b n m := h

theorem MapIs.find (h : MapIs P k ek ev w b n m) (K : Keyed P k) (inj : ∀ a a', ek a = ek a' → a = a') {a : α} {l : Lit} (hl : keyOf P k (ek a) = some l) :
  ∃ es clock, w.heap[b]? = some (.map es clock) ∧
  ((m a = none ∧ (Instr.findKey k (ek a) es.toList).run P w = .ok none w ∧ ∀ e ∈ es.toList, e.key ≠ ek a) ∨
   (∃ x j e, m a = some x ∧ (Instr.findKey k (ek a) es.toList).run P w = .ok (some (j, ev x)) w ∧ es.toList[j]? = some e ∧ e.key = ek a ∧ e.val = ev x)) := by
 obtain ⟨es, clock, hb, hn, hst, h1, h2⟩ := h
 refine ⟨es, clock, hb, ?_⟩
 rcases K.find w hl es.toList (fun e he => by obtain ⟨a', x, l', e1, _, _, e4⟩ := h1 e he; exact ⟨l', by rw [e1]; exact e4⟩) with ⟨r1, r2⟩ | ⟨j, e, r1, r2, r3⟩
 ·refine .inl ⟨?_, r1, r2⟩
  cases hm : m a with
  | none => rfl
  | some x =>
   obtain ⟨e, he, e1, _⟩ := h2 a x hm
   exact (r2 e he e1).elim
 ·have hmem : e ∈ es.toList := List.mem_of_getElem? r2
  obtain ⟨a', x, l', e1, e2, e3, _⟩ := h1 e hmem
  have : a' = a := inj _ _ (by rw [← e1, r3])
  subst this
  exact .inr ⟨x, j, e, e3, by rw [r1, e2], r2, r3, e2⟩

theorem MapIs.run_look {t e : TypeId} {z : Value} (h : MapIs P k ek ev w b n m) (K : Keyed P k) (inj : ∀ a a', ek a = ek a' → a = a') (ht : P.underlying t = some (.map k e)) (hz : (zeroValue e).run P w = .ok z w)
  {a : α} {l : Lit} (hl : keyOf P k (ek a) = some l) : (Instr.lookup t (.map (some b)) (ek a) false).run P w = .ok (((m a).map ev).getD z) w := by
 obtain ⟨es, clock, hb, ⟨hm, r1, _⟩ | ⟨x, j, e, hm, r1, _, _, r3⟩⟩ := h.find K inj hl
 ·simp [Instr.lookup, run_underlying ht, MapKept.run_getObj_map hb, K.check w _ hl, r1, hz, hm, Result.andThen]
 ·simp [Instr.lookup, run_underlying ht, MapKept.run_getObj_map hb, K.check w _ hl, r1, hm, Result.andThen]

theorem modify_set {α : Type} (l : List α) (j : Nat) (f : α → α) (e : α) (h : l[j]? = some e) : l.modify j f = l.set j (f e) := by
 apply List.ext_getElem?
 intro i
 rw [List.getElem?_modify, List.getElem?_set]
 by_cases hij : j = i
 ·subst hij
  have := (List.getElem?_eq_some_iff.1 h).1
  have h' : l[j] = e := by rw [List.getElem?_eq_getElem this] at h; exact Option.some.inj h
  simp [this, h']
 ·simp [hij]

theorem MapIs.run_store [DecidableEq α] {t e : TypeId} (h : MapIs P k ek ev w b n m) (K : Keyed P k) (inj : ∀ a a', ek a = ek a' → a = a') (ht : P.underlying t = some (.map k e))
  {a : α} {l : Lit} (hl : keyOf P k (ek a) = some l) (x : β) :
  ∃ w', (Instr.mapUpdate t (.map (some b)) (ek a) (ev x)).run P w = .ok () w' ∧ MapIs P k ek ev w' b (if (m a).isSome then n else n + 1) (upd m a x) ∧ w.grownBy w' (some b) := by
 have h0 := h
 obtain ⟨es, clock, hb, hn, hst, h1, h2⟩ := h0
 obtain ⟨es0, clock0, hb0, hf⟩ := h.find K inj hl
 rw [hb] at hb0
 cases hb0
 have keep : ∀ es' clock', w.grownBy (setBlock w b (.map es' clock')) (some b) := fun es' clock' => ⟨rfl, rfl, rfl, by simp [setBlock], fun i _ hi => heap_setBlock_other hb _ (fun e => hi (by rw [e]))⟩
 rcases hf with ⟨hm, r1, r2⟩ | ⟨y, j, e0, hm, r1, r2, r3, r4⟩
 ·refine ⟨setBlock w b (.map (es.push ⟨ek a, ev x, clock⟩) (clock + 1)), ?_, ⟨_, _, heap_setBlock_same hb _, by simp [hm, hn], stamped_push hst r2, ?_, ?_⟩, keep _ _⟩
  ·simp [Instr.mapUpdate, run_underlying ht, MapKept.run_getObj_map hb, K.check w false hl, r1, MapKept.run_setObj_map _ hb, Result.andThen, setBlock]
  ·intro e' he'
   simp only [Array.toList_push, List.mem_append, List.mem_singleton] at he'
   rcases he' with he' | rfl
   ·obtain ⟨a', x', l', e1, e2, e3, e4⟩ := h1 e' he'
    have hne : a' ≠ a := fun e => r2 e' he' (by rw [e1, e])
    exact ⟨a', x', l', e1, e2, by simp [upd, hne, e3], e4⟩
   ·exact ⟨a, x, l, rfl, rfl, by simp [upd], hl⟩
  ·intro a' x' ha'
   simp only [Array.toList_push, List.mem_append, List.mem_singleton]
   by_cases hne : a' = a
   ·subst hne
    simp [upd] at ha'
    subst ha'
    exact ⟨_, .inr rfl, rfl, rfl⟩
   ·simp [upd, hne] at ha'
    obtain ⟨e', he', e1, e2⟩ := h2 a' x' ha'
    exact ⟨e', .inl he', e1, e2⟩
 ·have hj : es[j]? = some e0 := by simpa using r2
  have hjl : j < es.toList.length := (List.getElem?_eq_some_iff.1 r2).1
  have hlist : (es.modify j (fun e' => { e' with key := ek a, val := ev x })).toList = es.toList.set j { e0 with key := ek a, val := ev x } := by rw [Array.toList_modify, modify_set _ _ _ _ r2]
  have nod := hst.2.2
  have who : ∀ e' ∈ es.toList.set j { e0 with key := ek a, val := ev x }, e' = { e0 with key := ek a, val := ev x } ∨ (e' ∈ es.toList ∧ e'.key ≠ ek a) := by
   intro e' he'
   obtain ⟨i, hi, ex⟩ := List.getElem_of_mem he'
   rw [List.getElem_set] at ex
   split at ex
   ·exact .inl ex.symm
   ·rename_i hne
    have hi' : i < es.toList.length := by simpa using hi
    refine .inr ⟨ex ▸ List.getElem_mem hi', fun hk => hne ?_⟩
    have e5 : (es.toList.map (·.key))[i]? = (es.toList.map (·.key))[j]? := by
     simp only [List.getElem?_map, r2, List.getElem?_eq_getElem hi', zqd, ex, hk, r3]
    exact ((List.getElem?_inj (by simpa using hi') nod).1 e5).symm
  refine ⟨setBlock w b (.map (es.modify j (fun e' => { e' with key := ek a, val := ev x })) clock), ?_, ⟨_, _, heap_setBlock_same hb _, by simp [hm, hn], stamped_modify hst _ _ (fun _ _ => rfl) (fun e' _ he' => ?_), ?_, ?_⟩, keep _ _⟩
  ·simp [Instr.mapUpdate, run_underlying ht, MapKept.run_getObj_map hb, K.check w false hl, r1, hj, r3, K.stays w hl, MapKept.run_setObj_map _ hb, Result.andThen, setBlock]
  ·rw [hj] at he'; cases he'; exact r3.symm
  ·intro e' he'
   rw [hlist] at he'
   rcases who e' he' with rfl | ⟨he', hne⟩
   ·exact ⟨a, x, l, rfl, rfl, by simp [upd], hl⟩
   ·obtain ⟨a', x', l', e1, e2, e3, e4⟩ := h1 e' he'
    have hne' : a' ≠ a := fun e => hne (by rw [e1, e])
    exact ⟨a', x', l', e1, e2, by simp [upd, hne', e3], e4⟩
  ·intro a' x' ha'
   rw [hlist]
   by_cases hne : a' = a
   ·subst hne
    simp [upd] at ha'
    subst ha'
    exact ⟨{ e0 with key := ek a', val := ev x }, List.mem_iff_getElem.2 ⟨j, by simpa using hjl, by simp⟩, rfl, rfl⟩
   ·simp [upd, hne] at ha'
    obtain ⟨e', he', e1, e2⟩ := h2 a' x' ha'
    obtain ⟨i, hi, ex⟩ := List.getElem_of_mem he'
    have hij : j ≠ i := fun e => by
     subst e
     rw [List.getElem?_eq_getElem hi, ex] at r2
     cases r2
     exact hne (inj _ _ (by rw [← e1, r3]))
    exact ⟨e', List.mem_iff_getElem.2 ⟨i, by simpa using hi, by rw [List.getElem_set_ne hij]; exact ex⟩, e1, e2⟩
end

section
variable {α β : Type} {P : Program} {k : TypeId} {ek : α → Value} {ev : β → Value} {w : World} {b n : Nat} {m : α → Option β}
 {ops : Array Oper} {rest : List Oper} {o : Oper} {a : Act} {Q : Exit → Act → World → Prop}

theorem wpList_store [DecidableEq α] (hg : o.guard = none) (mo xo vo : Operand) (t : TypeId) (hop : o.op = Op.mapUpdate t mo xo vo ∨ o.op = Op.insert t mo xo vo) (e : TypeId) (K : Keyed P k) (inj : ∀ a a', ek a = ek a' → a = a')
  (ht : P.underlying t = some (.map k e)) (hm : a.eval mo = .map (some b)) (h : MapIs P k ek ev w b n m) (x : α) (hx : a.eval xo = ek x) {l : Lit} (hl : keyOf P k (ek x) = some l) (y : β) (hy : a.eval vo = ev y)
  (hK : ∀ w', MapIs P k ek ev w' b (if (m x).isSome then n else n + 1) (upd m x y) → w.grownBy w' (some b) → wpList P ops Q rest (a.put o.dst undef) w') : wpList P ops Q (o :: rest) a w := by
 refine wpList_plain hg fun K' hK' => ?_
 obtain ⟨w', hrun, r1, r2⟩ := h.run_store K inj ht hl y
 unfold Oper.wp
 rcases hop with hop | hop
 ·simp [execOp, hop, hm, hx, hy, hrun, Result.andThen]
  exact hK' _ _ (hK w' r1 r2)
 ·simp [execOp, hop, hm, hx, hy, hrun, Result.andThen]
  exact hK' _ _ (hK w' r1 r2)
end

end Go.Tre
