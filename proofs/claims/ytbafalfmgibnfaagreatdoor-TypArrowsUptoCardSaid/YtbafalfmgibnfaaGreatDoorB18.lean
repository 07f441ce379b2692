/- Layers 1 and 3, plain: texts out of tokens, blanks between; what they are told as. Layer 3, plain: a type's text, as tokens; it is told as these. typ.put at types that may be, but for objects. -/
import Derived.Test.YtbafalfmgibnfaaGreatDoorB00
import Derived.Test.YtbafalfmgibnfaaGreatDoorB16
import Derived.Test.YtbafalfmgibnfaaGreatDoorB17
import Derived.Defers
set_option linter.unusedVariables false
namespace Go.Tre
structure Sp where
 gap : Bool
 kind : Nat
 s : List UInt8
def Sp.body (x : Sp) : List UInt8 := if x.kind = 5 then 39 :: x.s else x.s
def Sp.text (x : Sp) : List UInt8 := if x.gap then 32 :: x.body else x.body
def spell : List Sp → List UInt8
 | [] => []
 | x :: l => x.text ++ spell l
theorem spell_app : ∀ a b : List Sp, spell (a ++ b) = spell a ++ spell b
 | [], b => rfl
 | x :: a, b => by rw [List.cons_append, spell, spell, spell_app a b, List.append_assoc]
structure Good (x : Sp) (r : List UInt8) : Prop where
 next : nextS (x.body ++ r) = some (⟨x.kind, 0, 0, x.s⟩, x.body.length)
 head : ∃ c t, x.body ++ r = c :: t ∧ blank c = false ∧ (c = 40 → t.head? ≠ some 42)
def Goods : List Sp → Prop
 | [] => True
 | x :: l => Good x (spell l) ∧ Goods l
def toksOf (N : Nat) : List Sp → List Tok
 | [] => [⟨0, N, 0, []⟩]
 | x :: l => ⟨x.kind, N - (x.body ++ spell l).length, 0, x.s⟩ :: toksOf N l
theorem skipS_good {x : Sp} {r : List UInt8} (h : Good x r) : skipS (x.text ++ r) = some (x.body ++ r) := by
 obtain ⟨c, t, e, hb, hn⟩ := h.head
 have h1 : (x.text ++ r).dropWhile blank = x.body ++ r := by
  unfold Sp.text
  split
  ·rw [List.cons_append, List.dropWhile_cons, if_pos (by decide), e, List.dropWhile_cons, if_neg (by rw [hb]; decide)]
  ·rw [e, List.dropWhile_cons, if_neg (by rw [hb]; decide)]
 rw [skipS_rest' (fun q hq => ?_), h1]
 rw [h1, e] at hq
 cases hq
 exact hn rfl rfl
theorem allS_spell (N : Nat) : ∀ l : List Sp, Goods l → allS N (spell l) = some (toksOf N l)
 | [], _ => by rw [allS_eq, show spell [] = [] from rfl, skipS_rest' (l := []) (fun r h => by simp at h)]; rfl
 | x :: l, h => by
  obtain ⟨c, t, e, _, _⟩ := h.1.head
  have hn := h.1.next
  have ih := allS_spell N l h.2
  rw [spell, allS_eq, skipS_good h.1, toksOf]
  have hd : (x.body ++ spell l).drop x.body.length = spell l := List.drop_left
  rw [e] at hn hd ⊢
  simp only
  rw [hn]
  simp only
  rw [hd, ih]
  rfl
theorem lexS_spell {l : List Sp} (h : Goods l) (hl : (spell l).length ≤ 65536) : lexS (spell l) = some (toksOf (spell l).length l) := by
 unfold lexS
 rw [if_pos hl, allS_spell _ l h]
theorem toksOf_len (N : Nat) : ∀ l : List Sp, (toksOf N l).length = l.length + 1
 | [] => rfl
 | x :: l => by rw [toksOf, List.length_cons, toksOf_len N l, List.length_cons]
theorem toksOf_at (N : Nat) : ∀ (l : List Sp) (j : Nat) (x : Sp), l[j]? = some x → ∃ t, (toksOf N l)[j]? = some t ∧ t.kind = x.kind ∧ t.s = x.s
 | [], j, x, h => by simp at h
 | y :: l, 0, x, h => by
  simp at h
  subst h
  exact ⟨_, rfl, rfl, rfl⟩
 | y :: l, j + 1, x, h => by
  simp only [zqb] at h
  obtain ⟨t, h1, h2⟩ := toksOf_at N l j x h
  exact ⟨t, by rw [toksOf, zqb]; exact h1, h2⟩
theorem toksOf_end (N : Nat) : ∀ l : List Sp, (toksOf N l)[l.length]? = some ⟨0, N, 0, []⟩
 | [] => rfl
 | y :: l => by rw [toksOf, List.length_cons, zqb, toksOf_end N l]
/-! which tokens are told -/
theorem wordFrom_app {r : List UInt8} (hr : wordFrom false r = 0) : ∀ (s : List UInt8) (b : Bool), s ≠ [] → wordFrom b s = s.length → wordFrom b (s ++ r) = s.length
 | [], b, h, _ => absurd rfl h
 | c :: s, b, _, h => by
  unfold wordFrom at h
  rw [List.cons_append]
  unfold wordFrom
  split at h
  ·rename_i hc
   rw [if_pos hc]
   rw [List.length_cons] at h ⊢
   by_cases hs : s = []
   ·subst hs
    rw [List.nil_append, hr]; rfl
   ·rw [wordFrom_app hr s false hs (by omega)]; omega
  ·rw [List.length_cons] at h; omega
structure WordS (s : List UInt8) : Prop where
 word : wordFrom true s = s.length
 ne : s ≠ []
 few : s.length ≤ 100
theorem word_head {s : List UInt8} (h : WordS s) : ∃ c t, s = c :: t ∧ goesB c.toNat true = true := by
 cases s with
 | nil => exact absurd rfl h.ne
 | cons c t =>
  refine ⟨c, t, rfl, ?_⟩
  have := h.word
  unfold wordFrom at this
  split at this
  ·assumption
  ·rw [List.length_cons] at this; omega
theorem goes_not (c : UInt8) (h : goesB c.toNat true = true) : blank c = false ∧ c ≠ 40 ∧ c ≠ 42 ∧ c ≠ 39 := by
 have h1 : 95 ≤ c.toNat := by
  unfold goesB at h
  split at h
  ·cases h
  ·simp only [decide_eq_true_eq] at h
   omega
 have ne : ∀ d : UInt8, d.toNat < 95 → c ≠ d := fun d hd e => by subst e; omega
 refine ⟨?_, ne _ (by decide), ne _ (by decide), ne _ (by decide)⟩
 unfold blank
 simp [ne 9 (by decide), ne 10 (by decide), ne 13 (by decide), ne 32 (by decide)]
theorem good_word {g : Bool} {k : Nat} {s r : List UInt8} (h : WordS s) (hk : k = if keyWords.contains s then 2 else 1) (hr : wordFrom false r = 0) : Good ⟨g, k, s⟩ r := by
 have hb : (⟨g, k, s⟩ : Sp).body = s := by
  unfold Sp.body
  rw [if_neg]
  subst hk
  show ¬ (if keyWords.contains s = true then 2 else 1) = 5
  split <;> decide
 have hw := wordFrom_app hr s true h.ne h.word
 obtain ⟨c, t, rfl, hc⟩ := word_head h
 obtain ⟨n1, n2, _, _⟩ := goes_not c hc
 refine ⟨?_, c, t ++ r, by rw [hb]; rfl, n1, fun e => absurd e n2⟩
 rw [hb]
 unfold nextS
 rw [hw, if_pos (by simp), if_neg (by have := h.few; omega), List.take_left' rfl, hk]
theorem good_tick {g : Bool} {s r : List UInt8} (h : WordS s) (hr : wordFrom false r = 0) : Good ⟨g, 5, s⟩ r := by
 have hb : (⟨g, 5, s⟩ : Sp).body = 39 :: s := rfl
 have hw := wordFrom_app hr s true h.ne h.word
 have hpos : 0 < s.length := List.length_pos_iff.2 h.ne
 refine ⟨?_, 39, s ++ r, by rw [hb]; rfl, by decide, fun e => absurd e (by decide)⟩
 rw [hb, List.cons_append]
 unfold nextS
 have h0 : wordFrom true (39 :: (s ++ r)) = 0 := by unfold wordFrom; rw [if_neg (by decide)]
 rw [h0, if_neg (by decide)]
 simp only [reduceIte]
 rw [hw, if_neg (by have := h.few; omega), List.take_left' rfl]
 rfl
theorem good_sym {g : Bool} {c : UInt8} {t r : List UInt8} (hc : wordFrom true (c :: (t ++ r)) = 0) (h1 : blank c = false) (h2 : c ≠ 39) (h3 : isDig c = false) (h4 : c ≠ 34) (h5 : c = 40 → (t ++ r).head? ≠ some 42)
  (hf : symbolsS.find? (fun x => x.isPrefixOf (c :: (t ++ r))) = some (c :: t)) : Good ⟨g, 6, c :: t⟩ r := by
 refine ⟨?_, c, t ++ r, rfl, h1, h5⟩
 show nextS (c :: (t ++ r)) = _
 unfold nextS
 rw [hc, if_neg (by decide)]
 simp only
 rw [if_neg h2, if_neg (by rw [h3]; decide), if_neg h4, hf]
 rfl
theorem word0 {c : UInt8} (h : goesB c.toNat true = false) (r : List UInt8) : wordFrom true (c :: r) = 0 := by unfold wordFrom; rw [if_neg (by rw [h]; decide)]
theorem good_open {g : Bool} {r : List UInt8} (h : r.head? ≠ some 42) : Good ⟨g, 6, [40]⟩ r :=
 good_sym (word0 (by decide) _) (by decide) (by decide) (by decide) (by decide) (fun _ => h) (by simp [symbolsS, List.find?, List.isPrefixOf])
theorem good_close {g : Bool} {r : List UInt8} : Good ⟨g, 6, [41]⟩ r :=
 good_sym (word0 (by decide) _) (by decide) (by decide) (by decide) (by decide) (fun h => absurd h (by decide)) (by simp [symbolsS, List.find?, List.isPrefixOf])
theorem good_arrow {g : Bool} {r : List UInt8} : Good ⟨g, 6, [45, 62]⟩ r :=
 good_sym (word0 (by decide) _) (by decide) (by decide) (by decide) (by decide) (fun h => absurd h (by decide)) (by simp [symbolsS, List.isPrefixOf])
theorem good_star {g : Bool} {r : List UInt8} : Good ⟨g, 6, [42]⟩ r :=
 good_sym (word0 (by decide) _) (by decide) (by decide) (by decide) (by decide) (fun h => absurd h (by decide)) (by simp [symbolsS, List.find?, List.isPrefixOf])
theorem good_semi {g : Bool} {r : List UInt8} : Good ⟨g, 6, [59]⟩ r :=
 good_sym (word0 (by decide) _) (by decide) (by decide) (by decide) (by decide) (fun h => absurd h (by decide)) (by simp [symbolsS, List.find?, List.isPrefixOf])
theorem good_dots {g : Bool} {r : List UInt8} : Good ⟨g, 6, [46, 46]⟩ r :=
 good_sym (word0 (by decide) _) (by decide) (by decide) (by decide) (by decide) (fun h => absurd h (by decide)) (by simp [symbolsS, List.find?, List.isPrefixOf])
theorem good_less {g : Bool} {r : List UInt8} : Good ⟨g, 6, [60]⟩ (32 :: r) :=
 good_sym (word0 (by decide) _) (by decide) (by decide) (by decide) (by decide) (fun h => absurd h (by decide)) (by simp [symbolsS, List.find?, List.isPrefixOf])
theorem good_colon {g : Bool} {r : List UInt8} : Good ⟨g, 6, [58]⟩ (32 :: r) :=
 good_sym (word0 (by decide) _) (by decide) (by decide) (by decide) (by decide) (fun h => absurd h (by decide)) (by simp [symbolsS, List.find?, List.isPrefixOf])
def Sep (r : List UInt8) : Prop := r = [] ∨ ∃ c t, r = c :: t ∧ (c = 32 ∨ c = 41)
theorem Sep.word {r : List UInt8} (h : Sep r) : wordFrom false r = 0 := by
 rcases h with rfl | ⟨c, t, rfl, rfl | rfl⟩
 ·rfl
 ·unfold wordFrom; rw [if_neg (by decide)]
 ·unfold wordFrom; rw [if_neg (by decide)]
theorem good_more {g : Bool} {r : List UInt8} (h : Sep r) : Good ⟨g, 6, [62]⟩ r :=
 good_sym (word0 (by decide) _) (by decide) (by decide) (by decide) (by decide) (fun h => absurd h (by decide)) (by
  rcases h with rfl | ⟨c, t, rfl, rfl | rfl⟩ <;> simp [symbolsS, List.find?, List.isPrefixOf])
theorem sep_gap (k : Nat) (s : List UInt8) (l : List Sp) : Sep (spell (⟨true, k, s⟩ :: l)) := .inr ⟨32, _, rfl, .inl rfl⟩
theorem sep_close (l : List Sp) : Sep (spell (⟨false, 6, [41]⟩ :: l)) := .inr ⟨41, _, rfl, .inr rfl⟩
end Go.Tre
namespace Go.Tre
def ownLev (k : Nat) (s : List UInt8) : Nat := if k = 4 then 0 else if k = 2 then (if s = [45, 62] then 1 else if s = [42] then 2 else 3) else 3
def spFields : List (List UInt8) → List (Nat → Bool → List Sp) → Bool → List Sp
 | l :: ls, f :: fs, first => (if first then [] else [⟨true, 6, [59]⟩]) ++ (⟨true, 1, l⟩ :: ⟨true, 6, [58]⟩ :: (f 1 true ++ spFields ls fs false))
 | _, _, _ => []
def spDots (labels : List (List UInt8)) (o : Bool) : List Sp := if o then (if labels = [] then [⟨true, 6, [46, 46]⟩] else [⟨true, 6, [59]⟩, ⟨true, 6, [46, 46]⟩]) else []
def spOwn (k : Nat) (s : List UInt8) (fs : List (Nat → Bool → List Sp)) (labels : List (List UInt8)) (o : Bool) (g : Bool) : List Sp :=
 if k = 4 then (match fs with
  | a :: _ => a 0 g ++ [⟨true, 2, [97, 115]⟩, ⟨true, 5, s⟩]
  | [] => [])
 else if k = 1 then [⟨g, 5, s⟩]
 else if k = 2 then (match fs with
  | a :: b :: _ => a (ownLev k s + 1) g ++ ⟨true, 6, s⟩ :: b (ownLev k s) true
  | _ => [⟨g, 1, s⟩])
 else ⟨g, 6, [60]⟩ :: (spFields labels fs true ++ (spDots labels o ++ [⟨true, 6, [62]⟩]))
def spWrap (own : Nat) (f : Bool → List Sp) (lev : Nat) (g : Bool) : List Sp := if own < lev then ⟨g, 6, [40]⟩ :: (f false ++ [⟨false, 6, [41]⟩]) else f g
mutual
def spT : Ty → Nat → Bool → List Sp
 | .mk k s args labels o => spWrap (ownLev k s) (spOwn k s (spTs args) labels o)
def spTs : List Ty → List (Nat → Bool → List Sp)
 | [] => []
 | t :: r => spT t :: spTs r
end
def putS (t : Ty) : List UInt8 := spell (spT t 0 false)
theorem spTs_map : ∀ l : List Ty, spTs l = l.map spT
 | [] => by rw [spTs]; rfl
 | t :: r => by rw [spTs, spTs_map r]; rfl
/-! types that may be -/
inductive Fine : Ty → Prop
 | var (s : List UInt8) : WordS s → Fine (.mk 1 s [] [] false)
 | bind (s : List UInt8) (a : Ty) : WordS s → Fine a → Fine (.mk 4 s [a] [] false)
 | base (s : List UInt8) : s ∈ basics → Fine (.mk 2 s [] [] false)
 | op (n : Nat) (a b : Ty) : n = 1 ∨ n = 2 → Fine a → Fine b → Fine (.mk 2 (opS n) [a, b] [] false)
 | obj (args : List Ty) (labels : List (List UInt8)) (o : Bool) : labels.length = args.length → (∀ l ∈ labels, WordS l ∧ keyWords.contains l = false) → rising (byteStrs labels) = true → (∀ t ∈ args, Fine t) → Fine (.mk 3 [] args labels o)
theorem keys_words : ∀ x ∈ keyWords, wordFrom true x = x.length ∧ x ≠ [] ∧ x.length ≤ 100 := by decide
theorem basics_words : ∀ x ∈ basics, (wordFrom true x = x.length ∧ x ≠ [] ∧ x.length ≤ 100) ∧ keyWords.contains x = false := by decide
theorem name_word {s : List UInt8} (h : isName ⟨s.toArray⟩ = true) : WordS s ∧ keyWords.contains s = false := by
 unfold isName at h
 simp only [Bool.and_eq_true, decide_eq_true_eq, Bool.not_eq_true'] at h
 obtain ⟨⟨⟨h1, h2⟩, h3⟩, h4⟩ := h
 have e : (⟨s.toArray⟩ : ByteArray).size = s.length := rfl
 rw [e] at h1 h2 h3
 exact ⟨⟨h3, fun e => h1 (by rw [e]; rfl), h2⟩, h4⟩
theorem wordB_word {s : List UInt8} (h : wordB s = true) : WordS s := by
 unfold wordB at h
 rw [Bool.or_eq_true] at h
 rcases h with h | h
 ·exact (name_word h).1
 ·have hm : s ∈ keyWords := by
   unfold isKey at h
   exact List.contains_iff_mem.1 h
  obtain ⟨a, b, c⟩ := keys_words s hm
  exact ⟨a, b, c⟩
theorem risingT_names : ∀ {l : List (List UInt8)}, rising (byteStrs l) = true → ∀ x ∈ l, isName ⟨x.toArray⟩ = true := by
 intro l h x hx
 have hm : (⟨x.toArray⟩ : ByteArray) ∈ byteStrs l := List.mem_map.2 ⟨x, hx, rfl⟩
 obtain ⟨i, hi, e⟩ := List.getElem_of_mem hm
 unfold rising at h
 have := (List.all_eq_true.1 h) i (List.mem_range.2 hi)
 unfold labelOk at this
 rw [Bool.and_eq_true] at this
 have h1 := this.1
 rwa [List.getD_eq_getElem?_getD, List.getElem?_eq_getElem hi, e] at h1
theorem walkTs_all : ∀ (l : List Ty) (d : Int), 0 ≤ walkTs l d → ∀ t ∈ l, 0 ≤ walkT t
 | [], _, _, t, ht => by simp at ht
 | x :: r, d, h, t, ht => by
  unfold walkTs at h
  split at h
  ·omega
  ·rename_i hx
   rcases List.mem_cons.1 ht with rfl | ht
   ·omega
   ·exact walkTs_all r _ h t ht
theorem fine_of : ∀ (N : Nat) (t : Ty), t.weight ≤ N → 0 ≤ walkT t → Fine t
 | 0, t, hN, _ => by have := weight_pos t; omega
 | N + 1, .mk k s args labels o, hN, h => by
  unfold walkT at h
  split at h
  rotate_left
  ·omega
  rename_i ho
  have hts : 0 ≤ walkTs args 0 := by
   split at h
   ·omega
   ·omega
  have hall := walkTs_all args 0 hts
  have hw : ∀ t ∈ args, t.weight ≤ N := fun t ht => by
   obtain ⟨i, hi⟩ := List.getElem?_of_mem ht
   have := weights_at hi
   unfold Ty.weight at hN; omega
  have ih : ∀ t ∈ args, Fine t := fun t ht => fine_of N t (hw t ht) (hall t ht)
  unfold ownT at ho
  split at ho
  ·rename_i hk
   subst hk
   simp only [Bool.and_eq_true, decide_eq_true_eq] at ho
   obtain ⟨rfl, h2, h3⟩ := ho
   exact .obj args labels o h2 (fun l hl => name_word (risingT_names h3 l hl)) h3 ih
  ·split at ho
   ·cases ho
   rename_i hlo
   have hl : labels = [] := List.eq_nil_of_length_eq_zero (by omega)
   have hoo : o = false := by cases o; rfl; exact absurd (.inr rfl) hlo
   subst hl hoo
   split at ho
   ·rename_i hk
    subst hk
    simp only [Bool.and_eq_true, decide_eq_true_eq] at ho
    have : args = [] := List.eq_nil_of_length_eq_zero ho.2
    subst this
    exact .var s (wordB_word ho.1)
   ·split at ho
    ·rename_i hk
     subst hk
     simp only [Bool.and_eq_true, decide_eq_true_eq] at ho
     match args, ho.2, ih with
     | [a], _, ih => exact .bind s a (wordB_word ho.1) (ih a (List.mem_cons_self ..))
    ·split at ho
     ·rename_i hk
      subst hk
      split at ho
      ·rename_i hs
       simp only [decide_eq_true_eq] at ho
       match args, ho, ih with
       | [a, b], _, ih =>
        rcases hs with rfl | rfl
        ·exact .op 1 a b (.inl rfl) (ih a (by simp)) (ih b (by simp))
        ·exact .op 2 a b (.inr rfl) (ih a (by simp)) (ih b (by simp))
      ·simp only [Bool.and_eq_true, decide_eq_true_eq] at ho
       have : args = [] := List.eq_nil_of_length_eq_zero ho.1
       subst this
       exact .base s (List.contains_iff_mem.1 ho.2)
     ·cases ho
/-! its tokens are told -/
structure Piece (f : Bool → List Sp) : Prop where
 goods : ∀ g R, Goods R → Sep (spell R) → Goods (f g ++ R)
 head : ∀ R, (spell (f false ++ R)).head? ≠ some 42
 gap : ∀ R, spell (f true ++ R) = 32 :: spell (f false ++ R)
theorem wrap_piece {f : Bool → List Sp} (h : Piece f) (own lev : Nat) : Piece (spWrap own f lev) := by
 by_cases hl : own < lev
 ·refine ⟨fun g R hR hS => ?_, fun R => ?_, fun R => ?_⟩
  ·unfold spWrap
   rw [if_pos hl, List.cons_append, List.append_assoc]
   refine ⟨good_open (h.head _), h.goods _ _ ⟨good_close, hR⟩ (sep_close _)⟩
  ·unfold spWrap
   rw [if_pos hl, List.cons_append]
   show some _ ≠ _
   decide
  ·unfold spWrap
   rw [if_pos hl, if_pos hl, List.cons_append, List.cons_append]
   rfl
 ·refine ⟨fun g R hR hS => ?_, fun R => ?_, fun R => ?_⟩
  ·unfold spWrap
   rw [if_neg hl]
   exact h.goods g R hR hS
  ·unfold spWrap
   rw [if_neg hl]
   exact h.head R
  ·unfold spWrap
   rw [if_neg hl, if_neg hl]
   exact h.gap R
theorem fields_goods : ∀ (labels : List (List UInt8)) (fs : List (Nat → Bool → List Sp)) (first : Bool), (∀ l ∈ labels, WordS l ∧ keyWords.contains l = false) → (∀ f ∈ fs, ∀ lev, Piece (f lev)) →
  ∀ R, Goods R → Sep (spell R) → Goods (spFields labels fs first ++ R) ∧ Sep (spell (spFields labels fs first ++ R))
 | [], _, _, _, _, R, hR, hS => by unfold spFields; exact ⟨hR, hS⟩
 | _ :: _, [], _, _, _, R, hR, hS => by unfold spFields; exact ⟨hR, hS⟩
 | l :: ls, f :: fs, first, hl, hf, R, hR, hS => by
  obtain ⟨i1, i2⟩ := fields_goods ls fs false (fun x hx => hl x (List.mem_cons_of_mem _ hx)) (fun x hx => hf x (List.mem_cons_of_mem _ hx)) R hR hS
  obtain ⟨w, k⟩ := hl l (List.mem_cons_self ..)
  have P := hf f (List.mem_cons_self ..) 1
  have g1 := P.goods true _ i1 i2
  have key : Goods (⟨true, 1, l⟩ :: ⟨true, 6, [58]⟩ :: (f 1 true ++ (spFields ls fs false ++ R))) := ⟨good_word w (by rw [k]; rfl) (sep_gap _ _ _).word, by rw [P.gap]; exact good_colon, g1⟩
  unfold spFields
  cases first with
  | true =>
   simp only [if_true, List.nil_append, List.cons_append, List.append_assoc]
   exact ⟨key, sep_gap _ _ _⟩
  | false =>
   simp only [Bool.false_eq_true, if_false, List.cons_append, List.append_assoc, List.nil_append]
   exact ⟨⟨good_semi, key⟩, sep_gap _ _ _⟩
theorem fields_gap (labels : List (List UInt8)) (fs : List (Nat → Bool → List Sp)) (first : Bool) (k : Nat) (s : List UInt8) (R : List Sp) : ∃ r, spell (spFields labels fs first ++ (⟨true, k, s⟩ :: R)) = 32 :: r := by
 unfold spFields
 split
 ·cases first
  ·exact ⟨_, rfl⟩
  ·exact ⟨_, rfl⟩
 ·exact ⟨_, rfl⟩
theorem piece_of {t : Ty} (h : Fine t) : ∀ lev, Piece (spT t lev) := by
 induction h with
 | var s hw =>
  intro lev
  rw [spT]
  refine wrap_piece ?_ _ _
  refine ⟨fun g R hR hS => ⟨good_tick hw hS.word, hR⟩, fun R => ?_, fun R => rfl⟩
  show some (39 : UInt8) ≠ _
  decide
 | base s hs =>
  intro lev
  obtain ⟨⟨w1, w2, w3⟩, k⟩ := basics_words s hs
  rw [spT]
  refine wrap_piece ?_ _ _
  refine ⟨fun g R hR hS => ⟨good_word ⟨w1, w2, w3⟩ (by rw [k]; rfl) hS.word, hR⟩, fun R => ?_, fun R => rfl⟩
  obtain ⟨c, t, rfl, hc⟩ := word_head (s := s) ⟨w1, w2, w3⟩
  show some c ≠ some 42
  intro e
  cases e
  exact absurd hc (by decide)
 | bind s a hw _ ih =>
  intro lev
  have P := ih 0
  rw [spT]
  have e : ∀ g R, spOwn 4 s (spTs [a]) [] false g ++ R = spT a 0 g ++ (⟨true, 2, [97, 115]⟩ :: ⟨true, 5, s⟩ :: R) := fun g R => by
   rw [spTs, spTs]
   show (spT a 0 g ++ [⟨true, 2, [97, 115]⟩, ⟨true, 5, s⟩]) ++ R = _
   rw [List.append_assoc]; rfl
  refine wrap_piece ?_ _ _
  refine ⟨fun g R hR hS => ?_, fun R => ?_, fun R => ?_⟩
  ·rw [e]
   refine P.goods g _ ⟨good_word ⟨by decide, by decide, by decide⟩ (by decide) (sep_gap _ _ _).word, good_tick hw hS.word, hR⟩ (sep_gap _ _ _)
  ·rw [e]; exact P.head _
  ·rw [e, e]; exact P.gap _
 | op n a b hn _ _ iha ihb =>
  intro lev
  rw [spT]
  have ho : ownLev 2 (opS n) = n := by rcases hn with rfl | rfl <;> rfl
  have e : ∀ g R, spOwn 2 (opS n) (spTs [a, b]) [] false g ++ R = spT a (n + 1) g ++ (⟨true, 6, opS n⟩ :: (spT b n true ++ R)) := fun g R => by
   rw [spTs, spTs, spTs]
   show (spT a (ownLev 2 (opS n) + 1) g ++ ⟨true, 6, opS n⟩ :: spT b (ownLev 2 (opS n)) true) ++ R = _
   rw [ho, List.append_assoc]; rfl
  refine wrap_piece ?_ _ _
  refine ⟨fun g R hR hS => ?_, fun R => ?_, fun R => ?_⟩
  ·rw [e]
   refine (iha (n + 1)).goods g _ ⟨?_, (ihb n).goods true R hR hS⟩ (sep_gap _ _ _)
   rcases hn with rfl | rfl
   ·exact good_arrow
   ·exact good_star
  ·rw [e]; exact (iha (n + 1)).head _
  ·rw [e, e]; exact (iha (n + 1)).gap _
 | obj args labels o hlen hl _ _ ih =>
  intro lev
  rw [spT]
  have e : ∀ g R, spOwn 3 [] (spTs args) labels o g ++ R = ⟨g, 6, [60]⟩ :: (spFields labels (spTs args) true ++ (spDots labels o ++ (⟨true, 6, [62]⟩ :: R))) := fun g R => by
   show (⟨g, 6, [60]⟩ :: (spFields labels (spTs args) true ++ (spDots labels o ++ [⟨true, 6, [62]⟩]))) ++ R = _
   simp only [List.cons_append, List.append_assoc, List.nil_append]
  have hf : ∀ f ∈ spTs args, ∀ lev, Piece (f lev) := fun f hf lev => by
   rw [spTs_map] at hf
   obtain ⟨t, ht, rfl⟩ := List.mem_map.1 hf
   exact ih t ht lev
  refine wrap_piece ?_ _ _
  refine ⟨fun g R hR hS => ?_, fun R => ?_, fun R => ?_⟩
  ·rw [e]
   have hd : Goods (spDots labels o ++ (⟨true, 6, [62]⟩ :: R)) ∧ ∃ k s L, spDots labels o ++ (⟨true, 6, [62]⟩ :: R) = ⟨true, k, s⟩ :: L := by
    unfold spDots
    cases o with
    | false => exact ⟨⟨good_more hS, hR⟩, _, _, _, rfl⟩
    | true =>
     simp only [if_true]
     split
     ·exact ⟨⟨good_dots, good_more hS, hR⟩, _, _, _, rfl⟩
     ·exact ⟨⟨good_semi, good_dots, good_more hS, hR⟩, _, _, _, rfl⟩
   obtain ⟨hg, k, s, L, hk⟩ := hd
   rw [hk] at hg ⊢
   obtain ⟨r, hr⟩ := fields_gap labels (spTs args) true k s L
   refine ⟨by rw [hr]; exact good_less, (fields_goods labels (spTs args) true hl hf _ hg (sep_gap _ _ _)).1⟩
  ·rw [e]
   show some (60 : UInt8) ≠ _
   decide
  ·rw [e, e]; rfl
theorem weight_mk (k : Nat) (s : List UInt8) (args : List Ty) (labels : List (List UInt8)) (o : Bool) : (Ty.mk k s args labels o).weight = 1 + s.length + (labels.map fun x => x.length + 1).sum + weights args := by rw [Ty.weight]
theorem weights_nil : weights [] = 0 := by rw [weights]
theorem weights_cons (t : Ty) (r : List Ty) : weights (t :: r) = t.weight + weights r := by rw [weights]
end Go.Tre
namespace Go.Proofs.YtbafalfmgibnfaaGreatDoor.gr
open Go.RowKit Go.Maps Go.Tre
set_option maxHeartbeats 1000000 in
set_option maxRecDepth 100000 in
theorem writeByteD (w0 : World) (rs : List Res) (b : Nat) (p v : Value) (l : List UInt8) (c : UInt8) (fm : FrameMode) (w : World) (h : Mem w0 w (cellsR b 55 #[p, v] :: rowR 5 1 v l.length (Lib.byteCells l) :: rs)) (hp : p = .pointer none ∨ p = .pointer (some ⟨b, 0, none⟩)) (hlen : l.length + 1 ≤ 140737488355328) :
  CallsD Tryz.prog 28 #[.pointer (some ⟨b, 0, none⟩), .int .u8 c.toNat] fm w fun e u' w' => u' = fm ∧ (e = .returned .nilIface ∧ ∃ v', Mem w0 w' (cellsR b 55 #[.pointer (some ⟨b, 0, none⟩), v'] :: rowR 5 1 v' (l.length + 1) (Lib.byteCells (l ++ [c])) :: rs)) := by
 obtain ⟨i0, hi, hz0, hz1, hz2⟩ := info_parts infoU8
 have CC : Calls Tryz.prog 46 #[.pointer (some ⟨b, 0, none⟩)] w fun e w' => e = .returned (.tuple #[]) ∧ Mem w0 w' (cellsR b 55 #[.pointer (some ⟨b, 0, none⟩), v] :: rowR 5 1 v l.length (Lib.byteCells l) :: rs) := by
  rcases hp with rfl | rfl
  ·refine (copyCheck_fresh b w (h.cell 0 rfl 0 rfl) (by simp [World.shape?, h.heap 0 rfl]) (h.free 0 rfl 0)).mono ?_
   rintro e w' ⟨rfl, rfl⟩
   exact ⟨rfl, h.setCell 0 rfl 0 _⟩
  ·refine (copyCheck_used b w (h.cell 0 rfl 0 rfl)).mono ?_
   rintro e w' ⟨rfl, rfl⟩
   exact ⟨rfl, h⟩
 have HCC := Tre.hid CC
 have Z1 := Tre.hid hz0
 have Z2 := Tre.hid hz1
 have Z3 := Tre.hid hz2
 clear h hp CC hz0 hz1 hz2
 go_enter_d Tryz.func28, Tryz.ntmps28
 go_wp2_with fail
 refine HCC.out.mono ?_
 rintro e w1 ⟨rfl, M1⟩
 have q1 := M1.cell 0 rfl 1 rfl
 have HA := Tre.hid (M1.allocR #[.int .u8 c.toNat] 5)
 have HR := Tre.hid (row_one w1 (.int .u8 c.toNat) 5)
 clear M1 HCC
 obtain ⟨a0, c0, rfl, _⟩ := HA.out.val 2 rfl
 go_wp2_with (at_builtin; refine wpList_append_row _ rfl _ _ 53 rfl 5 i0 _ 1 1 Tryz.underlying53 hi Z1.out Z2.out Z3.out rfl (by omega) (.slice a0 l.length c0) l.length (Lib.byteCells l) rfl (HA.out.row 2 rfl) (some ⟨w1.heap.size, 0, none⟩) 1 1 [.int .u8 c.toNat] rfl HR.out (by simp [Value.oneCell']) (by unfold maxLen; omega) (by omega) ?_; intro v3 w3 hown3 hgrow3 hat3; have M3 := HA.out.grow 2 rfl hgrow3 hown3 hat3; obtain ⟨a3, c3, rfl, _⟩ := M3.val 2 rfl; have q3 := M3.cell 1 rfl 1 rfl; have f3 := M3.free 1 rfl 1; have HM3 := Tre.hid M3; clear M3 hown3 hgrow3 hat3)
 have HM4 := Tre.hid ((HM3.out.setCell 1 rfl 1 (.slice a3 (l.length + 1) c3)).del 0)
 generalize w3.setCell ⟨b, 1, none⟩ (.slice a3 (l.length + 1) c3) = w4 at HM4 ⊢
 clear q3 f3
 go_wp2_with fail
 go_ret
 refine ⟨rfl, .slice a3 (l.length + 1) c3, ?_⟩
 rw [Lib.byteCells_append]
 exact HM4.out
theorem wByteD {w0 w : World} {b : Nat} {l : List UInt8} {rs : List Res} (c : UInt8) (fm : FrameMode) (h : BldM w0 w b l rs) (hlen : l.length + 1 ≤ 140737488355328) : CallsD Tryz.prog 28 #[.pointer (some ⟨b, 0, none⟩), .int .u8 c.toNat] fm w fun e u' w' => u' = fm ∧ e = .returned .nilIface ∧ BldM w0 w' b (l ++ [c]) rs := by
 obtain ⟨p, v, hp, m⟩ := h
 refine (writeByteD w0 rs b p v l c fm w m hp hlen).mono ?_
 rintro e u' w' ⟨rfl, rfl, v', m'⟩
 have e : (l ++ [c]).length = l.length + 1 := by simp
 exact ⟨rfl, rfl, _, v', .inr rfl, by rw [e]; exact m'⟩
end Go.Proofs.YtbafalfmgibnfaaGreatDoor.gr
