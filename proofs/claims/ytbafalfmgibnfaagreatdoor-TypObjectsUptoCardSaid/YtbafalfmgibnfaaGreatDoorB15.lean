/- Layer 2, plain: which types may be, and how deep they are. Layer 3, plain: a type's text, as tokens; it is told as these. A search among labels that rise. Layer 3, plain: a type's tokens are parsed as it. Types in the memory: parts on their way, apart from each other. -/
import Derived.Test.YtbafalfmgibnfaaGreatDoorB00
import Derived.Test.YtbafalfmgibnfaaGreatDoorB13
import Derived.Test.YtbafalfmgibnfaaGreatDoorB14
import Derived.Test.YtbafalfmgibnfaaGreatDoorShelf
import Derived.Sort.Walk0
import Derived.Test.YtbafalfmgibnfaaGreatDoorB01
set_option linter.unusedVariables false
namespace Go.Tre
def wordB (s : List UInt8) : Bool := isName ⟨s.toArray⟩ || isKey ⟨s.toArray⟩
def byteStrs (l : List (List UInt8)) : List ByteArray := l.map fun x => ⟨x.toArray⟩
def ownT (k : Nat) (s : List UInt8) (n : Nat) (labels : List (List UInt8)) (o : Bool) : Bool :=
 if k = 3 then decide (s = []) && (decide (labels.length = n) && rising (byteStrs labels))
 else if 0 < labels.length ∨ o = true then false
 else if k = 1 then wordB s && decide (n = 0)
 else if k = 4 then wordB s && decide (n = 1)
 else if k = 2 then (if s = [45, 62] ∨ s = [42] then decide (n = 2) else decide (n = 0) && basics.contains s)
 else false
mutual
def walkT : Ty → Int
 | .mk k s args labels o => if ownT k s args.length labels o = true then (if walkTs args 0 < 0 then -1 else walkTs args 0 + 1) else -1
def walkTs : List Ty → Int → Int
 | [], d => d
 | t :: r, d => if walkT t < 0 then -1 else walkTs r (max d (walkT t))
end
def verdictI (d : Int) : Int := if d < 0 then 2 else if 200 < d then 4 else 0
mutual
def Ty.weight : Ty → Nat
 | .mk _ s args labels _ => 1 + s.length + (labels.map fun x => x.length + 1).sum + weights args
def weights : List Ty → Nat
 | [] => 0
 | t :: r => t.weight + weights r
end
theorem weight_pos (t : Ty) : 1 ≤ t.weight := by cases t; unfold Ty.weight; omega
theorem weights_at : ∀ {l : List Ty} {i : Nat} {t : Ty}, l[i]? = some t → t.weight ≤ weights l
 | [], i, t, h => by simp at h
 | x :: r, 0, t, h => by simp at h; subst h; unfold weights; omega
 | x :: r, i + 1, t, h => by
  simp at h
  have := weights_at h
  unfold weights; omega
theorem weights_len : ∀ l : List Ty, l.length ≤ weights l
 | [] => by simp [weights]
 | x :: r => by have := weights_len r; have := weight_pos x; unfold weights; simp; omega
theorem walkT_low (t : Ty) : -1 ≤ walkT t := by
 cases t with
 | mk k s args labels o => unfold walkT; split <;> (try split) <;> omega
mutual
theorem walkT_weight : ∀ t : Ty, walkT t ≤ t.weight
 | .mk k s args labels o => by
  have := walkTs_weight args 0
  unfold walkT Ty.weight
  split
  ·split <;> omega
  ·omega
theorem walkTs_weight : ∀ (l : List Ty) (d : Int), walkTs l d ≤ max d (weights l)
 | [], d => by unfold walkTs; omega
 | t :: r, d => by
  have h1 := walkT_weight t
  have h2 := walkTs_weight r (max d (walkT t))
  unfold walkTs weights
  split <;> omega
end
end Go.Tre
namespace Go.Tre
def ownLev (k : Nat) (s : List UInt8) : Nat := if k = 4 then 0 else if k = 2 then (if s = [45, 62] then 1 else if s = [42] then 2 else 3) else 3
def spFields : List (List UInt8) → List (Nat → Bool → List Sp) → Bool → List Sp
 | l :: ls, f :: fs, first => (if first then [] else [⟨true, 6, [59]⟩]) ++ (⟨true, 1, l⟩ :: ⟨true, 6, [58]⟩ :: (f 1 true ++ spFields ls fs false))
 | _, _, _ => []
def spDots (labels : List (List UInt8)) (o : Bool) : List Sp := if o then (if labels = [] then [⟨true, 6, [46, 46]⟩] else [⟨true, 6, [59]⟩, ⟨true, 6, [46, 46]⟩]) else []
def spOwn (k : Nat) (s : List UInt8) (fs : List (Nat → Bool → List Sp)) (labels : List (List UInt8)) (o : Bool) (g : Bool) : List Sp :=
 if k = 4 then (match fs with
  | a :: _ => a 0 g ++ [⟨true, 2, [97, 115]⟩, ⟨true, 5, s⟩]
  | [] => [])
 else if k = 1 then [⟨g, 5, s⟩]
 else if k = 2 then (match fs with
  | a :: b :: _ => a (ownLev k s + 1) g ++ ⟨true, 6, s⟩ :: b (ownLev k s) true
  | _ => [⟨g, 1, s⟩])
 else ⟨g, 6, [60]⟩ :: (spFields labels fs true ++ (spDots labels o ++ [⟨true, 6, [62]⟩]))
def spWrap (own : Nat) (f : Bool → List Sp) (lev : Nat) (g : Bool) : List Sp := if own < lev then ⟨g, 6, [40]⟩ :: (f false ++ [⟨false, 6, [41]⟩]) else f g
mutual
def spT : Ty → Nat → Bool → List Sp
 | .mk k s args labels o => spWrap (ownLev k s) (spOwn k s (spTs args) labels o)
def spTs : List Ty → List (Nat → Bool → List Sp)
 | [] => []
 | t :: r => spT t :: spTs r
end
def putS (t : Ty) : List UInt8 := spell (spT t 0 false)
theorem spTs_map : ∀ l : List Ty, spTs l = l.map spT
 | [] => by rw [spTs]; rfl
 | t :: r => by rw [spTs, spTs_map r]; rfl
/-! types that may be -/
inductive Fine : Ty → Prop
 | var (s : List UInt8) : WordS s → Fine (.mk 1 s [] [] false)
 | bind (s : List UInt8) (a : Ty) : WordS s → Fine a → Fine (.mk 4 s [a] [] false)
 | base (s : List UInt8) : s ∈ basics → Fine (.mk 2 s [] [] false)
 | op (n : Nat) (a b : Ty) : n = 1 ∨ n = 2 → Fine a → Fine b → Fine (.mk 2 (opS n) [a, b] [] false)
 | obj (args : List Ty) (labels : List (List UInt8)) (o : Bool) : labels.length = args.length → (∀ l ∈ labels, WordS l ∧ keyWords.contains l = false) → rising (byteStrs labels) = true → (∀ t ∈ args, Fine t) → Fine (.mk 3 [] args labels o)
theorem keys_words : ∀ x ∈ keyWords, wordFrom true x = x.length ∧ x ≠ [] ∧ x.length ≤ 100 := by decide
theorem basics_words : ∀ x ∈ basics, (wordFrom true x = x.length ∧ x ≠ [] ∧ x.length ≤ 100) ∧ keyWords.contains x = false := by decide
theorem name_word {s : List UInt8} (h : isName ⟨s.toArray⟩ = true) : WordS s ∧ keyWords.contains s = false := by
 unfold isName at h
 simp only [Bool.and_eq_true, decide_eq_true_eq, Bool.not_eq_true'] at h
 obtain ⟨⟨⟨h1, h2⟩, h3⟩, h4⟩ := h
 have e : (⟨s.toArray⟩ : ByteArray).size = s.length := rfl
 rw [e] at h1 h2 h3
 exact ⟨⟨h3, fun e => h1 (by rw [e]; rfl), h2⟩, h4⟩
theorem wordB_word {s : List UInt8} (h : wordB s = true) : WordS s := by
 unfold wordB at h
 rw [Bool.or_eq_true] at h
 rcases h with h | h
 ·exact (name_word h).1
 ·have hm : s ∈ keyWords := by
   unfold isKey at h
   exact List.contains_iff_mem.1 h
  obtain ⟨a, b, c⟩ := keys_words s hm
  exact ⟨a, b, c⟩
theorem risingT_names : ∀ {l : List (List UInt8)}, rising (byteStrs l) = true → ∀ x ∈ l, isName ⟨x.toArray⟩ = true := by
 intro l h x hx
 have hm : (⟨x.toArray⟩ : ByteArray) ∈ byteStrs l := List.mem_map.2 ⟨x, hx, rfl⟩
 obtain ⟨i, hi, e⟩ := List.getElem_of_mem hm
 unfold rising at h
 have := (List.all_eq_true.1 h) i (List.mem_range.2 hi)
 unfold labelOk at this
 rw [Bool.and_eq_true] at this
 have h1 := this.1
 rwa [List.getD_eq_getElem?_getD, List.getElem?_eq_getElem hi, e] at h1
theorem walkTs_all : ∀ (l : List Ty) (d : Int), 0 ≤ walkTs l d → ∀ t ∈ l, 0 ≤ walkT t
 | [], _, _, t, ht => by simp at ht
 | x :: r, d, h, t, ht => by
  unfold walkTs at h
  split at h
  ·omega
  ·rename_i hx
   rcases List.mem_cons.1 ht with rfl | ht
   ·omega
   ·exact walkTs_all r _ h t ht
theorem fine_of : ∀ (N : Nat) (t : Ty), t.weight ≤ N → 0 ≤ walkT t → Fine t
 | 0, t, hN, _ => by have := weight_pos t; omega
 | N + 1, .mk k s args labels o, hN, h => by
  unfold walkT at h
  split at h
  rotate_left
  ·omega
  rename_i ho
  have hts : 0 ≤ walkTs args 0 := by
   split at h
   ·omega
   ·omega
  have hall := walkTs_all args 0 hts
  have hw : ∀ t ∈ args, t.weight ≤ N := fun t ht => by
   obtain ⟨i, hi⟩ := List.getElem?_of_mem ht
   have := weights_at hi
   unfold Ty.weight at hN; omega
  have ih : ∀ t ∈ args, Fine t := fun t ht => fine_of N t (hw t ht) (hall t ht)
  unfold ownT at ho
  split at ho
  ·rename_i hk
   subst hk
   simp only [Bool.and_eq_true, decide_eq_true_eq] at ho
   obtain ⟨rfl, h2, h3⟩ := ho
   exact .obj args labels o h2 (fun l hl => name_word (risingT_names h3 l hl)) h3 ih
  ·split at ho
   ·cases ho
   rename_i hlo
   have hl : labels = [] := List.eq_nil_of_length_eq_zero (by omega)
   have hoo : o = false := by cases o; rfl; exact absurd (.inr rfl) hlo
   subst hl hoo
   split at ho
   ·rename_i hk
    subst hk
    simp only [Bool.and_eq_true, decide_eq_true_eq] at ho
    have : args = [] := List.eq_nil_of_length_eq_zero ho.2
    subst this
    exact .var s (wordB_word ho.1)
   ·split at ho
    ·rename_i hk
     subst hk
     simp only [Bool.and_eq_true, decide_eq_true_eq] at ho
     match args, ho.2, ih with
     | [a], _, ih => exact .bind s a (wordB_word ho.1) (ih a (List.mem_cons_self ..))
    ·split at ho
     ·rename_i hk
      subst hk
      split at ho
      ·rename_i hs
       simp only [decide_eq_true_eq] at ho
       match args, ho, ih with
       | [a, b], _, ih =>
        rcases hs with rfl | rfl
        ·exact .op 1 a b (.inl rfl) (ih a (by simp)) (ih b (by simp))
        ·exact .op 2 a b (.inr rfl) (ih a (by simp)) (ih b (by simp))
      ·simp only [Bool.and_eq_true, decide_eq_true_eq] at ho
       have : args = [] := List.eq_nil_of_length_eq_zero ho.1
       subst this
       exact .base s (List.contains_iff_mem.1 ho.2)
     ·cases ho
/-! its tokens are told -/
structure Piece (f : Bool → List Sp) : Prop where
 goods : ∀ g R, Goods R → Sep (spell R) → Goods (f g ++ R)
 head : ∀ R, (spell (f false ++ R)).head? ≠ some 42
 gap : ∀ R, spell (f true ++ R) = 32 :: spell (f false ++ R)
theorem wrap_piece {f : Bool → List Sp} (h : Piece f) (own lev : Nat) : Piece (spWrap own f lev) := by
 by_cases hl : own < lev
 ·refine ⟨fun g R hR hS => ?_, fun R => ?_, fun R => ?_⟩
  ·unfold spWrap
   rw [if_pos hl, List.cons_append, List.append_assoc]
   refine ⟨good_open (h.head _), h.goods _ _ ⟨good_close, hR⟩ (sep_close _)⟩
  ·unfold spWrap
   rw [if_pos hl, List.cons_append]
   show some _ ≠ _
   decide
  ·unfold spWrap
   rw [if_pos hl, if_pos hl, List.cons_append, List.cons_append]
   rfl
 ·refine ⟨fun g R hR hS => ?_, fun R => ?_, fun R => ?_⟩
  ·unfold spWrap
   rw [if_neg hl]
   exact h.goods g R hR hS
  ·unfold spWrap
   rw [if_neg hl]
   exact h.head R
  ·unfold spWrap
   rw [if_neg hl, if_neg hl]
   exact h.gap R
theorem fields_goods : ∀ (labels : List (List UInt8)) (fs : List (Nat → Bool → List Sp)) (first : Bool), (∀ l ∈ labels, WordS l ∧ keyWords.contains l = false) → (∀ f ∈ fs, ∀ lev, Piece (f lev)) →
  ∀ R, Goods R → Sep (spell R) → Goods (spFields labels fs first ++ R) ∧ Sep (spell (spFields labels fs first ++ R))
 | [], _, _, _, _, R, hR, hS => by unfold spFields; exact ⟨hR, hS⟩
 | _ :: _, [], _, _, _, R, hR, hS => by unfold spFields; exact ⟨hR, hS⟩
 | l :: ls, f :: fs, first, hl, hf, R, hR, hS => by
  obtain ⟨i1, i2⟩ := fields_goods ls fs false (fun x hx => hl x (List.mem_cons_of_mem _ hx)) (fun x hx => hf x (List.mem_cons_of_mem _ hx)) R hR hS
  obtain ⟨w, k⟩ := hl l (List.mem_cons_self ..)
  have P := hf f (List.mem_cons_self ..) 1
  have g1 := P.goods true _ i1 i2
  have key : Goods (⟨true, 1, l⟩ :: ⟨true, 6, [58]⟩ :: (f 1 true ++ (spFields ls fs false ++ R))) := ⟨good_word w (by rw [k]; rfl) (sep_gap _ _ _).word, by rw [P.gap]; exact good_colon, g1⟩
  unfold spFields
  cases first with
  | true =>
   simp only [if_true, List.nil_append, List.cons_append, List.append_assoc]
   exact ⟨key, sep_gap _ _ _⟩
  | false =>
   simp only [Bool.false_eq_true, if_false, List.cons_append, List.append_assoc, List.nil_append]
   exact ⟨⟨good_semi, key⟩, sep_gap _ _ _⟩
theorem fields_gap (labels : List (List UInt8)) (fs : List (Nat → Bool → List Sp)) (first : Bool) (k : Nat) (s : List UInt8) (R : List Sp) : ∃ r, spell (spFields labels fs first ++ (⟨true, k, s⟩ :: R)) = 32 :: r := by
 unfold spFields
 split
 ·cases first
  ·exact ⟨_, rfl⟩
  ·exact ⟨_, rfl⟩
 ·exact ⟨_, rfl⟩
theorem piece_of {t : Ty} (h : Fine t) : ∀ lev, Piece (spT t lev) := by
 induction h with
 | var s hw =>
  intro lev
  rw [spT]
  refine wrap_piece ?_ _ _
  refine ⟨fun g R hR hS => ⟨good_tick hw hS.word, hR⟩, fun R => ?_, fun R => rfl⟩
  show some (39 : UInt8) ≠ _
  decide
 | base s hs =>
  intro lev
  obtain ⟨⟨w1, w2, w3⟩, k⟩ := basics_words s hs
  rw [spT]
  refine wrap_piece ?_ _ _
  refine ⟨fun g R hR hS => ⟨good_word ⟨w1, w2, w3⟩ (by rw [k]; rfl) hS.word, hR⟩, fun R => ?_, fun R => rfl⟩
  obtain ⟨c, t, rfl, hc⟩ := word_head (s := s) ⟨w1, w2, w3⟩
  show some c ≠ some 42
  intro e
  cases e
  exact absurd hc (by decide)
 | bind s a hw _ ih =>
  intro lev
  have P := ih 0
  rw [spT]
  have e : ∀ g R, spOwn 4 s (spTs [a]) [] false g ++ R = spT a 0 g ++ (⟨true, 2, [97, 115]⟩ :: ⟨true, 5, s⟩ :: R) := fun g R => by
   rw [spTs, spTs]
   show (spT a 0 g ++ [⟨true, 2, [97, 115]⟩, ⟨true, 5, s⟩]) ++ R = _
   rw [List.append_assoc]; rfl
  refine wrap_piece ?_ _ _
  refine ⟨fun g R hR hS => ?_, fun R => ?_, fun R => ?_⟩
  ·rw [e]
   refine P.goods g _ ⟨good_word ⟨by decide, by decide, by decide⟩ (by decide) (sep_gap _ _ _).word, good_tick hw hS.word, hR⟩ (sep_gap _ _ _)
  ·rw [e]; exact P.head _
  ·rw [e, e]; exact P.gap _
 | op n a b hn _ _ iha ihb =>
  intro lev
  rw [spT]
  have ho : ownLev 2 (opS n) = n := by rcases hn with rfl | rfl <;> rfl
  have e : ∀ g R, spOwn 2 (opS n) (spTs [a, b]) [] false g ++ R = spT a (n + 1) g ++ (⟨true, 6, opS n⟩ :: (spT b n true ++ R)) := fun g R => by
   rw [spTs, spTs, spTs]
   show (spT a (ownLev 2 (opS n) + 1) g ++ ⟨true, 6, opS n⟩ :: spT b (ownLev 2 (opS n)) true) ++ R = _
   rw [ho, List.append_assoc]; rfl
  refine wrap_piece ?_ _ _
  refine ⟨fun g R hR hS => ?_, fun R => ?_, fun R => ?_⟩
  ·rw [e]
   refine (iha (n + 1)).goods g _ ⟨?_, (ihb n).goods true R hR hS⟩ (sep_gap _ _ _)
   rcases hn with rfl | rfl
   ·exact good_arrow
   ·exact good_star
  ·rw [e]; exact (iha (n + 1)).head _
  ·rw [e, e]; exact (iha (n + 1)).gap _
 | obj args labels o hlen hl _ _ ih =>
  intro lev
  rw [spT]
  have e : ∀ g R, spOwn 3 [] (spTs args) labels o g ++ R = ⟨g, 6, [60]⟩ :: (spFields labels (spTs args) true ++ (spDots labels o ++ (⟨true, 6, [62]⟩ :: R))) := fun g R => by
   show (⟨g, 6, [60]⟩ :: (spFields labels (spTs args) true ++ (spDots labels o ++ [⟨true, 6, [62]⟩]))) ++ R = _
   simp only [List.cons_append, List.append_assoc, List.nil_append]
  have hf : ∀ f ∈ spTs args, ∀ lev, Piece (f lev) := fun f hf lev => by
   rw [spTs_map] at hf
   obtain ⟨t, ht, rfl⟩ := List.mem_map.1 hf
   exact ih t ht lev
  refine wrap_piece ?_ _ _
  refine ⟨fun g R hR hS => ?_, fun R => ?_, fun R => ?_⟩
  ·rw [e]
   have hd : Goods (spDots labels o ++ (⟨true, 6, [62]⟩ :: R)) ∧ ∃ k s L, spDots labels o ++ (⟨true, 6, [62]⟩ :: R) = ⟨true, k, s⟩ :: L := by
    unfold spDots
    cases o with
    | false => exact ⟨⟨good_more hS, hR⟩, _, _, _, rfl⟩
    | true =>
     simp only [if_true]
     split
     ·exact ⟨⟨good_dots, good_more hS, hR⟩, _, _, _, rfl⟩
     ·exact ⟨⟨good_semi, good_dots, good_more hS, hR⟩, _, _, _, rfl⟩
   obtain ⟨hg, k, s, L, hk⟩ := hd
   rw [hk] at hg ⊢
   obtain ⟨r, hr⟩ := fields_gap labels (spTs args) true k s L
   refine ⟨by rw [hr]; exact good_less, (fields_goods labels (spTs args) true hl hf _ hg (sep_gap _ _ _)).1⟩
  ·rw [e]
   show some (60 : UInt8) ≠ _
   decide
  ·rw [e, e]; rfl
theorem weight_mk (k : Nat) (s : List UInt8) (args : List Ty) (labels : List (List UInt8)) (o : Bool) : (Ty.mk k s args labels o).weight = 1 + s.length + (labels.map fun x => x.length + 1).sum + weights args := by rw [Ty.weight]
theorem weights_nil : weights [] = 0 := by rw [weights]
theorem weights_cons (t : Ty) (r : List Ty) : weights (t :: r) = t.weight + weights r := by rw [weights]
end Go.Tre
namespace Go.Tre
open Go.RowKit
theorem less_trans {a b c : List UInt8} (h1 : Op.bytesLess a b = true) (h2 : Op.bytesLess b c = true) : Op.bytesLess a c = true := by
 rw [Go.Proofs.bytesLess_eq, decide_eq_true_iff] at *
 exact List.lt_trans h1 h2
theorem rising_lt {l : List ByteArray} (h : rising l = true) : ∀ (d i : Nat), i + d + 1 < l.length → Op.bytesLess (l.getD i ByteArray.empty).toList (l.getD (i + d + 1) ByteArray.empty).toList = true := by
 have one : ∀ i, i + 1 < l.length → Op.bytesLess (l.getD i ByteArray.empty).toList (l.getD (i + 1) ByteArray.empty).toList = true := fun i hi => by
  unfold rising at h
  have := (List.all_eq_true.1 h) (i + 1) (List.mem_range.2 hi)
  unfold labelOk at this
  rw [Bool.and_eq_true, Bool.or_eq_true] at this
  rcases this.2 with h2 | h2
  ·simp at h2
  ·simpa using h2
 intro d
 induction d with
 | zero => intro i hi; exact one i (by omega)
 | succ d ih => intro i hi; exact less_trans (ih i (by omega)) (one (i + d + 1) (by omega))
end Go.Tre
namespace Go.Proofs.YtbafalfmgibnfaaGreatDoor.gr
open Go.RowKit Go.Shelf Go.Maps Go.Tre
end Go.Proofs.YtbafalfmgibnfaaGreatDoor.gr
namespace Go.Tre
def SpAt (l : List Tok) (i : Nat) (xs : List Sp) : Prop := ∀ j x, xs[j]? = some x → ∃ t, l[i + j]? = some t ∧ t.kind = x.kind ∧ t.s = x.s
theorem SpAt.left {l : List Tok} {i : Nat} {a b : List Sp} (h : SpAt l i (a ++ b)) : SpAt l i a := fun j x hx => h j x (by
 rw [List.getElem?_append_left (List.getElem?_eq_some_iff.1 hx).1]; exact hx)
theorem SpAt.right {l : List Tok} {i : Nat} {a b : List Sp} (h : SpAt l i (a ++ b)) : SpAt l (i + a.length) b := fun j x hx => by
 obtain ⟨t, h1, h2⟩ := h (a.length + j) x (by rw [List.getElem?_append_right (by omega), Nat.add_sub_cancel_left]; exact hx)
 exact ⟨t, by rw [Nat.add_assoc]; exact h1, h2⟩
theorem SpAt.tail {l : List Tok} {i : Nat} {x : Sp} {b : List Sp} (h : SpAt l i (x :: b)) : SpAt l (i + 1) b := SpAt.right (a := [x]) h
theorem SpAt.tk {l : List Tok} {i : Nat} {x : Sp} {b : List Sp} (h : SpAt l i (x :: b)) (k : Nat) (s : List UInt8) : tk l i k s = (decide (x.kind = k) && decide (x.s = s)) := by
 obtain ⟨t, h1, h2, h3⟩ := h 0 x rfl
 rw [Nat.add_zero] at h1
 unfold Go.Tre.tk
 rw [h1, ← h2, ← h3]
theorem SpAt.wd {l : List Tok} {i : Nat} {x : Sp} {b : List Sp} (h : SpAt l i (x :: b)) (k : Nat) : wd l i k = if x.kind = k then some x.s else none := by
 obtain ⟨t, h1, h2, h3⟩ := h 0 x rfl
 rw [Nat.add_zero] at h1
 unfold Go.Tre.wd
 rw [h1, ← h2, ← h3]
theorem spAt_toks (N : Nat) (a b : List Sp) : SpAt (toksOf N (a ++ b)) a.length b := fun j x hx => toksOf_at N (a ++ b) (a.length + j) x (by
 rw [List.getElem?_append_right (by omega), Nat.add_sub_cancel_left]; exact hx)
structure Stop (l : List Tok) (lev i : Nat) : Prop where
 star : lev ≤ 2 → tk l i 6 [42] = false
 arrow : lev ≤ 1 → tk l i 6 [45, 62] = false
 bound : lev = 0 → tk l i 2 [97, 115] = false
theorem Stop.up {l : List Tok} {lev i : Nat} (h : Stop l lev i) (m : Nat) (hm : lev ≤ m) : Stop l m i := ⟨fun hh => h.star (by omega), fun hh => h.arrow (by omega), fun hh => h.bound (by omega)⟩
def Prs (lev : Nat) (f : Bool → List Sp) (t : Ty) : Prop := ∀ l i g, SpAt l i (f g) → Stop l lev (i + (f g).length) → ∃ K, ∀ k, K ≤ k → pLev l k lev i = some (t, i + (f g).length)
def PrA (f : Bool → List Sp) (t : Ty) : Prop := ∀ l i g, SpAt l i (f g) → Stop l 1 (i + (f g).length) → ∃ K D b m, (∀ k, K ≤ k → pLev l k 1 i = some (b, m)) ∧ ∀ k, pAs l (k + D) b m = pAs l k t (i + (f g).length)
theorem lev0 (l : List Tok) (k i : Nat) : pLev l (k + 1) 0 i = (pLev l k 1 i).bind fun r => pAs l k r.1 r.2 := by rw [pLev, if_pos rfl]
theorem levB (l : List Tok) (k n i : Nat) (h : n = 1 ∨ n = 2) : pLev l (k + 1) n i = (pLev l k (n + 1) i).bind fun r => if tk l r.2 6 (opS n) then (pLev l k n (r.2 + 1)).map fun q => (.mk 2 (opS n) [r.1, q.1] [] false, q.2) else some r := by
 rw [pLev, if_neg (by omega), if_pos h]
theorem lev3 (l : List Tok) (k i : Nat) : pLev l (k + 1) 3 i = match wd l i 5 with
   | some s => some (.mk 1 s [] [] false, i + 1)
   | none => match wd l i 1 with
    | some s => if basics.contains s then some (.mk 2 s [] [] false, i + 1) else none
    | none =>
     if tk l i 6 [40] then (pLev l k 0 (i + 1)).bind fun r => if tk l r.2 6 [41] then some (r.1, r.2 + 1) else none
     else if tk l i 6 [60] then (if tk l (i + 1) 6 [62] then some (.mk 3 [] [] [] false, i + 2) else pObj l k [] [] (i + 1))
     else none := by
 rw [pLev, if_neg (by omega), if_neg (by omega)]
 rfl
theorem asE (l : List Tok) (k : Nat) (t : Ty) (i : Nat) : pAs l (k + 1) t i = if tk l i 2 [97, 115] then (wd l (i + 1) 5).bind fun s => pAs l k (.mk 4 s [t] [] false) (i + 2) else some (t, i) := by rw [pAs]
theorem objE (l : List Tok) (k : Nat) (labels : List (List UInt8)) (args : List Ty) (i : Nat) : pObj l (k + 1) labels args i =
  if tk l i 6 [46, 46] then (if tk l (i + 1) 6 [62] then some (.mk 3 [] args labels true, i + 2) else none)
  else (wd l i 1).bind fun s => if tk l (i + 1) 6 [58] then (pLev l k 1 (i + 2)).bind fun r =>
   if labels.contains s = true then none
   else if tk l r.2 6 [62] then some (.mk 3 [] (insAt args (posL labels s) r.1) (insAt labels (posL labels s) s) false, r.2 + 1)
   else if tk l r.2 6 [59] then pObj l k (insAt labels (posL labels s) s) (insAt args (posL labels s) r.1) (r.2 + 1)
   else none
  else none := by rw [pObj]
theorem prs_down {f : Bool → List Sp} {t : Ty} {n : Nat} (hn : n = 1 ∨ n = 2) (h : Prs (n + 1) f t) : Prs n f t := fun l i g hS hT => by
 obtain ⟨K, hK⟩ := h l i g hS (hT.up _ (by omega))
 refine ⟨K + 1, fun k hk => ?_⟩
 obtain ⟨k, rfl⟩ : ∃ k', k = k' + 1 := ⟨k - 1, by omega⟩
 rw [levB l k n i hn, hK k (by omega)]
 have h0 : tk l (i + (f g).length) 6 (opS n) = false := by
  rcases hn with rfl | rfl
  ·exact hT.arrow (by omega)
  ·exact hT.star (by omega)
 simp only [Option.bind_some, h0, Bool.false_eq_true, if_false]
theorem prA_of {f : Bool → List Sp} {t : Ty} (h : Prs 1 f t) : PrA f t := fun l i g hS hT => by
 obtain ⟨K, hK⟩ := h l i g hS hT
 exact ⟨K, 0, t, i + (f g).length, hK, fun k => rfl⟩
theorem prs0_of {f : Bool → List Sp} {t : Ty} (h : PrA f t) : Prs 0 f t := fun l i g hS hT => by
 obtain ⟨K, D, b, m, h1, h2⟩ := h l i g hS (hT.up 1 (by omega))
 refine ⟨K + D + 2, fun k hk => ?_⟩
 obtain ⟨k, rfl⟩ : ∃ k', k = k' + 1 + D + 1 := ⟨k - D - 2, by omega⟩
 rw [lev0, h1 _ (by omega)]
 simp only [Option.bind_some]
 rw [h2, asE, hT.bound rfl]
 rfl
theorem prs_bracket {f : Bool → List Sp} {t : Ty} (h : Prs 0 f t) : Prs 3 (fun g => ⟨g, 6, [40]⟩ :: (f false ++ [⟨false, 6, [41]⟩])) t := fun l i g hS _ => by
 have h1 := hS.tail.left
 have h2 := hS.tail.right
 obtain ⟨K, hK⟩ := h l (i + 1) false h1 ⟨fun _ => by rw [h2.tk]; rfl, fun _ => by rw [h2.tk]; rfl, fun _ => by rw [h2.tk]; rfl⟩
 refine ⟨K + 1, fun k hk => ?_⟩
 obtain ⟨k, rfl⟩ : ∃ k', k = k' + 1 := ⟨k - 1, by omega⟩
 rw [lev3, hS.wd, hS.wd, hS.tk, hK k (by omega)]
 simp only [reduceIte, decide_true, Bool.and_self, Option.bind_some, show ¬ ((6 : Nat) = 5) by decide, show ¬ ((6 : Nat) = 1) by decide]
 rw [h2.tk]
 simp only [decide_true, Bool.and_self, reduceIte, List.length_cons, List.length_append, List.length_nil]
 rw [show i + 1 + (f false).length + 1 = i + ((f false).length + (0 + 1) + 1) by omega]
theorem prs_wrap {f : Bool → List Sp} {t : Ty} {own : Nat} (h0 : PrA f t) (h : ∀ lev, 1 ≤ lev → lev ≤ own → lev ≤ 3 → Prs lev f t) : ∀ lev, lev ≤ 3 → Prs lev (spWrap own f lev) t := by
 intro lev hl
 by_cases ho : own < lev
 ·have e : spWrap own f lev = fun g => ⟨g, 6, [40]⟩ :: (f false ++ [⟨false, 6, [41]⟩]) := by funext g; unfold spWrap; rw [if_pos ho]
  rw [e]
  have h3 := prs_bracket (prs0_of h0)
  have h2 := prs_down (n := 2) (.inr rfl) h3
  have h1 := prs_down (n := 1) (.inl rfl) h2
  match lev, ho, hl with
  | 1, _, _ => exact h1
  | 2, _, _ => exact h2
  | 3, _, _ => exact h3
 ·have e : spWrap own f lev = f := by funext g; unfold spWrap; rw [if_neg ho]
  rw [e]
  by_cases hz : lev = 0
  ·subst hz; exact prs0_of h0
  ·exact h lev (by omega) (by omega) hl
def Parsed (t : Ty) : Prop := (∀ lev, lev ≤ 3 → Prs lev (spT t lev) t) ∧ PrA (spT t 0) t
theorem parsed_own {k : Nat} {s : List UInt8} {args : List Ty} {labels : List (List UInt8)} {o : Bool} (h0 : PrA (spOwn k s (spTs args) labels o) (.mk k s args labels o)) (h : ∀ lev, 1 ≤ lev → lev ≤ ownLev k s → lev ≤ 3 → Prs lev (spOwn k s (spTs args) labels o) (.mk k s args labels o)) : Parsed (.mk k s args labels o) := by
 refine ⟨fun lev hl => ?_, ?_⟩
 ·rw [spT]; exact prs_wrap h0 h lev hl
 ·rw [spT]
  have e : spWrap (ownLev k s) (spOwn k s (spTs args) labels o) 0 = spOwn k s (spTs args) labels o := by funext g; unfold spWrap; rw [if_neg (by omega)]
  rw [e]; exact h0
theorem parsed3 {k : Nat} {s : List UInt8} {args : List Ty} {labels : List (List UInt8)} {o : Bool} (h3 : Prs 3 (spOwn k s (spTs args) labels o) (.mk k s args labels o)) : Parsed (.mk k s args labels o) := by
 have h2 := prs_down (n := 2) (.inr rfl) h3
 have h1 := prs_down (n := 1) (.inl rfl) h2
 refine parsed_own (prA_of h1) fun lev a _ c => ?_
 match lev, a, c with
 | 1, _, _ => exact h1
 | 2, _, _ => exact h2
 | 3, _, _ => exact h3
theorem rising_pwT {l : List ByteArray} (h : rising l = true) : l.Pairwise fun x y => Op.bytesLess x.toList y.toList = true := by
 rw [List.pairwise_iff_getElem]
 intro i j hi hj hij
 have := rising_lt h (j - i - 1) i (by omega)
 rw [show i + (j - i - 1) + 1 = j by omega, List.getD_eq_getElem?_getD, List.getD_eq_getElem?_getD, List.getElem?_eq_getElem hi, List.getElem?_eq_getElem hj] at this
 exact this
theorem rising_less {l : List (List UInt8)} (h : rising (byteStrs l) = true) : l.Pairwise (fun a b => lessS a b = true) := by
 have h1 := rising_pwT h
 unfold byteStrs at h1
 rw [List.pairwise_map] at h1
 refine h1.imp fun {a b} hab => ?_
 rw [← less_is, ← ba_list a, ← ba_list b]
 exact hab
theorem lessS_irrefl : ∀ s : List UInt8, lessS s s = false
 | [] => rfl
 | a :: l => by
  unfold lessS
  rw [lessS_irrefl l]
  simp
theorem posL_end {l : List (List UInt8)} {s : List UInt8} (h : ∀ a ∈ l, lessS a s = true) : posL l s = l.length := by
 unfold posL
 induction l with
 | nil => rfl
 | cons x r ih =>
  rw [List.takeWhile_cons, if_pos (h x (List.mem_cons_self ..)), List.length_cons, List.length_cons, ih (fun a ha => h a (List.mem_cons_of_mem _ ha))]
theorem insAt_end {α : Type} (l : List α) (x : α) : insAt l l.length x = l ++ [x] := by
 unfold insAt
 rw [List.take_of_length_le (Nat.le_refl _), List.drop_of_length_le (Nat.le_refl _)]
theorem fields_parsed (l : List Tok) : ∀ (ls : List (List UInt8)) (ts : List Ty) (ls0 : List (List UInt8)) (ts0 : List Ty) (i : Nat) (o : Bool), ls0.length = ts0.length → ls.length = ts.length → (∀ t ∈ ts, Parsed t) →
  (ls0 ++ ls).Pairwise (fun a b => lessS a b = true) → (ls0 = [] → ls = [] → o = true) → SpAt l i (spFields ls (spTs ts) true ++ (spDots ls o ++ [⟨true, 6, [62]⟩])) → (ls = [] → o = true) →
  ∃ K, ∀ k, K ≤ k → pObj l k ls0 ts0 i = some (.mk 3 [] (ts0 ++ ts) (ls0 ++ ls) o, i + (spFields ls (spTs ts) true ++ (spDots ls o ++ [(⟨true, 6, [62]⟩ : Sp)])).length)
 | [], ts, ls0, ts0, i, o, _, hlen, _, _, _, hS, ho => by
  have : ts = [] := List.eq_nil_of_length_eq_zero hlen.symm
  subst this
  have ho := ho rfl
  subst ho
  refine ⟨1, fun k hk => ?_⟩
  obtain ⟨k, rfl⟩ : ∃ k', k = k' + 1 := ⟨k - 1, by omega⟩
  have hS' : SpAt l i [⟨true, 6, [46, 46]⟩, ⟨true, 6, [62]⟩] := hS
  rw [objE, hS'.tk, hS'.tail.tk, List.append_nil, List.append_nil]
  rfl
 | x :: ls, [], ls0, ts0, i, o, _, hlen, _, _, _, hS, _ => by simp at hlen
 | x :: ls, t :: ts, ls0, ts0, i, o, hz0, hlen, hP, hR, _, hS, _ => by
  obtain ⟨r, hr⟩ : ∃ r : List Sp, r = spFields ls (spTs ts) false ++ ((if o then [⟨true, 6, [59]⟩, ⟨true, 6, [46, 46]⟩] else []) ++ [⟨true, 6, [62]⟩]) := ⟨_, rfl⟩
  have e : spFields (x :: ls) (spTs (t :: ts)) true ++ (spDots (x :: ls) o ++ [(⟨true, 6, [62]⟩ : Sp)]) = ⟨true, 1, x⟩ :: ⟨true, 6, [58]⟩ :: (spT t 1 true ++ r) := by
   rw [spTs, spFields, if_pos rfl, hr, spDots, if_neg (show ¬ x :: ls = [] by simp)]
   simp only [List.nil_append, List.cons_append, List.append_assoc]
  rw [e] at hS ⊢
  have hx : ∀ a ∈ ls0, lessS a x = true := fun a ha => (List.pairwise_append.1 hR).2.2 a ha x (List.mem_cons_self ..)
  have hA := hS.tail.tail.left
  have hB := hS.tail.tail.right
  have hend : (ls = [] ∧ o = false ∧ r = [⟨true, 6, [62]⟩]) ∨ ∃ r', r = ⟨true, 6, [59]⟩ :: r' ∧ r' = spFields ls (spTs ts) true ++ (spDots ls o ++ [⟨true, 6, [62]⟩]) ∧ (ls = [] → o = true) := by
   cases ls with
   | nil =>
    have : ts = [] := List.eq_nil_of_length_eq_zero (by simpa using hlen.symm)
    subst this
    cases o with
    | false => exact .inl ⟨rfl, rfl, by rw [hr]; rfl⟩
    | true => exact .inr ⟨[⟨true, 6, [46, 46]⟩, ⟨true, 6, [62]⟩], by rw [hr]; rfl, rfl, fun _ => rfl⟩
   | cons y ls =>
    cases ts with
    | nil => simp at hlen
    | cons u ts =>
     refine .inr ⟨_, ?_, rfl, fun h => by simp at h⟩
     rw [hr, spTs, spFields, spFields, if_pos rfl, spDots, if_neg (show ¬ y :: ls = [] by simp)]
     simp only [Bool.false_eq_true, if_false, List.nil_append, List.cons_append, List.append_assoc]
  have hstop : Stop l 1 (i + 1 + 1 + (spT t 1 true).length) := by
   rcases hend with ⟨_, _, h⟩ | ⟨r', h, _, _⟩
   ·rw [h] at hB
    exact ⟨fun _ => by rw [hB.tk]; rfl, fun _ => by rw [hB.tk]; rfl, fun h => by omega⟩
   ·rw [h] at hB
    exact ⟨fun _ => by rw [hB.tk]; rfl, fun _ => by rw [hB.tk]; rfl, fun h => by omega⟩
  obtain ⟨K1, hK1⟩ := (hP t (List.mem_cons_self ..)).1 1 (by omega) l (i + 1 + 1) true hA hstop
  have hall : ls0.contains x = false := by
   cases hb : ls0.contains x with
   | false => rfl
   | true =>
    have := hx x (List.contains_iff_mem.1 hb)
    rw [lessS_irrefl] at this
    cases this
  have hpe := posL_end hx
  have hi1 : insAt ls0 (posL ls0 x) x = ls0 ++ [x] := by rw [hpe, insAt_end]
  have hi2 : insAt ts0 (posL ls0 x) t = ts0 ++ [t] := by rw [hpe, hz0, insAt_end]
  have step : ∀ k, K1 ≤ k → pObj l (k + 1) ls0 ts0 i = if tk l (i + 1 + 1 + (spT t 1 true).length) 6 [62] then some (.mk 3 [] (ts0 ++ [t]) (ls0 ++ [x]) false, i + 1 + 1 + (spT t 1 true).length + 1)
    else if tk l (i + 1 + 1 + (spT t 1 true).length) 6 [59] then pObj l k (ls0 ++ [x]) (ts0 ++ [t]) (i + 1 + 1 + (spT t 1 true).length + 1) else none := fun k hk => by
   rw [objE, hS.tk, hS.wd, hS.tail.tk 6 [58], hK1 k hk]
   simp only [show ¬ ((1 : Nat) = 6) by decide, decide_false, Bool.false_and, Bool.false_eq_true, if_false, reduceIte, Option.bind_some, decide_true, Bool.and_self, hall, hi1, hi2]
  rcases hend with ⟨rfl, rfl, h⟩ | ⟨r', h, hr', ho⟩
  ·rw [h] at hB ⊢
   have : ts = [] := List.eq_nil_of_length_eq_zero (by simpa using hlen.symm)
   subst this
   refine ⟨K1 + 1, fun k hk => ?_⟩
   obtain ⟨k, rfl⟩ : ∃ k', k = k' + 1 := ⟨k - 1, by omega⟩
   rw [step k (by omega), hB.tk]
   simp only [decide_true, Bool.and_self, reduceIte, List.length_cons, List.length_append, List.length_nil]
   congr 2
   omega
  ·rw [h] at hB ⊢
   have hB2 := hB.tail
   rw [hr'] at hB2
   obtain ⟨K2, hK2⟩ := fields_parsed l ls ts (ls0 ++ [x]) (ts0 ++ [t]) (i + 1 + 1 + (spT t 1 true).length + 1) o (by simp [hz0]) (by simpa using hlen) (fun u hu => hP u (List.mem_cons_of_mem _ hu)) (by rw [List.append_assoc]; exact hR) (fun h => by simp at h) hB2 ho
   refine ⟨K1 + K2 + 1, fun k hk => ?_⟩
   obtain ⟨k, rfl⟩ : ∃ k', k = k' + 1 := ⟨k - 1, by omega⟩
   rw [step k (by omega), hB.tk, hB.tk, hK2 k (by omega), ← hr']
   simp only [show ¬ (([59] : List UInt8) = [62]) by decide, decide_false, decide_true, Bool.and_self, Bool.and_false, Bool.false_eq_true, if_false, reduceIte, List.length_cons, List.length_append, List.append_assoc, List.cons_append, List.nil_append]
   congr 2
   omega
theorem parsed_of {t : Ty} (h : Fine t) : Parsed t := by
 induction h with
 | var s hw =>
  refine parsed3 fun l i g hS _ => ⟨1, fun k hk => ?_⟩
  obtain ⟨k, rfl⟩ : ∃ k', k = k' + 1 := ⟨k - 1, by omega⟩
  have hS' : SpAt l i [⟨g, 5, s⟩] := hS
  rw [lev3, hS'.wd]
  rfl
 | base s hs =>
  refine parsed3 fun l i g hS _ => ⟨1, fun k hk => ?_⟩
  obtain ⟨k, rfl⟩ : ∃ k', k = k' + 1 := ⟨k - 1, by omega⟩
  have hS' : SpAt l i [⟨g, 1, s⟩] := hS
  rw [lev3, hS'.wd, hS'.wd]
  simp only [show ¬ ((1 : Nat) = 5) by decide, if_false, reduceIte, List.contains_iff_mem.2 hs]
  rfl
 | bind s a hw _ ih =>
  have e : ∀ g, spOwn 4 s (spTs [a]) [] false g = spT a 0 g ++ [⟨true, 2, [97, 115]⟩, ⟨true, 5, s⟩] := fun g => by rw [spTs, spTs]; rfl
  refine parsed_own (fun l i g hS hT => ?_) fun lev a b _ => absurd b (by show ¬ lev ≤ 0; omega)
  rw [e] at hS hT ⊢
  have hB := hS.right
  obtain ⟨K, D, b, m, h1, h2⟩ := ih.2 l i g hS.left ⟨fun _ => by rw [hB.tk]; rfl, fun _ => by rw [hB.tk]; rfl, fun h => by omega⟩
  refine ⟨K, D + 1, b, m, h1, fun k => ?_⟩
  rw [show k + (D + 1) = k + 1 + D by omega, h2, asE, hB.tk, hB.tail.wd]
  simp only [decide_true, Bool.and_self, reduceIte, Option.bind_some, List.length_append, List.length_cons, List.length_nil]
  rfl
 | op n a b hn _ _ iha ihb =>
  have ho : ownLev 2 (opS n) = n := by rcases hn with rfl | rfl <;> rfl
  have e : ∀ g, spOwn 2 (opS n) (spTs [a, b]) [] false g = spT a (n + 1) g ++ ⟨true, 6, opS n⟩ :: spT b n true := fun g => by
   rw [spTs, spTs, spTs]
   show spT a (ownLev 2 (opS n) + 1) g ++ ⟨true, 6, opS n⟩ :: spT b (ownLev 2 (opS n)) true = _
   rw [ho]
  have hn3 : Prs n (spOwn 2 (opS n) (spTs [a, b]) [] false) (.mk 2 (opS n) [a, b] [] false) := fun l i g hS hT => by
   rw [e] at hS hT ⊢
   have hB := hS.right
   obtain ⟨K1, h1⟩ := iha.1 (n + 1) (by omega) l i g hS.left ⟨fun h => by rw [hB.tk]; rcases hn with rfl | rfl; rfl; omega, fun h => by omega, fun h => by omega⟩
   obtain ⟨K2, h2⟩ := ihb.1 n (by omega) l _ true hB.tail (by
    rw [List.length_append, List.length_cons] at hT
    rw [show i + (spT a (n + 1) g).length + 1 + (spT b n true).length = i + ((spT a (n + 1) g).length + ((spT b n true).length + 1)) by omega]
    exact hT)
   refine ⟨K1 + K2 + 1, fun k hk => ?_⟩
   obtain ⟨k, rfl⟩ : ∃ k', k = k' + 1 := ⟨k - 1, by omega⟩
   rw [levB l k n i hn, h1 k (by omega)]
   simp only [Option.bind_some]
   rw [hB.tk, h2 k (by omega)]
   simp only [decide_true, Bool.and_self, reduceIte, zqd, List.length_append, List.length_cons]
   congr 2
   omega
  refine parsed_own ?_ fun lev a b _ => ?_
  ·rcases hn with rfl | rfl
   ·exact prA_of hn3
   ·exact prA_of (prs_down (n := 1) (.inl rfl) hn3)
  ·rw [ho] at b
   rcases hn with rfl | rfl
   ·have : lev = 1 := by omega
    subst this; exact hn3
   ·match lev, a, b with
    | 1, _, _ => exact prs_down (n := 1) (.inl rfl) hn3
    | 2, _, _ => exact hn3
 | obj args labels o hlen hl hri _ ih =>
  refine parsed3 fun l i g hS _ => ?_
  have e : ∀ g, spOwn 3 [] (spTs args) labels o g = ⟨g, 6, [60]⟩ :: (spFields labels (spTs args) true ++ (spDots labels o ++ [⟨true, 6, [62]⟩])) := fun g => rfl
  rw [e] at hS ⊢
  by_cases hz : labels = [] ∧ o = false
  ·obtain ⟨rfl, rfl⟩ := hz
   have : args = [] := List.eq_nil_of_length_eq_zero hlen.symm
   subst this
   have hS' : SpAt l i [⟨g, 6, [60]⟩, ⟨true, 6, [62]⟩] := hS
   refine ⟨1, fun k hk => ?_⟩
   obtain ⟨k, rfl⟩ : ∃ k', k = k' + 1 := ⟨k - 1, by omega⟩
   rw [lev3, hS'.wd, hS'.wd, hS'.tk, hS'.tk, hS'.tail.tk]
   rfl
  ·obtain ⟨K, hK⟩ := fields_parsed l labels args [] [] (i + 1) o rfl hlen ih (rising_less hri) (fun _ h => by cases o with | true => rfl | false => exact absurd ⟨h, rfl⟩ hz) hS.tail (fun h => by cases o with | true => rfl | false => exact absurd ⟨h, rfl⟩ hz)
   have hne : tk l (i + 1) 6 [62] = false := by
    have ht := hS.tail
    cases labels with
    | nil =>
     have ho : o = true := by cases o with | true => rfl | false => exact absurd ⟨rfl, rfl⟩ hz
     subst ho
     have hS' : SpAt l (i + 1) [⟨true, 6, [46, 46]⟩, ⟨true, 6, [62]⟩] := ht
     rw [hS'.tk]; rfl
    | cons x ls =>
     cases args with
     | nil => simp at hlen
     | cons u us =>
      rw [spTs, spFields, if_pos rfl, List.nil_append] at ht
      rw [ht.tk]; rfl
   refine ⟨K + 1, fun k hk => ?_⟩
   obtain ⟨k, rfl⟩ : ∃ k', k = k' + 1 := ⟨k - 1, by omega⟩
   rw [lev3, hS.wd, hS.wd, hS.tk, hS.tk, hne]
   simp only [show ¬ ((6 : Nat) = 5) by decide, show ¬ ((6 : Nat) = 1) by decide, if_false, reduceIte, show ¬ (([60] : List UInt8) = [40]) by decide, decide_false, decide_true, Bool.and_false, Bool.and_self, Bool.false_eq_true]
   rw [hK k (by omega), List.nil_append, List.nil_append]
   congr 2
   rw [List.length_cons]
   omega
end Go.Tre
namespace Go.Tre
open Go.RowKit
def apartR (kids : List Kid) : Res where
 own b := ∃ k ∈ kids, k.O b
 P w := (∀ k ∈ kids, (kidR k).P w) ∧ kids.Pairwise fun (x y : Kid) => ∀ b, x.O b → ¬ y.O b
 stable w w' h hs := ⟨fun k hk => (kidR k).stable _ _ (h.1 k hk) (fun b hb => hs b ⟨k, hk, hb⟩), h.2⟩
 has w h b hb := by obtain ⟨k, hk, hb⟩ := hb; exact (kidR k).has w (h.1 k hk) b hb
section
variable {w0 w : World} {rs : List Res}
theorem Mem.apartNil (h : Mem w0 w rs) : Mem w0 w (apartR [] :: rs) :=
 ⟨h.below, fun s hs => by
  rcases List.mem_cons.1 hs with rfl | hs
  ·exact ⟨⟨fun r hr => by simp at hr, List.Pairwise.nil⟩, fun b hb => by obtain ⟨r, hr, _⟩ := hb; simp at hr⟩
  ·exact h.all s hs, List.pairwise_cons.2 ⟨fun _ _ _ hb _ => by obtain ⟨r, hr, _⟩ := hb; simp at hr, h.sep⟩⟩
theorem Mem.apartInto {k : Kid} {kids : List Kid} (h : Mem w0 w (kidR k :: apartR kids :: rs)) : Mem w0 w (apartR (kids ++ [k]) :: rs) := by
 have hs := List.pairwise_cons.1 h.sep
 have hj := h.join
 refine hj.as_ 0 rfl (apartR (kids ++ [k])) (fun hp => ⟨?_, ?_⟩) (fun b hb => ?_)
 ·intro x hx
  rcases List.mem_append.1 hx with hx | hx
  ·exact hp.2.1 x hx
  ·simp at hx; subst hx; exact hp.1
 ·refine List.pairwise_append.2 ⟨hp.2.2, List.pairwise_singleton _ _, fun x hx y hy b hb hb' => ?_⟩
  simp at hy; subst hy
  exact hs.1 (apartR kids) (by simp) b hb' ⟨x, hx, hb⟩
 ·obtain ⟨x, hx, hb⟩ := hb
  rcases List.mem_append.1 hx with hx | hx
  ·exact .inr ⟨x, hx, hb⟩
  ·simp at hx; subst hx; exact .inl hb
theorem Mem.apartOut {kids : List Kid} (h : Mem w0 w (apartR kids :: rs)) : Mem w0 w (kids.map kidR ++ rs) := by
 have hs := List.pairwise_cons.1 h.sep
 have hp := h.all _ (List.mem_cons_self ..)
 refine ⟨h.below, fun r hr => ?_, List.pairwise_append.2 ⟨List.pairwise_map.2 hp.1.2, hs.2, fun a ha r hr b hb hb' => ?_⟩⟩
 ·rcases List.mem_append.1 hr with hr | hr
  ·obtain ⟨k, hk, rfl⟩ := List.mem_map.1 hr
   exact ⟨hp.1.1 k hk, fun b hb => hp.2 b ⟨k, hk, hb⟩⟩
  ·exact h.all r (by simp [hr])
 ·obtain ⟨k, hk, rfl⟩ := List.mem_map.1 ha
  exact hs.1 r hr b ⟨k, hk, hb⟩ hb'
theorem Mem.apartRows {kids : List Kid} {r s : Res} (h : Mem w0 w (r :: s :: apartR kids :: rs)) : Mem w0 w (r :: s :: (kids.map kidR ++ rs)) :=
 ((h.front 2 rfl).apartOut : Mem w0 w (kids.map kidR ++ r :: s :: rs)).perm (List.perm_middle.trans (List.Perm.cons _ List.perm_middle))
theorem kidCells_snoc (kids : List Kid) (k : Kid) : kidCells (kids ++ [k]) = kidCells kids ++ k.V.toList := by simp [kidCells]
end
end Go.Tre
