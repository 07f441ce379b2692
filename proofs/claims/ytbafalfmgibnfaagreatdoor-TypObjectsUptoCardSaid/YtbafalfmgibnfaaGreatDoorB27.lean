/- Layer 3, plain: types in brackets, arrows and stars between: what is parsed. Layer 3, plain: objects whose fields stand in any order, types in brackets: what is parsed. Layer 3, plain: objects of one type under many names. errors.Is at typ.formless, of an error that joins it and another one. typ: (*parser).run, where the parser gave up. -/
import Derived.Test.YtbafalfmgibnfaaGreatDoorB15
import Derived.Test.YtbafalfmgibnfaaGreatDoorB17
import Derived.Test.YtbafalfmgibnfaaGreatDoorB26
import Derived.Test.YtbafalfmgibnfaaGreatDoorB10
import Derived.Test.YtbafalfmgibnfaaGreatDoorB25
import Derived.Test.YtbafalfmgibnfaaGreatDoorB19
set_option linter.unusedVariables false
namespace Go.Tre
def br (t : Ty) : Bool → List Sp := spWrap 0 (spT t 0) 1
theorem br_piece {t : Ty} (h : Fine t) : Piece (br t) := wrap_piece (piece_of h 0) 0 1
theorem br_eq (t : Ty) (g : Bool) : br t g = ⟨g, 6, [40]⟩ :: (spT t 0 false ++ [⟨false, 6, [41]⟩]) := by unfold br spWrap; rw [if_pos (by decide)]
theorem br_prs {t : Ty} (h : Fine t) : Prs 3 (br t) t := by
 have e : br t = fun g => ⟨g, 6, [40]⟩ :: (spT t 0 false ++ [⟨false, 6, [41]⟩]) := by funext g; exact br_eq t g
 rw [e]
 exact prs_bracket ((parsed_of h).1 0 (by omega))
theorem prs_le {f : Bool → List Sp} {t : Ty} (h : Prs 3 f t) : ∀ n, 1 ≤ n → n ≤ 3 → Prs n f t := fun n h1 h2 => by
 have h2' := prs_down (n := 2) (.inr rfl) h
 match n, h1, h2 with
 | 1, _, _ => exact prs_down (n := 1) (.inl rfl) h2'
 | 2, _, _ => exact h2'
 | 3, _, _ => exact h
theorem prs_text {n : Nat} (hn : n = 1 ∨ n = 2 ∨ n = 3) {f : Bool → List Sp} {t : Ty} (h : Prs n f t) (N : Nat) : ∃ K, ∀ k, K ≤ k → pLev (toksOf N (f false)) k 0 0 = some (t, (f false).length) := by
 have h1 : Prs 1 f t := by
  rcases hn with rfl | rfl | rfl
  ·exact h
  ·exact prs_down (n := 1) (.inl rfl) h
  ·exact prs_le h 1 (by omega) (by omega)
 have hS : SpAt (toksOf N (f false)) 0 (f false) := spAt_toks N [] (f false)
 have he := toksOf_end N (f false)
 have hno : ∀ k s, k ≠ 0 → tk (toksOf N (f false)) (0 + (f false).length) k s = false := fun k s hk => by
  unfold tk
  rw [Nat.zero_add, he]
  simp [Ne.symm hk]
 obtain ⟨K, hK⟩ := prs0_of (prA_of h1) _ 0 false hS ⟨fun _ => hno _ _ (by decide), fun _ => hno _ _ (by decide), fun _ => hno _ _ (by decide)⟩
 exact ⟨K, fun k hk => by rw [hK k hk, Nat.zero_add]⟩
def rowSp (n : Nat) (t u : Ty) (g : Bool) : List Sp := br t g ++ ⟨true, 6, opS n⟩ :: (br u true ++ ⟨true, 6, opS n⟩ :: br t true)
def rowTy (n : Nat) (t u : Ty) : Ty := .mk 2 (opS n) [t, .mk 2 (opS n) [u, t] [] false] [] false
def rowText (n : Nat) (t u : Ty) : List UInt8 := [40] ++ putS t ++ [41, 32] ++ opS n ++ [32, 40] ++ putS u ++ [41, 32] ++ opS n ++ [32, 40] ++ putS t ++ [41]
theorem nextS_kind {l : List UInt8} {t : Tok} {n : Nat} (h : nextS l = some (t, n)) : t.kind ≠ 0 := by
 unfold nextS at h
 split at h
 ·split at h
  ·cases h
  ·simp only [zqe, Prod.mk.injEq] at h
   obtain ⟨rfl, _⟩ := h
   show ¬ (if _ then 2 else 1) = 0
   split <;> decide
 ·split at h
  ·cases h
  ·split at h
   ·split at h
    ·cases h
    ·simp only [zqe, Prod.mk.injEq] at h
     obtain ⟨rfl, _⟩ := h
     exact Nat.succ_ne_zero _
   ·split at h
    ·simp only at h
     split at h
     ·simp only [zqe, Prod.mk.injEq] at h
      obtain ⟨rfl, _⟩ := h
      exact Nat.succ_ne_zero _
     ·cases h
    ·split at h
     ·obtain ⟨p, _, e⟩ := Option.map_eq_some_iff.1 h
      simp only [Prod.mk.injEq] at e
      obtain ⟨rfl, _⟩ := e
      exact Nat.succ_ne_zero _
     ·obtain ⟨p, _, e⟩ := Option.map_eq_some_iff.1 h
      simp only [Prod.mk.injEq] at e
      obtain ⟨rfl, _⟩ := e
      exact Nat.succ_ne_zero _
theorem goods_kind : ∀ {l : List Sp}, Goods l → ∀ x ∈ l, x.kind ≠ 0
 | [], _, x, hx => by simp at hx
 | y :: l, h, x, hx => by
  rcases List.mem_cons.1 hx with rfl | hx
  ·exact nextS_kind h.1.next
  ·exact goods_kind h.2 x hx
theorem toks_idx (N : Nat) {l : List Sp} (h : Goods l) : idxFunc (fun t : Tok => decide (t.kind = 0)) (toksOf N l) = (((toksOf N l).length - 1 : Nat) : Int) := by
 have hl := toksOf_len N l
 rw [hl, Nat.add_sub_cancel]
 refine idxFunc_hit (by omega) ?_ fun j hj hlt => ?_
 ·have he := toksOf_end N l
  rw [List.getElem?_eq_getElem (by omega)] at he
  rw [Option.some.inj he]
  exact decide_eq_true rfl
 ·obtain ⟨t, h1, h2, _⟩ := toksOf_at N l j l[j] (List.getElem?_eq_getElem hlt)
  rw [List.getElem?_eq_getElem hj] at h1
  rw [Option.some.inj h1, h2]
  have := goods_kind h l[j] (List.getElem_mem hlt)
  simpa using this
theorem spell_long : ∀ {l : List Sp}, Goods l → l.length ≤ (spell l).length
 | [], _ => Nat.le_refl _
 | x :: l, h => by
  have ih := spell_long h.2
  have hn := (nextS_len h.1.next).1
  have hb : x.body.length ≤ x.text.length := by unfold Sp.text; split <;> simp
  rw [spell, List.length_append, List.length_cons]
  omega
end Go.Tre
namespace Go.Tre
structure Fld where
 n : List UInt8
 f : Bool → List Sp
 t : Ty
def fldSp (x : Fld) : List Sp := ⟨true, 1, x.n⟩ :: ⟨true, 6, [58]⟩ :: (x.f true ++ [⟨true, 6, [59]⟩])
def fldsSp : List Fld → List Sp
 | [] => [⟨true, 6, [46, 46]⟩, ⟨true, 6, [62]⟩]
 | x :: r => fldSp x ++ fldsSp r
def objSp (fs : List Fld) (g : Bool) : List Sp := ⟨g, 6, [60]⟩ :: fldsSp fs
def insAll : List Fld → List (List UInt8) → List Ty → Option (List (List UInt8) × List Ty)
 | [], ls, ts => some (ls, ts)
 | x :: r, ls, ts => if ls.contains x.n then none else insAll r (insAt ls (posL ls x.n) x.n) (insAt ts (posL ls x.n) x.t)
structure FldOk (x : Fld) : Prop where
 word : WordS x.n
 key : keyWords.contains x.n = false
 piece : Piece x.f
 prs : Prs 1 x.f x.t
theorem flds_goods : ∀ {fs : List Fld}, (∀ x ∈ fs, FldOk x) → Goods (fldsSp fs) ∧ ∃ r, spell (fldsSp fs) = 32 :: r
 | [], _ => ⟨⟨good_dots, good_more (.inl rfl), trivial⟩, _, rfl⟩
 | x :: r, h => by
  obtain ⟨i1, q, i2⟩ := flds_goods (fs := r) (fun y hy => h y (List.mem_cons_of_mem _ hy))
  have o := h x (List.mem_cons_self ..)
  have hg : Goods (x.f true ++ (⟨true, 6, [59]⟩ :: fldsSp r)) := o.piece.goods true _ ⟨good_semi, i1⟩ (sep_gap _ _ _)
  have e : fldsSp (x :: r) = ⟨true, 1, x.n⟩ :: ⟨true, 6, [58]⟩ :: (x.f true ++ (⟨true, 6, [59]⟩ :: fldsSp r)) := by
   rw [fldsSp]
   unfold fldSp
   simp only [List.cons_append, List.append_assoc, List.nil_append]
  rw [e]
  exact ⟨⟨good_word o.word (by rw [o.key]; rfl) (sep_gap _ _ _).word, by rw [o.piece.gap]; exact good_colon, hg⟩, _, rfl⟩
theorem obj_goods {fs : List Fld} (h : ∀ x ∈ fs, FldOk x) : Goods (objSp fs false) := by
 obtain ⟨h1, q, h2⟩ := flds_goods h
 exact ⟨by rw [h2]; exact good_less, h1⟩
theorem flds_prs (l : List Tok) : ∀ (fs : List Fld) (ls : List (List UInt8)) (ts : List Ty) (i : Nat) (L : List (List UInt8)) (A : List Ty), (∀ x ∈ fs, FldOk x) → insAll fs ls ts = some (L, A) → SpAt l i (fldsSp fs) →
  ∃ K, ∀ k, K ≤ k → pObj l k ls ts i = some (.mk 3 [] A L true, i + (fldsSp fs).length)
 | [], ls, ts, i, L, A, _, hi, hS => by
  unfold insAll at hi
  cases hi
  refine ⟨1, fun k hk => ?_⟩
  obtain ⟨k, rfl⟩ : ∃ k', k = k' + 1 := ⟨k - 1, by omega⟩
  have hS' : SpAt l i [⟨true, 6, [46, 46]⟩, ⟨true, 6, [62]⟩] := hS
  rw [objE, hS'.tk, hS'.tail.tk]
  rfl
 | x :: r, ls, ts, i, L, A, hx, hi, hS => by
  have o := hx x (List.mem_cons_self ..)
  unfold insAll at hi
  split at hi
  ·cases hi
  rename_i hc
  have e : fldsSp (x :: r) = ⟨true, 1, x.n⟩ :: ⟨true, 6, [58]⟩ :: (x.f true ++ (⟨true, 6, [59]⟩ :: fldsSp r)) := by
   rw [fldsSp]
   unfold fldSp
   simp only [List.cons_append, List.append_assoc, List.nil_append]
  rw [e] at hS ⊢
  have hB := hS.tail.tail.right
  obtain ⟨K1, h1⟩ := o.prs l (i + 1 + 1) true hS.tail.tail.left ⟨fun _ => by rw [hB.tk]; rfl, fun _ => by rw [hB.tk]; rfl, fun h => by omega⟩
  obtain ⟨K2, h2⟩ := flds_prs l r _ _ _ L A (fun y hy => hx y (List.mem_cons_of_mem _ hy)) hi hB.tail
  refine ⟨K1 + K2 + 1, fun k hk => ?_⟩
  obtain ⟨k, rfl⟩ : ∃ k', k = k' + 1 := ⟨k - 1, by omega⟩
  rw [objE, hS.tk, hS.wd, hS.tail.tk 6 [58], h1 k (by omega)]
  simp only [show ¬ ((1 : Nat) = 6) by decide, decide_false, Bool.false_and, Bool.false_eq_true, if_false, reduceIte, Option.bind_some, decide_true, Bool.and_self, hc]
  rw [hB.tk, hB.tk, h2 k (by omega)]
  simp only [show ¬ (([59] : List UInt8) = [62]) by decide, decide_false, decide_true, Bool.and_self, Bool.and_false, Bool.false_eq_true, if_false, reduceIte, List.length_cons, List.length_append]
  congr 2
  omega
theorem obj_prs {fs : List Fld} {L : List (List UInt8)} {A : List Ty} (hx : ∀ x ∈ fs, FldOk x) (hi : insAll fs [] [] = some (L, A)) : Prs 3 (objSp fs) (.mk 3 [] A L true) := fun l i g hS _ => by
 obtain ⟨K, hK⟩ := flds_prs l fs [] [] (i + 1) L A hx hi (SpAt.tail (x := ⟨g, 6, [60]⟩) hS)
 have hne : tk l (i + 1) 6 [62] = false := by
  have ht := SpAt.tail (x := ⟨g, 6, [60]⟩) hS
  cases fs with
  | nil =>
   have h : SpAt l (i + 1) [⟨true, 6, [46, 46]⟩, ⟨true, 6, [62]⟩] := ht
   rw [h.tk]; rfl
  | cons x r =>
   have h : SpAt l (i + 1) (⟨true, 1, x.n⟩ :: (⟨true, 6, [58]⟩ :: (x.f true ++ [⟨true, 6, [59]⟩]) ++ fldsSp r)) := ht
   rw [h.tk]; rfl
 have hS' : SpAt l i (⟨g, 6, [60]⟩ :: fldsSp fs) := hS
 refine ⟨K + 1, fun k hk => ?_⟩
 obtain ⟨k, rfl⟩ : ∃ k', k = k' + 1 := ⟨k - 1, by omega⟩
 rw [lev3, hS'.wd, hS'.wd, hS'.tk, hS'.tk, hne]
 simp only [show ¬ ((6 : Nat) = 5) by decide, show ¬ ((6 : Nat) = 1) by decide, if_false, reduceIte, show ¬ (([60] : List UInt8) = [40]) by decide, decide_false, decide_true, Bool.and_false, Bool.and_self, Bool.false_eq_true]
 rw [hK k (by omega)]
 congr 2
 show _ = i + ((fldsSp fs).length + 1)
 omega
/-! brackets -/
def br2 (t : Ty) : Bool → List Sp := spWrap 0 (br t) 1
/-! an object of two fields, either first -/
def twoTy (t u : Ty) : Ty := .mk 3 [] [u, t] [[106], [107]] true
def xFlds (t u : Ty) : List Fld := [⟨[107], br t, t⟩, ⟨[106], br u, u⟩]
def yFlds (t u : Ty) : List Fld := [⟨[106], br2 u, u⟩, ⟨[107], br t, t⟩]
def xText (t u : Ty) : List UInt8 := [60, 32, 107, 32, 58, 32, 40] ++ putS t ++ [41, 32, 59, 32, 106, 32, 58, 32, 40] ++ putS u ++ [41, 32, 59, 32, 46, 46, 32, 62]
def yText (t u : Ty) : List UInt8 := [60, 32, 106, 32, 58, 32, 40, 40] ++ putS u ++ [41, 41, 32, 59, 32, 107, 32, 58, 32, 40] ++ putS t ++ [41, 32, 59, 32, 46, 46, 32, 62]
def zText (t : Ty) : List UInt8 := [40, 40] ++ putS t ++ [41, 41]
end Go.Tre
namespace Go.Tre
def fldOf (t : Ty) (s : List UInt8) : Fld := ⟨s, br t, t⟩
def fldsOf (t : Ty) (ss : List (List UInt8)) : List Fld := ss.map (fldOf t)
def fldText (p s : List UInt8) : List UInt8 := s ++ ([32, 58, 32, 40] ++ p ++ [41, 32, 59, 32])
def fldsText (p : List UInt8) (ss : List (List UInt8)) : List UInt8 := (ss.map (fldText p)).flatten
theorem flds_spell (t : Ty) : ∀ ss, spell (fldsSp (fldsOf t ss)) = 32 :: (fldsText (putS t) ss ++ [46, 46, 32, 62])
 | [] => rfl
 | s :: r => by
  have ih := flds_spell t r
  show spell (fldSp (fldOf t s) ++ fldsSp (fldsOf t r)) = _
  rw [spell_app, ih]
  unfold fldSp fldOf fldsText fldText putS
  simp only [br_eq]
  simp [spell, spell_app, Sp.text, Sp.body]
theorem objs_spell (t : Ty) (ss : List (List UInt8)) : spell (objSp (fldsOf t ss) false) = [60, 32] ++ fldsText (putS t) ss ++ [46, 46, 32, 62] := by
 unfold objSp
 rw [show ((⟨false, 6, [60]⟩ : Sp) :: fldsSp (fldsOf t ss)) = [⟨false, 6, [60]⟩] ++ fldsSp (fldsOf t ss) from rfl, spell_app, flds_spell]
 simp [spell, Sp.text, Sp.body]
theorem fldsText_snoc (p : List UInt8) (ss : List (List UInt8)) (s : List UInt8) : fldsText p (ss ++ [s]) = fldsText p ss ++ fldText p s := by
 unfold fldsText
 simp
theorem fldsText_len (p : List UInt8) : ∀ ss : List (List UInt8), (∀ s ∈ ss, s.length ≤ 100) → (fldsText p ss).length ≤ ss.length * (p.length + 108)
 | [], _ => by simp [fldsText]
 | s :: r, h => by
  have ih := fldsText_len p r (fun x hx => h x (List.mem_cons_of_mem _ hx))
  have hs := h s (List.mem_cons_self ..)
  have e : (fldsText p (s :: r)).length = (fldText p s).length + (fldsText p r).length := by unfold fldsText; simp
  rw [e, List.length_cons, Nat.add_mul, Nat.one_mul]
  unfold fldText
  simp only [List.length_append, List.length_cons, List.length_nil]
  omega
theorem flds_ok {t : Ty} (ht : Fine t) {ss : List (List UInt8)} (hs : ∀ s ∈ ss, isName ⟨s.toArray⟩ = true) : ∀ x ∈ fldsOf t ss, FldOk x := fun x hx => by
 unfold fldsOf at hx
 obtain ⟨s, h1, rfl⟩ := List.mem_map.1 hx
 obtain ⟨h2, h3⟩ := name_word (hs s h1)
 exact ⟨h2, h3, br_piece ht, prs_le (br_prs ht) 1 (by omega) (by omega)⟩
theorem ris_nodup {ls : List (List UInt8)} (h : RisL ls) : ls.Nodup := by
 refine List.Pairwise.imp (fun {a b} hab e => ?_) h
 subst e
 rw [lessS_irrefl] at hab
 cases hab
theorem ins_of (t : Ty) : ∀ (ss ls : List (List UInt8)) (ts : List Ty), RisL ls → ts = List.replicate ls.length t →
  (¬ (ls ++ ss).Nodup ∧ insAll (fldsOf t ss) ls ts = none) ∨ ((ls ++ ss).Nodup ∧ ∃ L, insAll (fldsOf t ss) ls ts = some (L, List.replicate L.length t) ∧ RisL L ∧ (ls ++ ss).Perm L)
 | [], ls, ts, hr, ht => .inr ⟨by rw [List.append_nil]; exact ris_nodup hr, ls, by rw [ht]; rfl, hr, by rw [List.append_nil]⟩
 | s :: r, ls, ts, hr, ht => by
  have e : insAll (fldsOf t (s :: r)) ls ts = if ls.contains s then none else insAll (fldsOf t r) (insAt ls (posL ls s) s) (insAt ts (posL ls s) t) := rfl
  rw [e]
  by_cases hc : ls.contains s = true
  ·refine .inl ⟨fun hn => ?_, by rw [if_pos hc]⟩
   rw [List.nodup_append] at hn
   exact hn.2.2 s (List.contains_iff_mem.1 hc) s (List.mem_cons_self ..) rfl
  ·have hc' : ls.contains s = false := by simpa using hc
   have hr' := insAt_ris hr hc'
   have hl' := insAt_len ls s (posL_le ls s)
   have ht' : insAt ts (posL ls s) t = List.replicate (insAt ls (posL ls s) s).length t := by
    rw [hl', List.eq_replicate_iff]
    refine ⟨?_, fun b hb => ?_⟩
    ·rw [insAt_len _ _ (by rw [ht, List.length_replicate]; exact posL_le ls s), ht, List.length_replicate]
    ·rcases insAt_mem.1 hb with h | h
     ·exact h
     ·rw [ht] at h; exact List.eq_of_mem_replicate h
   have hp : (ls ++ s :: r).Perm (insAt ls (posL ls s) s ++ r) := by
    have := (insAt_perm ls (posL ls s) s).append_right r
    rwa [List.append_assoc] at this
   rw [if_neg hc]
   rcases ins_of t r _ _ hr' ht' with ⟨h1, h2⟩ | ⟨h1, L, h2, h3, h4⟩
   ·exact .inl ⟨fun hn => h1 (hp.nodup_iff.1 hn), h2⟩
   ·exact .inr ⟨hp.nodup_iff.2 h1, L, h2, h3, hp.trans h4⟩
theorem flds_fail (l : List Tok) : ∀ (fs : List Fld) (ls : List (List UInt8)) (ts : List Ty) (i : Nat), (∀ x ∈ fs, FldOk x) → insAll fs ls ts = none → SpAt l i (fldsSp fs) →
  ∃ K, ∀ k, K ≤ k → oFails l k ls i
 | [], ls, ts, i, _, hi, _ => by
  unfold insAll at hi
  cases hi
 | x :: r, ls, ts, i, hx, hi, hS => by
  have o := hx x (List.mem_cons_self ..)
  have e : fldsSp (x :: r) = ⟨true, 1, x.n⟩ :: ⟨true, 6, [58]⟩ :: (x.f true ++ (⟨true, 6, [59]⟩ :: fldsSp r)) := by
   rw [fldsSp]
   unfold fldSp
   simp only [List.cons_append, List.append_assoc, List.nil_append]
  rw [e] at hS
  have hB := hS.tail.tail.right
  obtain ⟨K1, h1⟩ := o.prs l (i + 1 + 1) true hS.tail.tail.left ⟨fun _ => by rw [hB.tk]; rfl, fun _ => by rw [hB.tk]; rfl, fun h => by omega⟩
  have n1 : tk l i 6 [46, 46] = false := by rw [hS.tk]; rfl
  have n2 : wd l i 1 = some x.n := by rw [hS.wd]; rfl
  have n3 : tk l (i + 1) 6 [58] = true := by rw [hS.tail.tk]; rfl
  by_cases hc : ls.contains x.n = true
  ·refine ⟨K1 + 1, fun k hk => ?_⟩
   obtain ⟨k, rfl⟩ : ∃ k', k = k' + 1 := ⟨k - 1, by omega⟩
   exact ⟨n1, x.n, _, n2, n3, h1 k (by omega), .inl hc⟩
  ·unfold insAll at hi
   rw [if_neg hc] at hi
   obtain ⟨K2, h2⟩ := flds_fail l r _ _ _ (fun y hy => hx y (List.mem_cons_of_mem _ hy)) hi hB.tail
   refine ⟨K1 + K2 + 1, fun k hk => ?_⟩
   obtain ⟨k, rfl⟩ : ∃ k', k = k' + 1 := ⟨k - 1, by omega⟩
   exact ⟨n1, x.n, _, n2, n3, h1 k (by omega), .inr ⟨by simpa using hc, by show tk l (i + 1 + 1 + _) 6 [62] = false; rw [hB.tk]; rfl, by show tk l (i + 1 + 1 + _) 6 [59] = true; rw [hB.tk]; rfl, h2 k (by omega)⟩⟩
theorem obj_fails {fs : List Fld} (hx : ∀ x ∈ fs, FldOk x) (hi : insAll fs [] [] = none) (N : Nat) :
  ∃ k, oFails (toksOf N (objSp fs false)) k [] 1 ∧ tk (toksOf N (objSp fs false)) 1 6 [62] = false := by
 have hS := (spAt_toks N [] (objSp fs false)).tail (x := ⟨false, 6, [60]⟩) (b := fldsSp fs)
 obtain ⟨K, h⟩ := flds_fail _ fs [] [] 1 hx hi hS
 refine ⟨K, h K (Nat.le_refl _), ?_⟩
 cases fs with
 | nil => unfold insAll at hi; cases hi
 | cons x r =>
  have h : SpAt (toksOf N (objSp (x :: r) false)) 1 (⟨true, 1, x.n⟩ :: (⟨true, 6, [58]⟩ :: (x.f true ++ [⟨true, 6, [59]⟩]) ++ fldsSp r)) := hS
  rw [h.tk]; rfl
theorem obj_first (N : Nat) (fs : List Fld) : ∃ q, (toksOf N (objSp fs false))[0]? = some q ∧ q.kind = 6 ∧ q.s = [60] := by
 obtain ⟨t, h1, h2, h3⟩ := toksOf_at N (objSp fs false) 0 ⟨false, 6, [60]⟩ rfl
 exact ⟨t, h1, h2, h3⟩
def objTy (t : Ty) (L : List (List UInt8)) : Ty := .mk 3 [] (List.replicate L.length t) L true
theorem ris_rising {L : List (List UInt8)} (hr : RisL L) (hn : ∀ s ∈ L, isName ⟨s.toArray⟩ = true) : rising (byteStrs L) = true := by
 unfold rising
 rw [List.all_eq_true]
 intro j hj
 have hj' : j < L.length := by simpa [byteStrs] using hj
 have e : ∀ i, i < L.length → (byteStrs L).getD i ByteArray.empty = ⟨(L.getD i []).toArray⟩ := fun i hi => by
  unfold byteStrs
  simp [List.getD_eq_getElem?_getD, List.getElem?_map, List.getElem?_eq_getElem hi]
 have g : ∀ i (hi : i < L.length), L.getD i [] = L[i] := fun i hi => by simp [List.getD_eq_getElem?_getD, List.getElem?_eq_getElem hi]
 unfold labelOk
 rw [e j hj', Bool.and_eq_true]
 refine ⟨hn _ (by rw [g j hj']; exact List.getElem_mem hj'), ?_⟩
 by_cases h0 : j = 0
 ·rw [h0]; rfl
 ·rw [e (j - 1) (by omega), ba_list, ba_list, less_is, g j hj', g (j - 1) (by omega), List.pairwise_iff_getElem.1 hr (j - 1) j (by omega) hj' (by omega), Bool.or_true]
theorem walks_rep (t : Ty) (h : 0 ≤ walkT t) : ∀ (n : Nat) (d : Int), 0 ≤ d → 0 ≤ walkTs (List.replicate n t) d
 | 0, d, hd => by unfold walkTs; exact hd
 | n + 1, d, hd => by
  rw [List.replicate_succ]
  unfold walkTs
  rw [if_neg (by omega)]
  exact walks_rep t h n _ (by omega)
theorem objTy_walk {t : Ty} {L : List (List UInt8)} (h : 0 ≤ walkT t) (hr : RisL L) (hn : ∀ s ∈ L, isName ⟨s.toArray⟩ = true) : 0 ≤ walkT (objTy t L) := by
 have h1 := walks_rep t h L.length 0 (by omega)
 have ho : ownT 3 [] (List.replicate L.length t).length L true = true := by
  unfold ownT
  rw [if_pos rfl, List.length_replicate, ris_rising hr hn]
  simp
 unfold objTy walkT
 rw [if_pos ho, if_neg (by omega)]
 omega
theorem weights_rep (t : Ty) : ∀ n : Nat, weights (List.replicate n t) = n * t.weight
 | 0 => by rw [List.replicate_zero, weights_nil, Nat.zero_mul]
 | n + 1 => by rw [List.replicate_succ, weights_cons, weights_rep t n, Nat.add_mul, Nat.one_mul, Nat.add_comm]
theorem sum_le (L : List (List UInt8)) (h : ∀ s ∈ L, s.length ≤ 100) : (L.map fun x => x.length + 1).sum ≤ L.length * 101 := by
 induction L with
 | nil => simp
 | cons s r ih =>
  have h1 := ih (fun x hx => h x (List.mem_cons_of_mem _ hx))
  have h2 := h s (List.mem_cons_self ..)
  rw [List.map_cons, List.sum_cons, List.length_cons, Nat.add_mul, Nat.one_mul]
  omega
theorem objTy_weight (t : Ty) (L : List (List UInt8)) (h : ∀ s ∈ L, s.length ≤ 100) : (objTy t L).weight ≤ 1 + L.length * 101 + L.length * t.weight := by
 unfold objTy
 rw [weight_mk, weights_rep]
 have := sum_le L h
 simp only [List.length_nil]
 omega
end Go.Tre
namespace Go.Proofs.YtbafalfmgibnfaaGreatDoor.asw
open Go.RowKit Go.Extern.Stop Go.Stop Go.Extern Go.Tre
open Go.Proofs.YtbafalfmgibnfaaGreatDoor.errs (methodUnwrap noUnwrap hasUnwraps unwrap)
open Go.Proofs.YtbafalfmgibnfaaGreatDoor.typ (vForm vJoin vWrong)
theorem jIsF (v : Value) (xT : TypeId) (w : World) : (Instr.typeAssert (.iface 156 v) xT 164 true).run Tryz.prog w = .ok (.tuple #[.nilIface, .bool false]) w := run_typeAssert_lacksB Tryz.underlying164 (by kernel_rfl) (by kernel_rfl) v xT w
theorem eqJF (v : Value) (w : World) : (binOp .eql 59 (.iface 156 v) vForm).run Tryz.prog w = .ok (.bool false) w := by kernel_rfl
theorem eqFF (w : World) : (binOp .eql 59 vForm vForm).run Tryz.prog w = .ok (.bool true) w := by kernel_rfl
theorem typeOfFF (w : World) : (ReflectliteType.typeOf #[vForm]).run Tryz.prog w = .ok (.iface 129 (.agg #[.pointer (some (rtA 111))])) w := by kernel_rfl
theorem compF (w : World) : ((ReflectliteType.method fun t => do Rtype.noPackHeld "Comparable" t; (fun a => Value.bool a.comparable) <$> typeInfo t) #[.agg #[.pointer (some (rtA 111))]]).run Tryz.prog w = .ok (.bool true) w := by kernel_rfl
theorem methodComparableF (n : Nat) (h : Value) (w : World) : (Go.method (n + 1) 129 (.agg #[h]) "Comparable").run Tryz.prog w = .ok (161, .agg #[h]) w := by kernel_rfl
set_option maxRecDepth 100000 in
set_option maxHeartbeats 4000000 in
theorem is_self (w : World) : Calls Tryz.prog 59 #[vForm, vForm, .bool true] w fun e w' => e = .returned (.bool true) ∧ w' = w := by
 have he := eqFF w
 unfold vForm at *
 go_enter Tryz.func59, Tryz.ntmps59
 go_wp2_with fail
 refine wp_loop_rounds 1 ?_
 rw [rounds_succ]
 go_wp2_with fail
 go_ret
 exact ⟨rfl, rfl⟩
set_option maxRecDepth 100000 in
set_option maxHeartbeats 4000000 in
theorem is_joinF (q r c : Nat) (w : World) (hq : w.cell? ⟨q, 0, none⟩ = some (.slice (some ⟨r, 0, none⟩) 2 c)) (h0 : w.cell? ⟨r, 0, none⟩ = some vForm) :
  Calls Tryz.prog 59 #[vJoin q, vForm, .bool true] w fun e w' => e = .returned (.bool true) ∧ w' = w := by
 have he := eqJF (.pointer (some ⟨q, 0, none⟩)) w
 have mU := methodUnwrap
 have na := jIsF
 have nu := noUnwrap
 have nh := hasUnwraps
 have HS := Tre.hid (is_self w)
 unfold vForm vJoin at *
 go_enter Tryz.func59, Tryz.ntmps59
 go_wp2_with fail
 refine wp_loop_rounds 1 ?_
 rw [rounds_succ]
 go_wp2_with fail
 refine (unwrap q _ _ hq).mono ?_
 rintro e w' ⟨rfl, rfl⟩
 go_wp2_with fail
 refine wp_loop_rounds 3 ?_
 rw [rounds_succ]
 go_wp2_with fail
 refine HS.out.mono ?_
 rintro e w' ⟨rfl, rfl⟩
 go_wp2_with fail
 go_ret
 exact ⟨rfl, rfl⟩
set_option maxRecDepth 100000 in
set_option maxHeartbeats 4000000 in
theorem Is_fail (w0 : World) (q pl : Nat) (w : World) (rs : List Res) (hF : typ.FailMem w0 w q pl rs) : Calls Tryz.prog 41 #[vJoin q, vForm] w fun e w' => e = .returned (.bool true) ∧ w' = w := by
 obtain ⟨r, c, bw, M⟩ := hF
 have HH := Tre.hid (is_joinF q r c w (M.cell 0 rfl 0 rfl) (M.cellAt 1 rfl 0 rfl))
 have h10 := @run_callFunc_extern Tryz.prog 56 _ ReflectliteType.typeOf Tryz.func56 (by kernel_rfl) (by kernel_rfl) (by kernel_rfl) (by kernel_rfl)
 have h11 := @run_callFunc_extern Tryz.prog 161 _ (ReflectliteType.method fun t => do Rtype.noPackHeld "Comparable" t; pure (.bool (← typeInfo t).comparable)) Tryz.func161 (by kernel_rfl) (by kernel_rfl) (by kernel_rfl) (by kernel_rfl)
 have hM := methodComparableF
 have hT := typeOfFF
 have hC := compF
 have hn : (binOp .eql 59 (vJoin q) .nilIface).run Tryz.prog w = .ok (.bool false) w := by
  have h : ∀ d : Nat, (Op.equalIn (d + 1) 59 (vJoin q) .nilIface).run Tryz.prog w = .ok false w := fun d => by
   simp [Op.equalIn, run_underlying Tryz.underlying59]
  simp only [binOp]
  simp [Op.equal, Op.maxDepth, h 9999]
 have hm : (binOp .eql 59 vForm .nilIface).run Tryz.prog w = .ok (.bool false) w := by kernel_rfl
 clear M
 unfold vForm vJoin at *
 go_enter Tryz.func41, Tryz.ntmps41
 go_wp2_with fail
 refine HH.out.mono ?_
 rintro e w' ⟨rfl, rfl⟩
 go_wp2_with fail
 go_ret
 exact ⟨rfl, rfl⟩
end Go.Proofs.YtbafalfmgibnfaaGreatDoor.asw
namespace Go.Proofs.YtbafalfmgibnfaaGreatDoor.typ
open Go.RowKit Go.Tre
theorem hasErr (v : Value) (xT : TypeId) (w : World) : (Instr.typeAssert (.iface 156 v) xT 59 true).run Tryz.prog w = .ok (.tuple #[.iface 156 v, .bool true]) w := run_typeAssert_hasB Tryz.underlying59 (by kernel_rfl) v xT w
set_option maxRecDepth 100000 in
set_option maxHeartbeats 1000000 in
theorem run1p (w0 : World) (b q pl : Nat) (w : World) (rs : List Res) (hF : FailMem w0 w q pl rs) (hc : w.cell? ⟨b, 0, none⟩ = some .nilIface) (hz : w.frozen? ⟨b, 0, none⟩ = false) :
  CallsD Tryz.prog 40 #[.pointer (some ⟨b, 0, none⟩)] (.panicking [{ v := vJoin q, recovered := false }]) w fun e u' w' => e = .returned (.tuple #[]) ∧ u' = .panicking [{ v := vJoin q, recovered := true }] ∧ w' = w.setCell ⟨b, 0, none⟩ (vJoin q) := by
 have HI := Tre.hid (asw.Is_fail w0 q pl w rs hF)
 have hta := hasErr
 clear hF
 unfold vJoin vForm at *
 refine callsD_of_wpS Tryz.func40 rfl fun c₀ cs hu => ?_
 apply wpS_seq
 apply wpS_region
 simp [wpOpsS, go_sem, recoverD, hu, Tryz.ntmps40, Exit.thenS]
 refine wpS_of_wp ?_
 rw [show (#[Value.pointer (some ⟨b, 0, none⟩)] ++ (Array.replicate 16 undef).setIfInBounds 3 (.iface 156 (.pointer (some ⟨q, 0, none⟩))) : Array Value) = #[Value.pointer (some ⟨b, 0, none⟩), undef, undef, undef, .iface 156 (.pointer (some ⟨q, 0, none⟩)), undef, undef, undef, undef, undef, undef, undef, undef, undef, undef, undef, undef] from rfl]
 generalize hQ : (fun (e : Exit) (a' : Act) (w' : World) => bodyPostS _ _ _ _ _ _ _ _ _) = Q
 go_wp2_with fail
 refine HI.out.mono ?_
 rintro e w' ⟨rfl, rfl⟩
 go_wp2_with fail
 subst hQ
 cases c₀
 simp_all [bodyPostS, results, Tryz.results40]
set_option maxRecDepth 100000 in
set_option maxHeartbeats 8000000 in
theorem run_fail (w0 : World) (p : Value) (r0 : Res) (rs : List Res) (w : World) (hM : Mem w0 w (r0 :: rs))
  (H : ∀ W, Mem w0 W (cellsR (w.heap.size + 1) 59 #[.nilIface] :: cellsR w.heap.size 28 #[.int .i64 0, .string ⟨#[]⟩, .slice none 0 0, .slice none 0 0, .bool false] :: r0 :: rs) → W = (w.alloc (.cells #[.int .i64 0, .string ⟨#[]⟩, .slice none 0 0, .slice none 0 0, .bool false] 28)).alloc (.cells #[.nilIface] 59) → Calls Tryz.prog 42 #[p, .int .i64 0] W (FailPost w0 (cellsR (w.heap.size + 1) 59 #[.nilIface] :: cellsR w.heap.size 28 #[.int .i64 0, .string ⟨#[]⟩, .slice none 0 0, .slice none 0 0, .bool false] :: rs))) :
  Calls Tryz.prog 21 #[p] w fun e w' => ∃ q pl : Nat, e = .returned (.tuple #[.agg #[.int .i64 0, .string ⟨#[]⟩, .slice none 0 0, .slice none 0 0, .bool false], vJoin q]) ∧ FailMem w0 w' q pl rs := by
 have M0 := (hM.allocR #[.int .i64 0, .string ⟨#[]⟩, .slice none 0 0, .slice none 0 0, .bool false] 28).allocR #[.nilIface] 59
 rw [World.size_alloc] at M0
 have HA := Tre.hid (H _ M0 rfl)
 have hmf' := hmf
 clear H hM M0
 go_enter_defers Tryz.func21, Tryz.ntmps21
 go_wp2_with fail
 refine HA.out.mono ?_
 rintro e w1 ⟨q, pl, rfl, hF⟩
 generalize heb : w.heap.size + 1 = eb at *
 generalize hrb : w.heap.size = rb at *
 clear heb hrb HA
 have HF := Tre.hid hF
 clear hF
 go_wp2_with fail
 obtain ⟨r, c, bw, M1⟩ := HF.out
 refine leaves_cons (f := 40) (args := #[.pointer (some ⟨eb, 0, none⟩)]) (by simp) (by simp [go_sem]) ?_
 refine (run1p w0 eb q pl w1 _ HF.out (M1.cell 3 rfl 0 rfl) (M1.free 3 rfl 0)).mono ?_
 rintro e u' w'' ⟨rfl, rfl, rfl⟩
 have M2 := M1.setCell 3 rfl 0 (vJoin q)
 have z5 : (w1.setCell ⟨eb, 0, none⟩ (vJoin q)).cell? ⟨eb, 0, none⟩ = some (vJoin q) := M2.cell 3 rfl 0 rfl
 have z0 : (w1.setCell ⟨eb, 0, none⟩ (vJoin q)).cell? ⟨rb, 0, none⟩ = some (.int .i64 0) := M2.cell 4 rfl 0 rfl
 have z1 : (w1.setCell ⟨eb, 0, none⟩ (vJoin q)).cell? ⟨rb, 1, none⟩ = some (.string ⟨#[]⟩) := M2.cell 4 rfl 1 rfl
 have z2 : (w1.setCell ⟨eb, 0, none⟩ (vJoin q)).cell? ⟨rb, 2, none⟩ = some (.slice none 0 0) := M2.cell 4 rfl 2 rfl
 have z3 : (w1.setCell ⟨eb, 0, none⟩ (vJoin q)).cell? ⟨rb, 3, none⟩ = some (.slice none 0 0) := M2.cell 4 rfl 3 rfl
 have z4 : (w1.setCell ⟨eb, 0, none⟩ (vJoin q)).cell? ⟨rb, 4, none⟩ = some (.bool false) := M2.cell 4 rfl 4 rfl
 have HM2 := Tre.hid M2
 generalize w1.setCell ⟨eb, 0, none⟩ (vJoin q) = wz at *
 clear M1 M2
 simp [Leaves, settle, results, Tryz.results21, go_sem, z0, z1, z2, z3, z4, z5]
 exact ⟨pl, r, c, bw, (HM2.out.del 3).del 3⟩
end Go.Proofs.YtbafalfmgibnfaaGreatDoor.typ
