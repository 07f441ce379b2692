/- trefoilref02.SameType: at types that are the same it is true. A search among labels that rise. Layer 3, plain: a type's tokens are parsed as it. Layer 3, plain: types in brackets, arrows and stars between: what is parsed. -/
import Derived.Test.YtbafalfmgibnfaaGreatDoorB22
import Derived.Test.YtbafalfmgibnfaaGreatDoorB13
import Derived.Test.YtbafalfmgibnfaaGreatDoorShelf
import Derived.Sort.Walk0
import Derived.Test.YtbafalfmgibnfaaGreatDoorB01
import Derived.Test.YtbafalfmgibnfaaGreatDoorB18
set_option linter.unusedVariables false
namespace Go.Tre
theorem labels_weight (t : Ty) : t.labels.length + t.args.length ≤ t.weight := by
 cases t with
 | mk k s args labels o =>
  have h1 := weights_len args
  have h2 : ∀ l : List (List UInt8), l.length ≤ (l.map fun x => x.length + 1).sum := fun l => by
   induction l with
   | nil => simp
   | cons x r ih => simp only [List.map_cons, List.sum_cons, List.length_cons]; omega
  have h3 := h2 labels
  rw [Ty.weight]
  show labels.length + args.length ≤ _
  omega
theorem part_weight {t c : Ty} (h : c ∈ t.args) : c.weight < t.weight := by
 cases t with
 | mk k s args labels o =>
  obtain ⟨i, hi⟩ := List.getElem?_of_mem h
  have h1 : c.weight ≤ weights args := weights_at hi
  rw [Ty.weight]
  omega
end Go.Tre
namespace Go.Proofs.YtbafalfmgibnfaaGreatDoor.typ
open Go.RowKit Go.Maps Go.Tre lex
set_option maxRecDepth 100000 in
set_option maxHeartbeats 4000000 in
theorem same_step (t u : Ty) (v v' : Value) (w : World) (hw : t.weight ≤ 8388608) (hT : TyRd w t v) (hU : TyRd w u v')
  (ih : ∀ (c d : Ty) (x y : Value) (W : World), c ∈ t.args → TyRd W c x → TyRd W d y → STy c d x y W) : STy t u v v' w := by
 obtain ⟨aa, ca, al, cl, rfl⟩ := hT.agg
 obtain ⟨ab, cb, bl, dl, rfl⟩ := hU.agg
 obtain ⟨pa, pl⟩ := tyRd_parts hT
 obtain ⟨qa, ql⟩ := tyRd_parts hU
 have hlw := labels_weight t
 have M := ((Mem.nil w).allocR (fiveV t aa al ca cl) 28).allocR (fiveV u ab bl cb dl) 28
 rw [World.size_alloc] at M
 have x0 := M.cell 1 rfl 0 rfl
 have x1 := M.cell 1 rfl 1 rfl
 have x2 := M.cell 1 rfl 2 rfl
 have x3 := M.cell 1 rfl 3 rfl
 have x4 := M.cell 1 rfl 4 rfl
 have y0 := M.cell 0 rfl 0 rfl
 have y1 := M.cell 0 rfl 1 rfl
 have y2 := M.cell 0 rfl 2 rfl
 have y3 := M.cell 0 rfl 3 rfl
 have y4 := M.cell 0 rfl 4 rfl
 have HL := Tre.hid (names_any al bl cl dl t.labels u.labels _ (pl.below M.below) (ql.below M.below) (by omega))
 have HA : Hid (∀ W, Below w.heap.size w W → Calls Tryz.prog 23 #[.slice aa t.args.length ca, .slice ab u.args.length cb] W fun e w' => ∃ r, e = .returned (.bool r) ∧ (t.args = u.args → r = true) ∧ Below W.heap.size W w') := fun W hW =>
  types_any aa ab ca cb t.args u.args W (fun i c hc => by
   obtain ⟨b, off, ax, cx, bx, dx, e, hr, hk⟩ := pa i c hc
   exact ⟨b, off, ax, cx, bx, dx, e, hr.after hW, fun j z hz => cell_below hW (hk j z hz)⟩) (fun i c hc => by
   obtain ⟨b, off, ax, cx, bx, dx, e, hr, hk⟩ := qa i c hc
   exact ⟨b, off, ax, cx, bx, dx, e, hr.after hW, fun j z hz => cell_below hW (hk j z hz)⟩) (by omega) ih
 have HM := Tre.hid M
 have HB := Tre.hid M.below
 unfold STy
 have HEQ : Hid (t = u → t.kind = u.kind ∧ t.s = u.s ∧ t.opn = u.opn ∧ t.labels = u.labels ∧ t.args = u.args) := fun e => by subst e; exact ⟨rfl, rfl, rfl, rfl, rfl⟩
 obtain ⟨TT, hTT⟩ : ∃ P : Prop, (t = u) = P := ⟨_, rfl⟩
 rw [hTT] at HEQ ⊢
 unfold fiveV at *
 clear hT hU pa pl qa ql M ih hw hlw hTT
 generalize t.kind = tk at *
 generalize u.kind = uk at *
 generalize t.s = ts at *
 generalize u.s = us at *
 generalize t.opn = oo at *
 generalize u.opn = op at *
 by_cases hk : tk = uk
 rotate_left
 ·have e1 : ((tk : Int) == (uk : Int)) = false := by
   rw [beq_eq_false_iff_ne]; omega
  have e2 : ¬ ((tk : Int) = (uk : Int)) := by omega
  have HN := Tre.hid hk
  clear hk
  go_enter Tryz.func13, Tryz.ntmps13
  go_wp2_with fail
  go_ret
  exact yesPost (fun e => absurd (HEQ.out e).1 HN.out) HB.out
 subst hk
 by_cases hs : ts = us
 rotate_left
 ·have e1 : (ts == us) = false := by simpa using hs
  have e2 : (ts = us) = False := by simpa using hs
  have HN := Tre.hid hs
  clear hs
  go_enter Tryz.func13, Tryz.ntmps13
  go_wp2_with fail
  go_ret
  exact yesPost (fun e => absurd (HEQ.out e).2.1 HN.out) HB.out
 subst hs
 by_cases ho : oo = op
 rotate_left
 ·have e1 : (oo == op) = false := by simpa using ho
  have HN := Tre.hid ho
  have hou : op = !oo := by cases oo <;> cases op <;> simp_all
  subst hou
  clear ho
  cases oo with
  | true =>
   go_enter Tryz.func13, Tryz.ntmps13
   go_wp2_with fail
   go_ret
   exact yesPost (fun e => absurd (HEQ.out e).2.2.1 HN.out) HB.out
  | false =>
   go_enter Tryz.func13, Tryz.ntmps13
   go_wp2_with fail
   go_ret
   exact yesPost (fun e => absurd (HEQ.out e).2.2.1 HN.out) HB.out
 subst ho
 go_enter Tryz.func13, Tryz.ntmps13
 go_wp2_with fail
 refine HL.out.mono ?_
 rintro e w1 ⟨r1, rfl, h1, b1⟩
 have H1 := Tre.hid h1
 have M1 := HM.out.quiet b1
 clear x0 x1 x2 x3 x4 y0 y1 y2 y3 y4 h1 HL
 cases r1 with
 | false =>
  have HB1 := Tre.hid M1.below
  clear M1 b1
  go_wp2_with fail
  go_ret
  refine yesPost (fun e => ?_) HB1.out
  have := H1.out (HEQ.out e).2.2.2.1
  cases this
 | true =>
  have x2 := M1.cell 1 rfl 2 rfl
  have y2 := M1.cell 0 rfl 2 rfl
  have HB1 := Tre.hid M1.below
  have HAA := Tre.hid (HA.out w1 M1.below)
  clear M1 b1 HA
  go_wp2_with fail
  refine HAA.out.mono ?_
  rintro e w2 ⟨r2, rfl, h2, b2⟩
  have H2 := Tre.hid h2
  have HB2 := Tre.hid (HB1.out.trans (b2.mono HB1.out.size))
  clear x2 y2 h2 HAA b2
  cases r2 with
  | false =>
   go_wp2_with fail
   go_ret
   refine yesPost (fun e => ?_) HB2.out
   have := H2.out (HEQ.out e).2.2.2.2
   cases this
  | true =>
   go_wp2_with fail
   go_ret
   exact yesPost (fun _ => rfl) HB2.out
theorem same_any (N : Nat) : ∀ (t u : Ty) (v v' : Value) (w : World), t.weight ≤ N → N ≤ 8388608 → TyRd w t v → TyRd w u v' → STy t u v v' w := by
 induction N with
 | zero => intro t u v v' w h; have := weight_pos t; omega
 | succ N ih =>
  intro t u v v' w h hN hT hU
  exact same_step t u v v' w (by omega) hT hU fun c d x y W hc hx hy => ih c d x y W (by have := part_weight hc; omega) (by omega) hx hy
end Go.Proofs.YtbafalfmgibnfaaGreatDoor.typ
namespace Go.Tre
open Go.RowKit
theorem less_trans {a b c : List UInt8} (h1 : Op.bytesLess a b = true) (h2 : Op.bytesLess b c = true) : Op.bytesLess a c = true := by
 rw [Go.Proofs.bytesLess_eq, decide_eq_true_iff] at *
 exact List.lt_trans h1 h2
theorem rising_lt {l : List ByteArray} (h : rising l = true) : ∀ (d i : Nat), i + d + 1 < l.length → Op.bytesLess (l.getD i ByteArray.empty).toList (l.getD (i + d + 1) ByteArray.empty).toList = true := by
 have one : ∀ i, i + 1 < l.length → Op.bytesLess (l.getD i ByteArray.empty).toList (l.getD (i + 1) ByteArray.empty).toList = true := fun i hi => by
  unfold rising at h
  have := (List.all_eq_true.1 h) (i + 1) (List.mem_range.2 hi)
  unfold labelOk at this
  rw [Bool.and_eq_true, Bool.or_eq_true] at this
  rcases this.2 with h2 | h2
  ·simp at h2
  ·simpa using h2
 intro d
 induction d with
 | zero => intro i hi; exact one i (by omega)
 | succ d ih => intro i hi; exact less_trans (ih i (by omega)) (one (i + d + 1) (by omega))
end Go.Tre
namespace Go.Proofs.YtbafalfmgibnfaaGreatDoor.gr
open Go.RowKit Go.Shelf Go.Maps Go.Tre
end Go.Proofs.YtbafalfmgibnfaaGreatDoor.gr
namespace Go.Tre
def SpAt (l : List Tok) (i : Nat) (xs : List Sp) : Prop := ∀ j x, xs[j]? = some x → ∃ t, l[i + j]? = some t ∧ t.kind = x.kind ∧ t.s = x.s
theorem SpAt.left {l : List Tok} {i : Nat} {a b : List Sp} (h : SpAt l i (a ++ b)) : SpAt l i a := fun j x hx => h j x (by
 rw [List.getElem?_append_left (List.getElem?_eq_some_iff.1 hx).1]; exact hx)
theorem SpAt.right {l : List Tok} {i : Nat} {a b : List Sp} (h : SpAt l i (a ++ b)) : SpAt l (i + a.length) b := fun j x hx => by
 obtain ⟨t, h1, h2⟩ := h (a.length + j) x (by rw [List.getElem?_append_right (by omega), Nat.add_sub_cancel_left]; exact hx)
 exact ⟨t, by rw [Nat.add_assoc]; exact h1, h2⟩
theorem SpAt.tail {l : List Tok} {i : Nat} {x : Sp} {b : List Sp} (h : SpAt l i (x :: b)) : SpAt l (i + 1) b := SpAt.right (a := [x]) h
theorem SpAt.tk {l : List Tok} {i : Nat} {x : Sp} {b : List Sp} (h : SpAt l i (x :: b)) (k : Nat) (s : List UInt8) : tk l i k s = (decide (x.kind = k) && decide (x.s = s)) := by
 obtain ⟨t, h1, h2, h3⟩ := h 0 x rfl
 rw [Nat.add_zero] at h1
 unfold Go.Tre.tk
 rw [h1, ← h2, ← h3]
theorem SpAt.wd {l : List Tok} {i : Nat} {x : Sp} {b : List Sp} (h : SpAt l i (x :: b)) (k : Nat) : wd l i k = if x.kind = k then some x.s else none := by
 obtain ⟨t, h1, h2, h3⟩ := h 0 x rfl
 rw [Nat.add_zero] at h1
 unfold Go.Tre.wd
 rw [h1, ← h2, ← h3]
theorem spAt_toks (N : Nat) (a b : List Sp) : SpAt (toksOf N (a ++ b)) a.length b := fun j x hx => toksOf_at N (a ++ b) (a.length + j) x (by
 rw [List.getElem?_append_right (by omega), Nat.add_sub_cancel_left]; exact hx)
structure Stop (l : List Tok) (lev i : Nat) : Prop where
 star : lev ≤ 2 → tk l i 6 [42] = false
 arrow : lev ≤ 1 → tk l i 6 [45, 62] = false
 bound : lev = 0 → tk l i 2 [97, 115] = false
theorem Stop.up {l : List Tok} {lev i : Nat} (h : Stop l lev i) (m : Nat) (hm : lev ≤ m) : Stop l m i := ⟨fun hh => h.star (by omega), fun hh => h.arrow (by omega), fun hh => h.bound (by omega)⟩
def Prs (lev : Nat) (f : Bool → List Sp) (t : Ty) : Prop := ∀ l i g, SpAt l i (f g) → Stop l lev (i + (f g).length) → ∃ K, ∀ k, K ≤ k → pLev l k lev i = some (t, i + (f g).length)
def PrA (f : Bool → List Sp) (t : Ty) : Prop := ∀ l i g, SpAt l i (f g) → Stop l 1 (i + (f g).length) → ∃ K D b m, (∀ k, K ≤ k → pLev l k 1 i = some (b, m)) ∧ ∀ k, pAs l (k + D) b m = pAs l k t (i + (f g).length)
theorem lev0 (l : List Tok) (k i : Nat) : pLev l (k + 1) 0 i = (pLev l k 1 i).bind fun r => pAs l k r.1 r.2 := by rw [pLev, if_pos rfl]
theorem levB (l : List Tok) (k n i : Nat) (h : n = 1 ∨ n = 2) : pLev l (k + 1) n i = (pLev l k (n + 1) i).bind fun r => if tk l r.2 6 (opS n) then (pLev l k n (r.2 + 1)).map fun q => (.mk 2 (opS n) [r.1, q.1] [] false, q.2) else some r := by
 rw [pLev, if_neg (by omega), if_pos h]
theorem lev3 (l : List Tok) (k i : Nat) : pLev l (k + 1) 3 i = match wd l i 5 with
   | some s => some (.mk 1 s [] [] false, i + 1)
   | none => match wd l i 1 with
    | some s => if basics.contains s then some (.mk 2 s [] [] false, i + 1) else none
    | none =>
     if tk l i 6 [40] then (pLev l k 0 (i + 1)).bind fun r => if tk l r.2 6 [41] then some (r.1, r.2 + 1) else none
     else if tk l i 6 [60] then (if tk l (i + 1) 6 [62] then some (.mk 3 [] [] [] false, i + 2) else pObj l k [] [] (i + 1))
     else none := by
 rw [pLev, if_neg (by omega), if_neg (by omega)]
 rfl
theorem asE (l : List Tok) (k : Nat) (t : Ty) (i : Nat) : pAs l (k + 1) t i = if tk l i 2 [97, 115] then (wd l (i + 1) 5).bind fun s => pAs l k (.mk 4 s [t] [] false) (i + 2) else some (t, i) := by rw [pAs]
theorem objE (l : List Tok) (k : Nat) (labels : List (List UInt8)) (args : List Ty) (i : Nat) : pObj l (k + 1) labels args i =
  if tk l i 6 [46, 46] then (if tk l (i + 1) 6 [62] then some (.mk 3 [] args labels true, i + 2) else none)
  else (wd l i 1).bind fun s => if tk l (i + 1) 6 [58] then (pLev l k 1 (i + 2)).bind fun r =>
   if labels.all (lessS · s) = false then none
   else if tk l r.2 6 [62] then some (.mk 3 [] (args ++ [r.1]) (labels ++ [s]) false, r.2 + 1)
   else if tk l r.2 6 [59] then pObj l k (labels ++ [s]) (args ++ [r.1]) (r.2 + 1)
   else none
  else none := by rw [pObj]
theorem prs_down {f : Bool → List Sp} {t : Ty} {n : Nat} (hn : n = 1 ∨ n = 2) (h : Prs (n + 1) f t) : Prs n f t := fun l i g hS hT => by
 obtain ⟨K, hK⟩ := h l i g hS (hT.up _ (by omega))
 refine ⟨K + 1, fun k hk => ?_⟩
 obtain ⟨k, rfl⟩ : ∃ k', k = k' + 1 := ⟨k - 1, by omega⟩
 rw [levB l k n i hn, hK k (by omega)]
 have h0 : tk l (i + (f g).length) 6 (opS n) = false := by
  rcases hn with rfl | rfl
  ·exact hT.arrow (by omega)
  ·exact hT.star (by omega)
 simp only [Option.bind_some, h0, Bool.false_eq_true, if_false]
theorem prA_of {f : Bool → List Sp} {t : Ty} (h : Prs 1 f t) : PrA f t := fun l i g hS hT => by
 obtain ⟨K, hK⟩ := h l i g hS hT
 exact ⟨K, 0, t, i + (f g).length, hK, fun k => rfl⟩
theorem prs0_of {f : Bool → List Sp} {t : Ty} (h : PrA f t) : Prs 0 f t := fun l i g hS hT => by
 obtain ⟨K, D, b, m, h1, h2⟩ := h l i g hS (hT.up 1 (by omega))
 refine ⟨K + D + 2, fun k hk => ?_⟩
 obtain ⟨k, rfl⟩ : ∃ k', k = k' + 1 + D + 1 := ⟨k - D - 2, by omega⟩
 rw [lev0, h1 _ (by omega)]
 simp only [Option.bind_some]
 rw [h2, asE, hT.bound rfl]
 rfl
theorem prs_bracket {f : Bool → List Sp} {t : Ty} (h : Prs 0 f t) : Prs 3 (fun g => ⟨g, 6, [40]⟩ :: (f false ++ [⟨false, 6, [41]⟩])) t := fun l i g hS _ => by
 have h1 := hS.tail.left
 have h2 := hS.tail.right
 obtain ⟨K, hK⟩ := h l (i + 1) false h1 ⟨fun _ => by rw [h2.tk]; rfl, fun _ => by rw [h2.tk]; rfl, fun _ => by rw [h2.tk]; rfl⟩
 refine ⟨K + 1, fun k hk => ?_⟩
 obtain ⟨k, rfl⟩ : ∃ k', k = k' + 1 := ⟨k - 1, by omega⟩
 rw [lev3, hS.wd, hS.wd, hS.tk, hK k (by omega)]
 simp only [reduceIte, decide_true, Bool.and_self, Option.bind_some, show ¬ ((6 : Nat) = 5) by decide, show ¬ ((6 : Nat) = 1) by decide]
 rw [h2.tk]
 simp only [decide_true, Bool.and_self, reduceIte, List.length_cons, List.length_append, List.length_nil]
 rw [show i + 1 + (f false).length + 1 = i + ((f false).length + (0 + 1) + 1) by omega]
theorem prs_wrap {f : Bool → List Sp} {t : Ty} {own : Nat} (h0 : PrA f t) (h : ∀ lev, 1 ≤ lev → lev ≤ own → lev ≤ 3 → Prs lev f t) : ∀ lev, lev ≤ 3 → Prs lev (spWrap own f lev) t := by
 intro lev hl
 by_cases ho : own < lev
 ·have e : spWrap own f lev = fun g => ⟨g, 6, [40]⟩ :: (f false ++ [⟨false, 6, [41]⟩]) := by funext g; unfold spWrap; rw [if_pos ho]
  rw [e]
  have h3 := prs_bracket (prs0_of h0)
  have h2 := prs_down (n := 2) (.inr rfl) h3
  have h1 := prs_down (n := 1) (.inl rfl) h2
  match lev, ho, hl with
  | 1, _, _ => exact h1
  | 2, _, _ => exact h2
  | 3, _, _ => exact h3
 ·have e : spWrap own f lev = f := by funext g; unfold spWrap; rw [if_neg ho]
  rw [e]
  by_cases hz : lev = 0
  ·subst hz; exact prs0_of h0
  ·exact h lev (by omega) (by omega) hl
def Parsed (t : Ty) : Prop := (∀ lev, lev ≤ 3 → Prs lev (spT t lev) t) ∧ PrA (spT t 0) t
theorem parsed_own {k : Nat} {s : List UInt8} {args : List Ty} {labels : List (List UInt8)} {o : Bool} (h0 : PrA (spOwn k s (spTs args) labels o) (.mk k s args labels o)) (h : ∀ lev, 1 ≤ lev → lev ≤ ownLev k s → lev ≤ 3 → Prs lev (spOwn k s (spTs args) labels o) (.mk k s args labels o)) : Parsed (.mk k s args labels o) := by
 refine ⟨fun lev hl => ?_, ?_⟩
 ·rw [spT]; exact prs_wrap h0 h lev hl
 ·rw [spT]
  have e : spWrap (ownLev k s) (spOwn k s (spTs args) labels o) 0 = spOwn k s (spTs args) labels o := by funext g; unfold spWrap; rw [if_neg (by omega)]
  rw [e]; exact h0
theorem parsed3 {k : Nat} {s : List UInt8} {args : List Ty} {labels : List (List UInt8)} {o : Bool} (h3 : Prs 3 (spOwn k s (spTs args) labels o) (.mk k s args labels o)) : Parsed (.mk k s args labels o) := by
 have h2 := prs_down (n := 2) (.inr rfl) h3
 have h1 := prs_down (n := 1) (.inl rfl) h2
 refine parsed_own (prA_of h1) fun lev a _ c => ?_
 match lev, a, c with
 | 1, _, _ => exact h1
 | 2, _, _ => exact h2
 | 3, _, _ => exact h3
theorem rising_pwT {l : List ByteArray} (h : rising l = true) : l.Pairwise fun x y => Op.bytesLess x.toList y.toList = true := by
 rw [List.pairwise_iff_getElem]
 intro i j hi hj hij
 have := rising_lt h (j - i - 1) i (by omega)
 rw [show i + (j - i - 1) + 1 = j by omega, List.getD_eq_getElem?_getD, List.getD_eq_getElem?_getD, List.getElem?_eq_getElem hi, List.getElem?_eq_getElem hj] at this
 exact this
theorem rising_less {l : List (List UInt8)} (h : rising (byteStrs l) = true) : l.Pairwise (fun a b => lessS a b = true) := by
 have h1 := rising_pwT h
 unfold byteStrs at h1
 rw [List.pairwise_map] at h1
 refine h1.imp fun {a b} hab => ?_
 rw [← less_is, ← ba_list a, ← ba_list b]
 exact hab
theorem fields_parsed (l : List Tok) : ∀ (ls : List (List UInt8)) (ts : List Ty) (ls0 : List (List UInt8)) (ts0 : List Ty) (i : Nat) (o : Bool), ls.length = ts.length → (∀ t ∈ ts, Parsed t) →
  (ls0 ++ ls).Pairwise (fun a b => lessS a b = true) → (ls0 = [] → ls = [] → o = true) → SpAt l i (spFields ls (spTs ts) true ++ (spDots ls o ++ [⟨true, 6, [62]⟩])) → (ls = [] → o = true) →
  ∃ K, ∀ k, K ≤ k → pObj l k ls0 ts0 i = some (.mk 3 [] (ts0 ++ ts) (ls0 ++ ls) o, i + (spFields ls (spTs ts) true ++ (spDots ls o ++ [(⟨true, 6, [62]⟩ : Sp)])).length)
 | [], ts, ls0, ts0, i, o, hlen, _, _, _, hS, ho => by
  have : ts = [] := List.eq_nil_of_length_eq_zero hlen.symm
  subst this
  have ho := ho rfl
  subst ho
  refine ⟨1, fun k hk => ?_⟩
  obtain ⟨k, rfl⟩ : ∃ k', k = k' + 1 := ⟨k - 1, by omega⟩
  have hS' : SpAt l i [⟨true, 6, [46, 46]⟩, ⟨true, 6, [62]⟩] := hS
  rw [objE, hS'.tk, hS'.tail.tk, List.append_nil, List.append_nil]
  rfl
 | x :: ls, [], ls0, ts0, i, o, hlen, _, _, _, hS, _ => by simp at hlen
 | x :: ls, t :: ts, ls0, ts0, i, o, hlen, hP, hR, _, hS, _ => by
  obtain ⟨r, hr⟩ : ∃ r : List Sp, r = spFields ls (spTs ts) false ++ ((if o then [⟨true, 6, [59]⟩, ⟨true, 6, [46, 46]⟩] else []) ++ [⟨true, 6, [62]⟩]) := ⟨_, rfl⟩
  have e : spFields (x :: ls) (spTs (t :: ts)) true ++ (spDots (x :: ls) o ++ [(⟨true, 6, [62]⟩ : Sp)]) = ⟨true, 1, x⟩ :: ⟨true, 6, [58]⟩ :: (spT t 1 true ++ r) := by
   rw [spTs, spFields, if_pos rfl, hr, spDots, if_neg (show ¬ x :: ls = [] by simp)]
   simp only [List.nil_append, List.cons_append, List.append_assoc]
  rw [e] at hS ⊢
  have hx : ∀ a ∈ ls0, lessS a x = true := fun a ha => (List.pairwise_append.1 hR).2.2 a ha x (List.mem_cons_self ..)
  have hA := hS.tail.tail.left
  have hB := hS.tail.tail.right
  have hend : (ls = [] ∧ o = false ∧ r = [⟨true, 6, [62]⟩]) ∨ ∃ r', r = ⟨true, 6, [59]⟩ :: r' ∧ r' = spFields ls (spTs ts) true ++ (spDots ls o ++ [⟨true, 6, [62]⟩]) ∧ (ls = [] → o = true) := by
   cases ls with
   | nil =>
    have : ts = [] := List.eq_nil_of_length_eq_zero (by simpa using hlen.symm)
    subst this
    cases o with
    | false => exact .inl ⟨rfl, rfl, by rw [hr]; rfl⟩
    | true => exact .inr ⟨[⟨true, 6, [46, 46]⟩, ⟨true, 6, [62]⟩], by rw [hr]; rfl, rfl, fun _ => rfl⟩
   | cons y ls =>
    cases ts with
    | nil => simp at hlen
    | cons u ts =>
     refine .inr ⟨_, ?_, rfl, fun h => by simp at h⟩
     rw [hr, spTs, spFields, spFields, if_pos rfl, spDots, if_neg (show ¬ y :: ls = [] by simp)]
     simp only [Bool.false_eq_true, if_false, List.nil_append, List.cons_append, List.append_assoc]
  have hstop : Stop l 1 (i + 1 + 1 + (spT t 1 true).length) := by
   rcases hend with ⟨_, _, h⟩ | ⟨r', h, _, _⟩
   ·rw [h] at hB
    exact ⟨fun _ => by rw [hB.tk]; rfl, fun _ => by rw [hB.tk]; rfl, fun h => by omega⟩
   ·rw [h] at hB
    exact ⟨fun _ => by rw [hB.tk]; rfl, fun _ => by rw [hB.tk]; rfl, fun h => by omega⟩
  obtain ⟨K1, hK1⟩ := (hP t (List.mem_cons_self ..)).1 1 (by omega) l (i + 1 + 1) true hA hstop
  have hall : ls0.all (lessS · x) = true := List.all_eq_true.2 hx
  have step : ∀ k, K1 ≤ k → pObj l (k + 1) ls0 ts0 i = if tk l (i + 1 + 1 + (spT t 1 true).length) 6 [62] then some (.mk 3 [] (ts0 ++ [t]) (ls0 ++ [x]) false, i + 1 + 1 + (spT t 1 true).length + 1)
    else if tk l (i + 1 + 1 + (spT t 1 true).length) 6 [59] then pObj l k (ls0 ++ [x]) (ts0 ++ [t]) (i + 1 + 1 + (spT t 1 true).length + 1) else none := fun k hk => by
   rw [objE, hS.tk, hS.wd, hS.tail.tk 6 [58], hK1 k hk]
   simp only [show ¬ ((1 : Nat) = 6) by decide, decide_false, Bool.false_and, Bool.false_eq_true, if_false, reduceIte, Option.bind_some, decide_true, Bool.and_self, hall, Bool.true_eq_false]
  rcases hend with ⟨rfl, rfl, h⟩ | ⟨r', h, hr', ho⟩
  ·rw [h] at hB ⊢
   have : ts = [] := List.eq_nil_of_length_eq_zero (by simpa using hlen.symm)
   subst this
   refine ⟨K1 + 1, fun k hk => ?_⟩
   obtain ⟨k, rfl⟩ : ∃ k', k = k' + 1 := ⟨k - 1, by omega⟩
   rw [step k (by omega), hB.tk]
   simp only [decide_true, Bool.and_self, reduceIte, List.length_cons, List.length_append, List.length_nil]
   congr 2
   omega
  ·rw [h] at hB ⊢
   have hB2 := hB.tail
   rw [hr'] at hB2
   obtain ⟨K2, hK2⟩ := fields_parsed l ls ts (ls0 ++ [x]) (ts0 ++ [t]) (i + 1 + 1 + (spT t 1 true).length + 1) o (by simpa using hlen) (fun u hu => hP u (List.mem_cons_of_mem _ hu)) (by rw [List.append_assoc]; exact hR) (fun h => by simp at h) hB2 ho
   refine ⟨K1 + K2 + 1, fun k hk => ?_⟩
   obtain ⟨k, rfl⟩ : ∃ k', k = k' + 1 := ⟨k - 1, by omega⟩
   rw [step k (by omega), hB.tk, hB.tk, hK2 k (by omega), ← hr']
   simp only [show ¬ (([59] : List UInt8) = [62]) by decide, decide_false, decide_true, Bool.and_self, Bool.and_false, Bool.false_eq_true, if_false, reduceIte, List.length_cons, List.length_append, List.append_assoc, List.cons_append, List.nil_append]
   congr 2
   omega
theorem parsed_of {t : Ty} (h : Fine t) : Parsed t := by
 induction h with
 | var s hw =>
  refine parsed3 fun l i g hS _ => ⟨1, fun k hk => ?_⟩
  obtain ⟨k, rfl⟩ : ∃ k', k = k' + 1 := ⟨k - 1, by omega⟩
  have hS' : SpAt l i [⟨g, 5, s⟩] := hS
  rw [lev3, hS'.wd]
  rfl
 | base s hs =>
  refine parsed3 fun l i g hS _ => ⟨1, fun k hk => ?_⟩
  obtain ⟨k, rfl⟩ : ∃ k', k = k' + 1 := ⟨k - 1, by omega⟩
  have hS' : SpAt l i [⟨g, 1, s⟩] := hS
  rw [lev3, hS'.wd, hS'.wd]
  simp only [show ¬ ((1 : Nat) = 5) by decide, if_false, reduceIte, List.contains_iff_mem.2 hs]
  rfl
 | bind s a hw _ ih =>
  have e : ∀ g, spOwn 4 s (spTs [a]) [] false g = spT a 0 g ++ [⟨true, 2, [97, 115]⟩, ⟨true, 5, s⟩] := fun g => by rw [spTs, spTs]; rfl
  refine parsed_own (fun l i g hS hT => ?_) fun lev a b _ => absurd b (by show ¬ lev ≤ 0; omega)
  rw [e] at hS hT ⊢
  have hB := hS.right
  obtain ⟨K, D, b, m, h1, h2⟩ := ih.2 l i g hS.left ⟨fun _ => by rw [hB.tk]; rfl, fun _ => by rw [hB.tk]; rfl, fun h => by omega⟩
  refine ⟨K, D + 1, b, m, h1, fun k => ?_⟩
  rw [show k + (D + 1) = k + 1 + D by omega, h2, asE, hB.tk, hB.tail.wd]
  simp only [decide_true, Bool.and_self, reduceIte, Option.bind_some, List.length_append, List.length_cons, List.length_nil]
  rfl
 | op n a b hn _ _ iha ihb =>
  have ho : ownLev 2 (opS n) = n := by rcases hn with rfl | rfl <;> rfl
  have e : ∀ g, spOwn 2 (opS n) (spTs [a, b]) [] false g = spT a (n + 1) g ++ ⟨true, 6, opS n⟩ :: spT b n true := fun g => by
   rw [spTs, spTs, spTs]
   show spT a (ownLev 2 (opS n) + 1) g ++ ⟨true, 6, opS n⟩ :: spT b (ownLev 2 (opS n)) true = _
   rw [ho]
  have hn3 : Prs n (spOwn 2 (opS n) (spTs [a, b]) [] false) (.mk 2 (opS n) [a, b] [] false) := fun l i g hS hT => by
   rw [e] at hS hT ⊢
   have hB := hS.right
   obtain ⟨K1, h1⟩ := iha.1 (n + 1) (by omega) l i g hS.left ⟨fun h => by rw [hB.tk]; rcases hn with rfl | rfl; rfl; omega, fun h => by omega, fun h => by omega⟩
   obtain ⟨K2, h2⟩ := ihb.1 n (by omega) l _ true hB.tail (by
    rw [List.length_append, List.length_cons] at hT
    rw [show i + (spT a (n + 1) g).length + 1 + (spT b n true).length = i + ((spT a (n + 1) g).length + ((spT b n true).length + 1)) by omega]
    exact hT)
   refine ⟨K1 + K2 + 1, fun k hk => ?_⟩
   obtain ⟨k, rfl⟩ : ∃ k', k = k' + 1 := ⟨k - 1, by omega⟩
   rw [levB l k n i hn, h1 k (by omega)]
   simp only [Option.bind_some]
   rw [hB.tk, h2 k (by omega)]
   simp only [decide_true, Bool.and_self, reduceIte, zqd, List.length_append, List.length_cons]
   congr 2
   omega
  refine parsed_own ?_ fun lev a b _ => ?_
  ·rcases hn with rfl | rfl
   ·exact prA_of hn3
   ·exact prA_of (prs_down (n := 1) (.inl rfl) hn3)
  ·rw [ho] at b
   rcases hn with rfl | rfl
   ·have : lev = 1 := by omega
    subst this; exact hn3
   ·match lev, a, b with
    | 1, _, _ => exact prs_down (n := 1) (.inl rfl) hn3
    | 2, _, _ => exact hn3
 | obj args labels o hlen hl hri _ ih =>
  refine parsed3 fun l i g hS _ => ?_
  have e : ∀ g, spOwn 3 [] (spTs args) labels o g = ⟨g, 6, [60]⟩ :: (spFields labels (spTs args) true ++ (spDots labels o ++ [⟨true, 6, [62]⟩])) := fun g => rfl
  rw [e] at hS ⊢
  by_cases hz : labels = [] ∧ o = false
  ·obtain ⟨rfl, rfl⟩ := hz
   have : args = [] := List.eq_nil_of_length_eq_zero hlen.symm
   subst this
   have hS' : SpAt l i [⟨g, 6, [60]⟩, ⟨true, 6, [62]⟩] := hS
   refine ⟨1, fun k hk => ?_⟩
   obtain ⟨k, rfl⟩ : ∃ k', k = k' + 1 := ⟨k - 1, by omega⟩
   rw [lev3, hS'.wd, hS'.wd, hS'.tk, hS'.tk, hS'.tail.tk]
   rfl
  ·obtain ⟨K, hK⟩ := fields_parsed l labels args [] [] (i + 1) o hlen ih (rising_less hri) (fun _ h => by cases o with | true => rfl | false => exact absurd ⟨h, rfl⟩ hz) hS.tail (fun h => by cases o with | true => rfl | false => exact absurd ⟨h, rfl⟩ hz)
   have hne : tk l (i + 1) 6 [62] = false := by
    have ht := hS.tail
    cases labels with
    | nil =>
     have ho : o = true := by cases o with | true => rfl | false => exact absurd ⟨rfl, rfl⟩ hz
     subst ho
     have hS' : SpAt l (i + 1) [⟨true, 6, [46, 46]⟩, ⟨true, 6, [62]⟩] := ht
     rw [hS'.tk]; rfl
    | cons x ls =>
     cases args with
     | nil => simp at hlen
     | cons u us =>
      rw [spTs, spFields, if_pos rfl, List.nil_append] at ht
      rw [ht.tk]; rfl
   refine ⟨K + 1, fun k hk => ?_⟩
   obtain ⟨k, rfl⟩ : ∃ k', k = k' + 1 := ⟨k - 1, by omega⟩
   rw [lev3, hS.wd, hS.wd, hS.tk, hS.tk, hne]
   simp only [show ¬ ((6 : Nat) = 5) by decide, show ¬ ((6 : Nat) = 1) by decide, if_false, reduceIte, show ¬ (([60] : List UInt8) = [40]) by decide, decide_false, decide_true, Bool.and_false, Bool.and_self, Bool.false_eq_true]
   rw [hK k (by omega), List.nil_append, List.nil_append]
   congr 2
   rw [List.length_cons]
   omega
end Go.Tre
namespace Go.Tre
def br (t : Ty) : Bool → List Sp := spWrap 0 (spT t 0) 1
theorem br_piece {t : Ty} (h : Fine t) : Piece (br t) := wrap_piece (piece_of h 0) 0 1
theorem br_eq (t : Ty) (g : Bool) : br t g = ⟨g, 6, [40]⟩ :: (spT t 0 false ++ [⟨false, 6, [41]⟩]) := by unfold br spWrap; rw [if_pos (by decide)]
theorem br_prs {t : Ty} (h : Fine t) : Prs 3 (br t) t := by
 have e : br t = fun g => ⟨g, 6, [40]⟩ :: (spT t 0 false ++ [⟨false, 6, [41]⟩]) := by funext g; exact br_eq t g
 rw [e]
 exact prs_bracket ((parsed_of h).1 0 (by omega))
theorem prs_le {f : Bool → List Sp} {t : Ty} (h : Prs 3 f t) : ∀ n, 1 ≤ n → n ≤ 3 → Prs n f t := fun n h1 h2 => by
 have h2' := prs_down (n := 2) (.inr rfl) h
 match n, h1, h2 with
 | 1, _, _ => exact prs_down (n := 1) (.inl rfl) h2'
 | 2, _, _ => exact h2'
 | 3, _, _ => exact h
theorem prs_op {n : Nat} (hn : n = 1 ∨ n = 2) {f h : Bool → List Sp} {a b : Ty} (hf : Prs (n + 1) f a) (hb : Prs n h b) : Prs n (fun g => f g ++ ⟨true, 6, opS n⟩ :: h true) (.mk 2 (opS n) [a, b] [] false) := fun l i g hS hT => by
 have hB := hS.right
 obtain ⟨K1, h1⟩ := hf l i g hS.left ⟨fun h => by rw [hB.tk]; rcases hn with rfl | rfl; rfl; omega, fun h => by omega, fun h => by omega⟩
 obtain ⟨K2, h2⟩ := hb l _ true hB.tail (by
  rw [List.length_append, List.length_cons] at hT
  rw [show i + (f g).length + 1 + (h true).length = i + ((f g).length + ((h true).length + 1)) by omega]
  exact hT)
 refine ⟨K1 + K2 + 1, fun k hk => ?_⟩
 obtain ⟨k, rfl⟩ : ∃ k', k = k' + 1 := ⟨k - 1, by omega⟩
 rw [levB l k n i hn, h1 k (by omega)]
 simp only [Option.bind_some]
 rw [hB.tk, h2 k (by omega)]
 simp only [decide_true, Bool.and_self, reduceIte, zqd, List.length_append, List.length_cons]
 congr 2
 omega
theorem prs_text {n : Nat} (hn : n = 1 ∨ n = 2 ∨ n = 3) {f : Bool → List Sp} {t : Ty} (h : Prs n f t) (N : Nat) : ∃ K, ∀ k, K ≤ k → pLev (toksOf N (f false)) k 0 0 = some (t, (f false).length) := by
 have h1 : Prs 1 f t := by
  rcases hn with rfl | rfl | rfl
  ·exact h
  ·exact prs_down (n := 1) (.inl rfl) h
  ·exact prs_le h 1 (by omega) (by omega)
 have hS : SpAt (toksOf N (f false)) 0 (f false) := spAt_toks N [] (f false)
 have he := toksOf_end N (f false)
 have hno : ∀ k s, k ≠ 0 → tk (toksOf N (f false)) (0 + (f false).length) k s = false := fun k s hk => by
  unfold tk
  rw [Nat.zero_add, he]
  simp [Ne.symm hk]
 obtain ⟨K, hK⟩ := prs0_of (prA_of h1) _ 0 false hS ⟨fun _ => hno _ _ (by decide), fun _ => hno _ _ (by decide), fun _ => hno _ _ (by decide)⟩
 exact ⟨K, fun k hk => by rw [hK k hk, Nat.zero_add]⟩
def rowSp (n : Nat) (t u : Ty) (g : Bool) : List Sp := br t g ++ ⟨true, 6, opS n⟩ :: (br u true ++ ⟨true, 6, opS n⟩ :: br t true)
def rowTy (n : Nat) (t u : Ty) : Ty := .mk 2 (opS n) [t, .mk 2 (opS n) [u, t] [] false] [] false
def rowText (n : Nat) (t u : Ty) : List UInt8 := [40] ++ putS t ++ [41, 32] ++ opS n ++ [32, 40] ++ putS u ++ [41, 32] ++ opS n ++ [32, 40] ++ putS t ++ [41]
theorem good_op {n : Nat} (hn : n = 1 ∨ n = 2) {g : Bool} {r : List UInt8} : Good ⟨g, 6, opS n⟩ r := by
 rcases hn with rfl | rfl
 ·exact good_arrow
 ·exact good_star
theorem row_goods {n : Nat} (hn : n = 1 ∨ n = 2) {t u : Ty} (ht : Fine t) (hu : Fine u) : Goods (rowSp n t u false) := by
 have P := br_piece ht
 have Q := br_piece hu
 have h1 : Goods (br t true) := by have := P.goods true [] trivial (.inl rfl); rwa [List.append_nil] at this
 have h2 : Goods (br u true ++ ⟨true, 6, opS n⟩ :: br t true) := Q.goods true _ ⟨good_op hn, h1⟩ (sep_gap _ _ _)
 exact P.goods false _ ⟨good_op hn, h2⟩ (sep_gap _ _ _)
theorem row_spell (n : Nat) (hn : n = 1 ∨ n = 2) (t u : Ty) : spell (rowSp n t u false) = rowText n t u := by
 unfold rowSp rowText putS
 rw [br_eq, br_eq, br_eq]
 rcases hn with rfl | rfl <;> simp [spell, spell_app, Sp.text, Sp.body, opS]
theorem row_parse {n : Nat} (hn : n = 1 ∨ n = 2) {t u : Ty} (ht : Fine t) (hu : Fine u) (N : Nat) : ∃ K, ∀ k, K ≤ k → pLev (toksOf N (rowSp n t u false)) k 0 0 = some (rowTy n t u, (rowSp n t u false).length) := by
 have h1 : Prs n (fun g => br u g ++ ⟨true, 6, opS n⟩ :: br t true) (.mk 2 (opS n) [u, t] [] false) := prs_op hn (prs_le (br_prs hu) _ (by omega) (by omega)) (prs_le (br_prs ht) _ (by omega) (by omega))
 have h2 : Prs n (rowSp n t u) (rowTy n t u) := prs_op hn (prs_le (br_prs ht) _ (by omega) (by omega)) h1
 exact prs_text (by omega) h2 N
theorem walk_op {n : Nat} (hn : n = 1 ∨ n = 2) {a b : Ty} (ha : 0 ≤ walkT a) (hb : 0 ≤ walkT b) : 0 ≤ walkT (.mk 2 (opS n) [a, b] [] false) := by
 have ho : ownT 2 (opS n) 2 [] false = true := by rcases hn with rfl | rfl <;> rfl
 have h1 : walkTs [a, b] 0 = max (max 0 (walkT a)) (walkT b) := by
  unfold walkTs walkTs walkTs
  rw [if_neg (by omega), if_neg (by omega)]
 unfold walkT
 rw [show [a, b].length = 2 from rfl, if_pos ho, h1, if_neg (by omega)]
 omega
theorem row_walk {n : Nat} (hn : n = 1 ∨ n = 2) {t u : Ty} (ht : 0 ≤ walkT t) (hu : 0 ≤ walkT u) : 0 ≤ walkT (rowTy n t u) := walk_op hn ht (walk_op hn hu ht)
theorem row_weight (n : Nat) (t u : Ty) : (rowTy n t u).weight ≤ 2 * t.weight + u.weight + 10 := by
 have h : (opS n).length ≤ 2 := by unfold opS; split <;> decide
 unfold rowTy
 simp only [weight_mk, weights_cons, weights_nil, List.map_nil, List.sum_nil]
 omega
theorem nextS_kind {l : List UInt8} {t : Tok} {n : Nat} (h : nextS l = some (t, n)) : t.kind ≠ 0 := by
 unfold nextS at h
 split at h
 ·split at h
  ·cases h
  ·simp only [zqe, Prod.mk.injEq] at h
   obtain ⟨rfl, _⟩ := h
   show ¬ (if _ then 2 else 1) = 0
   split <;> decide
 ·split at h
  ·cases h
  ·split at h
   ·split at h
    ·cases h
    ·simp only [zqe, Prod.mk.injEq] at h
     obtain ⟨rfl, _⟩ := h
     exact Nat.succ_ne_zero _
   ·split at h
    ·simp only at h
     split at h
     ·simp only [zqe, Prod.mk.injEq] at h
      obtain ⟨rfl, _⟩ := h
      exact Nat.succ_ne_zero _
     ·cases h
    ·split at h
     ·obtain ⟨p, _, e⟩ := Option.map_eq_some_iff.1 h
      simp only [Prod.mk.injEq] at e
      obtain ⟨rfl, _⟩ := e
      exact Nat.succ_ne_zero _
     ·obtain ⟨p, _, e⟩ := Option.map_eq_some_iff.1 h
      simp only [Prod.mk.injEq] at e
      obtain ⟨rfl, _⟩ := e
      exact Nat.succ_ne_zero _
theorem goods_kind : ∀ {l : List Sp}, Goods l → ∀ x ∈ l, x.kind ≠ 0
 | [], _, x, hx => by simp at hx
 | y :: l, h, x, hx => by
  rcases List.mem_cons.1 hx with rfl | hx
  ·exact nextS_kind h.1.next
  ·exact goods_kind h.2 x hx
theorem toks_idx (N : Nat) {l : List Sp} (h : Goods l) : idxFunc (fun t : Tok => decide (t.kind = 0)) (toksOf N l) = (((toksOf N l).length - 1 : Nat) : Int) := by
 have hl := toksOf_len N l
 rw [hl, Nat.add_sub_cancel]
 refine idxFunc_hit (by omega) ?_ fun j hj hlt => ?_
 ·have he := toksOf_end N l
  rw [List.getElem?_eq_getElem (by omega)] at he
  rw [Option.some.inj he]
  exact decide_eq_true rfl
 ·obtain ⟨t, h1, h2, _⟩ := toksOf_at N l j l[j] (List.getElem?_eq_getElem hlt)
  rw [List.getElem?_eq_getElem hj] at h1
  rw [Option.some.inj h1, h2]
  have := goods_kind h l[j] (List.getElem_mem hlt)
  simpa using this
theorem spell_long : ∀ {l : List Sp}, Goods l → l.length ≤ (spell l).length
 | [], _ => Nat.le_refl _
 | x :: l, h => by
  have ih := spell_long h.2
  have hn := (nextS_len h.1.next).1
  have hb : x.body.length ≤ x.text.length := by unfold Sp.text; split <;> simp
  rw [spell, List.length_append, List.length_cons]
  omega
end Go.Tre
