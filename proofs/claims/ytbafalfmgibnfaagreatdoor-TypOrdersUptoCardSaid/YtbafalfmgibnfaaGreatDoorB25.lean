/- trefoilref02.SameType: at types that are the same it is true. Layer 3, plain: types in brackets, arrows and stars between: what is parsed. Layer 3, plain: objects whose fields stand in any order, types in brackets: what is parsed. TypOrders: what its inner function says of a text. -/
import Derived.Test.YtbafalfmgibnfaaGreatDoorB24
import Derived.Test.YtbafalfmgibnfaaGreatDoorB15
import Derived.Test.YtbafalfmgibnfaaGreatDoorB17
import Derived.Test.YtbafalfmgibnfaaGreatDoorB23
import Derived.Test.YtbafalfmgibnfaaGreatDoorB20
set_option linter.unusedVariables false
namespace Go.Tre
theorem labels_weight (t : Ty) : t.labels.length + t.args.length ≤ t.weight := by
 cases t with
 | mk k s args labels o =>
  have h1 := weights_len args
  have h2 : ∀ l : List (List UInt8), l.length ≤ (l.map fun x => x.length + 1).sum := fun l => by
   induction l with
   | nil => simp
   | cons x r ih => simp only [List.map_cons, List.sum_cons, List.length_cons]; omega
  have h3 := h2 labels
  rw [Ty.weight]
  show labels.length + args.length ≤ _
  omega
theorem part_weight {t c : Ty} (h : c ∈ t.args) : c.weight < t.weight := by
 cases t with
 | mk k s args labels o =>
  obtain ⟨i, hi⟩ := List.getElem?_of_mem h
  have h1 : c.weight ≤ weights args := weights_at hi
  rw [Ty.weight]
  omega
end Go.Tre
namespace Go.Proofs.YtbafalfmgibnfaaGreatDoor.typ
open Go.RowKit Go.Maps Go.Tre lex
set_option maxRecDepth 100000 in
set_option maxHeartbeats 4000000 in
theorem same_step (t u : Ty) (v v' : Value) (w : World) (hw : t.weight ≤ 8388608) (hT : TyRd w t v) (hU : TyRd w u v')
  (ih : ∀ (c d : Ty) (x y : Value) (W : World), c ∈ t.args → TyRd W c x → TyRd W d y → STy c d x y W) : STy t u v v' w := by
 obtain ⟨aa, ca, al, cl, rfl⟩ := hT.agg
 obtain ⟨ab, cb, bl, dl, rfl⟩ := hU.agg
 obtain ⟨pa, pl⟩ := tyRd_parts hT
 obtain ⟨qa, ql⟩ := tyRd_parts hU
 have hlw := labels_weight t
 have M := ((Mem.nil w).allocR (fiveV t aa al ca cl) 28).allocR (fiveV u ab bl cb dl) 28
 rw [World.size_alloc] at M
 have x0 := M.cell 1 rfl 0 rfl
 have x1 := M.cell 1 rfl 1 rfl
 have x2 := M.cell 1 rfl 2 rfl
 have x3 := M.cell 1 rfl 3 rfl
 have x4 := M.cell 1 rfl 4 rfl
 have y0 := M.cell 0 rfl 0 rfl
 have y1 := M.cell 0 rfl 1 rfl
 have y2 := M.cell 0 rfl 2 rfl
 have y3 := M.cell 0 rfl 3 rfl
 have y4 := M.cell 0 rfl 4 rfl
 have HL := Tre.hid (names_any al bl cl dl t.labels u.labels _ (pl.below M.below) (ql.below M.below) (by omega))
 have HA : Hid (∀ W, Below w.heap.size w W → Calls Tryz.prog 23 #[.slice aa t.args.length ca, .slice ab u.args.length cb] W fun e w' => ∃ r, e = .returned (.bool r) ∧ (t.args = u.args → r = true) ∧ Below W.heap.size W w') := fun W hW =>
  types_any aa ab ca cb t.args u.args W (fun i c hc => by
   obtain ⟨b, off, ax, cx, bx, dx, e, hr, hk⟩ := pa i c hc
   exact ⟨b, off, ax, cx, bx, dx, e, hr.after hW, fun j z hz => cell_below hW (hk j z hz)⟩) (fun i c hc => by
   obtain ⟨b, off, ax, cx, bx, dx, e, hr, hk⟩ := qa i c hc
   exact ⟨b, off, ax, cx, bx, dx, e, hr.after hW, fun j z hz => cell_below hW (hk j z hz)⟩) (by omega) ih
 have HM := Tre.hid M
 have HB := Tre.hid M.below
 unfold STy
 have HEQ : Hid (t = u → t.kind = u.kind ∧ t.s = u.s ∧ t.opn = u.opn ∧ t.labels = u.labels ∧ t.args = u.args) := fun e => by subst e; exact ⟨rfl, rfl, rfl, rfl, rfl⟩
 obtain ⟨TT, hTT⟩ : ∃ P : Prop, (t = u) = P := ⟨_, rfl⟩
 rw [hTT] at HEQ ⊢
 unfold fiveV at *
 clear hT hU pa pl qa ql M ih hw hlw hTT
 generalize t.kind = tk at *
 generalize u.kind = uk at *
 generalize t.s = ts at *
 generalize u.s = us at *
 generalize t.opn = oo at *
 generalize u.opn = op at *
 by_cases hk : tk = uk
 rotate_left
 ·have e1 : ((tk : Int) == (uk : Int)) = false := by
   rw [beq_eq_false_iff_ne]; omega
  have e2 : ¬ ((tk : Int) = (uk : Int)) := by omega
  have HN := Tre.hid hk
  clear hk
  go_enter Tryz.func13, Tryz.ntmps13
  go_wp2_with fail
  go_ret
  exact yesPost (fun e => absurd (HEQ.out e).1 HN.out) HB.out
 subst hk
 by_cases hs : ts = us
 rotate_left
 ·have e1 : (ts == us) = false := by simpa using hs
  have e2 : (ts = us) = False := by simpa using hs
  have HN := Tre.hid hs
  clear hs
  go_enter Tryz.func13, Tryz.ntmps13
  go_wp2_with fail
  go_ret
  exact yesPost (fun e => absurd (HEQ.out e).2.1 HN.out) HB.out
 subst hs
 by_cases ho : oo = op
 rotate_left
 ·have e1 : (oo == op) = false := by simpa using ho
  have HN := Tre.hid ho
  have hou : op = !oo := by cases oo <;> cases op <;> simp_all
  subst hou
  clear ho
  cases oo with
  | true =>
   go_enter Tryz.func13, Tryz.ntmps13
   go_wp2_with fail
   go_ret
   exact yesPost (fun e => absurd (HEQ.out e).2.2.1 HN.out) HB.out
  | false =>
   go_enter Tryz.func13, Tryz.ntmps13
   go_wp2_with fail
   go_ret
   exact yesPost (fun e => absurd (HEQ.out e).2.2.1 HN.out) HB.out
 subst ho
 go_enter Tryz.func13, Tryz.ntmps13
 go_wp2_with fail
 refine HL.out.mono ?_
 rintro e w1 ⟨r1, rfl, h1, b1⟩
 have H1 := Tre.hid h1
 have M1 := HM.out.quiet b1
 clear x0 x1 x2 x3 x4 y0 y1 y2 y3 y4 h1 HL
 cases r1 with
 | false =>
  have HB1 := Tre.hid M1.below
  clear M1 b1
  go_wp2_with fail
  go_ret
  refine yesPost (fun e => ?_) HB1.out
  have := H1.out (HEQ.out e).2.2.2.1
  cases this
 | true =>
  have x2 := M1.cell 1 rfl 2 rfl
  have y2 := M1.cell 0 rfl 2 rfl
  have HB1 := Tre.hid M1.below
  have HAA := Tre.hid (HA.out w1 M1.below)
  clear M1 b1 HA
  go_wp2_with fail
  refine HAA.out.mono ?_
  rintro e w2 ⟨r2, rfl, h2, b2⟩
  have H2 := Tre.hid h2
  have HB2 := Tre.hid (HB1.out.trans (b2.mono HB1.out.size))
  clear x2 y2 h2 HAA b2
  cases r2 with
  | false =>
   go_wp2_with fail
   go_ret
   refine yesPost (fun e => ?_) HB2.out
   have := H2.out (HEQ.out e).2.2.2.2
   cases this
  | true =>
   go_wp2_with fail
   go_ret
   exact yesPost (fun _ => rfl) HB2.out
theorem same_any (N : Nat) : ∀ (t u : Ty) (v v' : Value) (w : World), t.weight ≤ N → N ≤ 8388608 → TyRd w t v → TyRd w u v' → STy t u v v' w := by
 induction N with
 | zero => intro t u v v' w h; have := weight_pos t; omega
 | succ N ih =>
  intro t u v v' w h hN hT hU
  exact same_step t u v v' w (by omega) hT hU fun c d x y W hc hx hy => ih c d x y W (by have := part_weight hc; omega) (by omega) hx hy
end Go.Proofs.YtbafalfmgibnfaaGreatDoor.typ
namespace Go.Tre
def br (t : Ty) : Bool → List Sp := spWrap 0 (spT t 0) 1
theorem br_piece {t : Ty} (h : Fine t) : Piece (br t) := wrap_piece (piece_of h 0) 0 1
theorem br_eq (t : Ty) (g : Bool) : br t g = ⟨g, 6, [40]⟩ :: (spT t 0 false ++ [⟨false, 6, [41]⟩]) := by unfold br spWrap; rw [if_pos (by decide)]
theorem br_prs {t : Ty} (h : Fine t) : Prs 3 (br t) t := by
 have e : br t = fun g => ⟨g, 6, [40]⟩ :: (spT t 0 false ++ [⟨false, 6, [41]⟩]) := by funext g; exact br_eq t g
 rw [e]
 exact prs_bracket ((parsed_of h).1 0 (by omega))
theorem prs_le {f : Bool → List Sp} {t : Ty} (h : Prs 3 f t) : ∀ n, 1 ≤ n → n ≤ 3 → Prs n f t := fun n h1 h2 => by
 have h2' := prs_down (n := 2) (.inr rfl) h
 match n, h1, h2 with
 | 1, _, _ => exact prs_down (n := 1) (.inl rfl) h2'
 | 2, _, _ => exact h2'
 | 3, _, _ => exact h
theorem prs_text {n : Nat} (hn : n = 1 ∨ n = 2 ∨ n = 3) {f : Bool → List Sp} {t : Ty} (h : Prs n f t) (N : Nat) : ∃ K, ∀ k, K ≤ k → pLev (toksOf N (f false)) k 0 0 = some (t, (f false).length) := by
 have h1 : Prs 1 f t := by
  rcases hn with rfl | rfl | rfl
  ·exact h
  ·exact prs_down (n := 1) (.inl rfl) h
  ·exact prs_le h 1 (by omega) (by omega)
 have hS : SpAt (toksOf N (f false)) 0 (f false) := spAt_toks N [] (f false)
 have he := toksOf_end N (f false)
 have hno : ∀ k s, k ≠ 0 → tk (toksOf N (f false)) (0 + (f false).length) k s = false := fun k s hk => by
  unfold tk
  rw [Nat.zero_add, he]
  simp [Ne.symm hk]
 obtain ⟨K, hK⟩ := prs0_of (prA_of h1) _ 0 false hS ⟨fun _ => hno _ _ (by decide), fun _ => hno _ _ (by decide), fun _ => hno _ _ (by decide)⟩
 exact ⟨K, fun k hk => by rw [hK k hk, Nat.zero_add]⟩
def rowSp (n : Nat) (t u : Ty) (g : Bool) : List Sp := br t g ++ ⟨true, 6, opS n⟩ :: (br u true ++ ⟨true, 6, opS n⟩ :: br t true)
def rowTy (n : Nat) (t u : Ty) : Ty := .mk 2 (opS n) [t, .mk 2 (opS n) [u, t] [] false] [] false
def rowText (n : Nat) (t u : Ty) : List UInt8 := [40] ++ putS t ++ [41, 32] ++ opS n ++ [32, 40] ++ putS u ++ [41, 32] ++ opS n ++ [32, 40] ++ putS t ++ [41]
theorem nextS_kind {l : List UInt8} {t : Tok} {n : Nat} (h : nextS l = some (t, n)) : t.kind ≠ 0 := by
 unfold nextS at h
 split at h
 ·split at h
  ·cases h
  ·simp only [zqe, Prod.mk.injEq] at h
   obtain ⟨rfl, _⟩ := h
   show ¬ (if _ then 2 else 1) = 0
   split <;> decide
 ·split at h
  ·cases h
  ·split at h
   ·split at h
    ·cases h
    ·simp only [zqe, Prod.mk.injEq] at h
     obtain ⟨rfl, _⟩ := h
     exact Nat.succ_ne_zero _
   ·split at h
    ·simp only at h
     split at h
     ·simp only [zqe, Prod.mk.injEq] at h
      obtain ⟨rfl, _⟩ := h
      exact Nat.succ_ne_zero _
     ·cases h
    ·split at h
     ·obtain ⟨p, _, e⟩ := Option.map_eq_some_iff.1 h
      simp only [Prod.mk.injEq] at e
      obtain ⟨rfl, _⟩ := e
      exact Nat.succ_ne_zero _
     ·obtain ⟨p, _, e⟩ := Option.map_eq_some_iff.1 h
      simp only [Prod.mk.injEq] at e
      obtain ⟨rfl, _⟩ := e
      exact Nat.succ_ne_zero _
theorem goods_kind : ∀ {l : List Sp}, Goods l → ∀ x ∈ l, x.kind ≠ 0
 | [], _, x, hx => by simp at hx
 | y :: l, h, x, hx => by
  rcases List.mem_cons.1 hx with rfl | hx
  ·exact nextS_kind h.1.next
  ·exact goods_kind h.2 x hx
theorem toks_idx (N : Nat) {l : List Sp} (h : Goods l) : idxFunc (fun t : Tok => decide (t.kind = 0)) (toksOf N l) = (((toksOf N l).length - 1 : Nat) : Int) := by
 have hl := toksOf_len N l
 rw [hl, Nat.add_sub_cancel]
 refine idxFunc_hit (by omega) ?_ fun j hj hlt => ?_
 ·have he := toksOf_end N l
  rw [List.getElem?_eq_getElem (by omega)] at he
  rw [Option.some.inj he]
  exact decide_eq_true rfl
 ·obtain ⟨t, h1, h2, _⟩ := toksOf_at N l j l[j] (List.getElem?_eq_getElem hlt)
  rw [List.getElem?_eq_getElem hj] at h1
  rw [Option.some.inj h1, h2]
  have := goods_kind h l[j] (List.getElem_mem hlt)
  simpa using this
theorem spell_long : ∀ {l : List Sp}, Goods l → l.length ≤ (spell l).length
 | [], _ => Nat.le_refl _
 | x :: l, h => by
  have ih := spell_long h.2
  have hn := (nextS_len h.1.next).1
  have hb : x.body.length ≤ x.text.length := by unfold Sp.text; split <;> simp
  rw [spell, List.length_append, List.length_cons]
  omega
end Go.Tre
namespace Go.Tre
structure Fld where
 n : List UInt8
 f : Bool → List Sp
 t : Ty
def fldSp (x : Fld) : List Sp := ⟨true, 1, x.n⟩ :: ⟨true, 6, [58]⟩ :: (x.f true ++ [⟨true, 6, [59]⟩])
def fldsSp : List Fld → List Sp
 | [] => [⟨true, 6, [46, 46]⟩, ⟨true, 6, [62]⟩]
 | x :: r => fldSp x ++ fldsSp r
def objSp (fs : List Fld) (g : Bool) : List Sp := ⟨g, 6, [60]⟩ :: fldsSp fs
def insAll : List Fld → List (List UInt8) → List Ty → Option (List (List UInt8) × List Ty)
 | [], ls, ts => some (ls, ts)
 | x :: r, ls, ts => if ls.contains x.n then none else insAll r (insAt ls (posL ls x.n) x.n) (insAt ts (posL ls x.n) x.t)
structure FldOk (x : Fld) : Prop where
 word : WordS x.n
 key : keyWords.contains x.n = false
 piece : Piece x.f
 prs : Prs 1 x.f x.t
theorem flds_goods : ∀ {fs : List Fld}, (∀ x ∈ fs, FldOk x) → Goods (fldsSp fs) ∧ ∃ r, spell (fldsSp fs) = 32 :: r
 | [], _ => ⟨⟨good_dots, good_more (.inl rfl), trivial⟩, _, rfl⟩
 | x :: r, h => by
  obtain ⟨i1, q, i2⟩ := flds_goods (fs := r) (fun y hy => h y (List.mem_cons_of_mem _ hy))
  have o := h x (List.mem_cons_self ..)
  have hg : Goods (x.f true ++ (⟨true, 6, [59]⟩ :: fldsSp r)) := o.piece.goods true _ ⟨good_semi, i1⟩ (sep_gap _ _ _)
  have e : fldsSp (x :: r) = ⟨true, 1, x.n⟩ :: ⟨true, 6, [58]⟩ :: (x.f true ++ (⟨true, 6, [59]⟩ :: fldsSp r)) := by
   rw [fldsSp]
   unfold fldSp
   simp only [List.cons_append, List.append_assoc, List.nil_append]
  rw [e]
  exact ⟨⟨good_word o.word (by rw [o.key]; rfl) (sep_gap _ _ _).word, by rw [o.piece.gap]; exact good_colon, hg⟩, _, rfl⟩
theorem obj_goods {fs : List Fld} (h : ∀ x ∈ fs, FldOk x) : Goods (objSp fs false) := by
 obtain ⟨h1, q, h2⟩ := flds_goods h
 exact ⟨by rw [h2]; exact good_less, h1⟩
theorem flds_prs (l : List Tok) : ∀ (fs : List Fld) (ls : List (List UInt8)) (ts : List Ty) (i : Nat) (L : List (List UInt8)) (A : List Ty), (∀ x ∈ fs, FldOk x) → insAll fs ls ts = some (L, A) → SpAt l i (fldsSp fs) →
  ∃ K, ∀ k, K ≤ k → pObj l k ls ts i = some (.mk 3 [] A L true, i + (fldsSp fs).length)
 | [], ls, ts, i, L, A, _, hi, hS => by
  unfold insAll at hi
  cases hi
  refine ⟨1, fun k hk => ?_⟩
  obtain ⟨k, rfl⟩ : ∃ k', k = k' + 1 := ⟨k - 1, by omega⟩
  have hS' : SpAt l i [⟨true, 6, [46, 46]⟩, ⟨true, 6, [62]⟩] := hS
  rw [objE, hS'.tk, hS'.tail.tk]
  rfl
 | x :: r, ls, ts, i, L, A, hx, hi, hS => by
  have o := hx x (List.mem_cons_self ..)
  unfold insAll at hi
  split at hi
  ·cases hi
  rename_i hc
  have e : fldsSp (x :: r) = ⟨true, 1, x.n⟩ :: ⟨true, 6, [58]⟩ :: (x.f true ++ (⟨true, 6, [59]⟩ :: fldsSp r)) := by
   rw [fldsSp]
   unfold fldSp
   simp only [List.cons_append, List.append_assoc, List.nil_append]
  rw [e] at hS ⊢
  have hB := hS.tail.tail.right
  obtain ⟨K1, h1⟩ := o.prs l (i + 1 + 1) true hS.tail.tail.left ⟨fun _ => by rw [hB.tk]; rfl, fun _ => by rw [hB.tk]; rfl, fun h => by omega⟩
  obtain ⟨K2, h2⟩ := flds_prs l r _ _ _ L A (fun y hy => hx y (List.mem_cons_of_mem _ hy)) hi hB.tail
  refine ⟨K1 + K2 + 1, fun k hk => ?_⟩
  obtain ⟨k, rfl⟩ : ∃ k', k = k' + 1 := ⟨k - 1, by omega⟩
  rw [objE, hS.tk, hS.wd, hS.tail.tk 6 [58], h1 k (by omega)]
  simp only [show ¬ ((1 : Nat) = 6) by decide, decide_false, Bool.false_and, Bool.false_eq_true, if_false, reduceIte, Option.bind_some, decide_true, Bool.and_self, hc]
  rw [hB.tk, hB.tk, h2 k (by omega)]
  simp only [show ¬ (([59] : List UInt8) = [62]) by decide, decide_false, decide_true, Bool.and_self, Bool.and_false, Bool.false_eq_true, if_false, reduceIte, List.length_cons, List.length_append]
  congr 2
  omega
theorem obj_prs {fs : List Fld} {L : List (List UInt8)} {A : List Ty} (hx : ∀ x ∈ fs, FldOk x) (hi : insAll fs [] [] = some (L, A)) : Prs 3 (objSp fs) (.mk 3 [] A L true) := fun l i g hS _ => by
 obtain ⟨K, hK⟩ := flds_prs l fs [] [] (i + 1) L A hx hi (SpAt.tail (x := ⟨g, 6, [60]⟩) hS)
 have hne : tk l (i + 1) 6 [62] = false := by
  have ht := SpAt.tail (x := ⟨g, 6, [60]⟩) hS
  cases fs with
  | nil =>
   have h : SpAt l (i + 1) [⟨true, 6, [46, 46]⟩, ⟨true, 6, [62]⟩] := ht
   rw [h.tk]; rfl
  | cons x r =>
   have h : SpAt l (i + 1) (⟨true, 1, x.n⟩ :: (⟨true, 6, [58]⟩ :: (x.f true ++ [⟨true, 6, [59]⟩]) ++ fldsSp r)) := ht
   rw [h.tk]; rfl
 have hS' : SpAt l i (⟨g, 6, [60]⟩ :: fldsSp fs) := hS
 refine ⟨K + 1, fun k hk => ?_⟩
 obtain ⟨k, rfl⟩ : ∃ k', k = k' + 1 := ⟨k - 1, by omega⟩
 rw [lev3, hS'.wd, hS'.wd, hS'.tk, hS'.tk, hne]
 simp only [show ¬ ((6 : Nat) = 5) by decide, show ¬ ((6 : Nat) = 1) by decide, if_false, reduceIte, show ¬ (([60] : List UInt8) = [40]) by decide, decide_false, decide_true, Bool.and_false, Bool.and_self, Bool.false_eq_true]
 rw [hK k (by omega)]
 congr 2
 show _ = i + ((fldsSp fs).length + 1)
 omega
/-! brackets -/
def br2 (t : Ty) : Bool → List Sp := spWrap 0 (br t) 1
theorem br2_eq (t : Ty) (g : Bool) : br2 t g = ⟨g, 6, [40]⟩ :: (br t false ++ [⟨false, 6, [41]⟩]) := by unfold br2 spWrap; rw [if_pos (by decide)]
theorem br2_piece {t : Ty} (h : Fine t) : Piece (br2 t) := wrap_piece (br_piece h) 0 1
theorem br2_prs {t : Ty} (h : Fine t) : Prs 3 (br2 t) t := by
 have e : br2 t = fun g => ⟨g, 6, [40]⟩ :: (br t false ++ [⟨false, 6, [41]⟩]) := by funext g; exact br2_eq t g
 rw [e]
 exact prs_bracket (prs0_of (prA_of (prs_le (br_prs h) 1 (by omega) (by omega))))
/-! an object of two fields, either first -/
def twoTy (t u : Ty) : Ty := .mk 3 [] [u, t] [[106], [107]] true
def xFlds (t u : Ty) : List Fld := [⟨[107], br t, t⟩, ⟨[106], br u, u⟩]
def yFlds (t u : Ty) : List Fld := [⟨[106], br2 u, u⟩, ⟨[107], br t, t⟩]
def xText (t u : Ty) : List UInt8 := [60, 32, 107, 32, 58, 32, 40] ++ putS t ++ [41, 32, 59, 32, 106, 32, 58, 32, 40] ++ putS u ++ [41, 32, 59, 32, 46, 46, 32, 62]
def yText (t u : Ty) : List UInt8 := [60, 32, 106, 32, 58, 32, 40, 40] ++ putS u ++ [41, 41, 32, 59, 32, 107, 32, 58, 32, 40] ++ putS t ++ [41, 32, 59, 32, 46, 46, 32, 62]
def zText (t : Ty) : List UInt8 := [40, 40] ++ putS t ++ [41, 41]
theorem word_k : WordS [107] := ⟨by decide, by decide, by decide⟩
theorem word_j : WordS [106] := ⟨by decide, by decide, by decide⟩
theorem key_k : keyWords.contains [107] = false := by decide
theorem key_j : keyWords.contains [106] = false := by decide
theorem x_ok {t u : Ty} (ht : Fine t) (hu : Fine u) : ∀ x ∈ xFlds t u, FldOk x := fun x hx => by
 simp only [xFlds, List.mem_cons, List.not_mem_nil, or_false] at hx
 rcases hx with rfl | rfl
 ·exact ⟨word_k, key_k, br_piece ht, prs_le (br_prs ht) 1 (by omega) (by omega)⟩
 ·exact ⟨word_j, key_j, br_piece hu, prs_le (br_prs hu) 1 (by omega) (by omega)⟩
theorem y_ok {t u : Ty} (ht : Fine t) (hu : Fine u) : ∀ x ∈ yFlds t u, FldOk x := fun x hx => by
 simp only [yFlds, List.mem_cons, List.not_mem_nil, or_false] at hx
 rcases hx with rfl | rfl
 ·exact ⟨word_j, key_j, br2_piece hu, prs_le (br2_prs hu) 1 (by omega) (by omega)⟩
 ·exact ⟨word_k, key_k, br_piece ht, prs_le (br_prs ht) 1 (by omega) (by omega)⟩
theorem x_ins (t u : Ty) : insAll (xFlds t u) [] [] = some ([[106], [107]], [u, t]) := rfl
theorem y_ins (t u : Ty) : insAll (yFlds t u) [] [] = some ([[106], [107]], [u, t]) := rfl
theorem x_spell (t u : Ty) : spell (objSp (xFlds t u) false) = xText t u := by
 unfold objSp xFlds xText putS fldsSp fldsSp fldsSp fldSp
 simp only [br_eq]
 simp [spell, spell_app, Sp.text, Sp.body]
theorem y_spell (t u : Ty) : spell (objSp (yFlds t u) false) = yText t u := by
 unfold objSp yFlds yText putS fldsSp fldsSp fldsSp fldSp
 simp only [br_eq, br2_eq]
 simp [spell, spell_app, Sp.text, Sp.body]
theorem z_spell (t : Ty) : spell (br2 t false) = zText t := by
 unfold zText putS
 rw [br2_eq, br_eq]
 simp [spell, spell_app, Sp.text, Sp.body]
theorem z_goods {t : Ty} (h : Fine t) : Goods (br2 t false) := by
 have := (br2_piece h).goods false [] trivial (.inl rfl)
 rwa [List.append_nil] at this
theorem two_walk {t u : Ty} (ht : 0 ≤ walkT t) (hu : 0 ≤ walkT u) : 0 ≤ walkT (twoTy t u) := by
 have ho : ownT 3 [] 2 [[106], [107]] true = true := by decide +kernel
 have h1 : walkTs [u, t] 0 = max (max 0 (walkT u)) (walkT t) := by
  unfold walkTs walkTs walkTs
  rw [if_neg (by omega), if_neg (by omega)]
 unfold twoTy walkT
 rw [show [u, t].length = 2 from rfl, if_pos ho, h1, if_neg (by omega)]
 omega
theorem two_weight (t u : Ty) : (twoTy t u).weight ≤ t.weight + u.weight + 10 := by
 unfold twoTy
 simp only [weight_mk, weights_cons, weights_nil, List.map_cons, List.map_nil, List.sum_cons, List.sum_nil, List.length_cons, List.length_nil]
 omega
end Go.Tre
namespace Go.Proofs.YtbafalfmgibnfaaGreatDoor.typ
open Go.RowKit Go.Shelf Go.Maps Go.Tre gr lex tree
set_option maxRecDepth 100000 in
set_option maxHeartbeats 8000000 in
theorem one_ok (TXT : ByteArray) (SP : List Sp) (RT : Ty) (w : World) (E : LexEnv w) (hgo : Goods SP) (hse : spell SP = TXT.data.toList) (hlen : TXT.size ≤ 65536) (hpr : ∀ N, ∃ K, ∀ k, K ≤ k → pLev (toksOf N SP) k 0 0 = some (RT, SP.length)) (hv : verdictI (walkT RT) = 0) (hww : RT.weight ≤ 4194304) :
  Calls Tryz.prog 10 #[.string TXT] w fun e w' => ∃ (O : Nat → Prop) (aw : Option Addr) (cw : Nat) (lw : Option Addr) (dw : Nat), e = .returned (.tuple #[.agg #[.int .i64 RT.kind, .string ⟨RT.s.toArray⟩, .slice aw RT.args.length cw, .slice lw RT.labels.length dw, .bool RT.opn], .bool true]) ∧ Mem w w' [tyR O RT (.agg #[.int .i64 RT.kind, .string ⟨RT.s.toArray⟩, .slice aw RT.args.length cw, .slice lw RT.labels.length dw, .bool RT.opn])] := by
 have HV := Tre.hid hv
 have HWR := Tre.hid hww
 clear hv hww
 have M0 := (Mem.nil w).allocR #[.int .i64 0, .string ⟨#[]⟩, .slice none 0 0, .slice none 0 0, .bool false] 28
 have hlx := lex.Lex TXT _ (by omega) (E.below M0.below)
 have hle : (spell SP).length = TXT.size := by rw [hse]; rfl
 rw [← hse, lexS_spell hgo (by omega)] at hlx
 obtain ⟨NN, hNN⟩ : ∃ x, (spell SP).length = x := ⟨_, rfl⟩
 rw [hNN] at hlx
 obtain ⟨K, hK⟩ := hpr NN
 have hK1 := hK K (Nat.le_refl _)
 have hix := toks_idx NN hgo
 have hln := toksOf_len NN SP
 have hll : (toksOf NN SP).length ≤ 4194304 := by
  have h := spell_long hgo
  omega
 obtain ⟨TS, hTS⟩ : ∃ x, toksOf NN SP = x := ⟨_, rfl⟩
 rw [hTS] at hlx hK1 hix hln hll
 have HLX := Tre.hid hlx
 have HK := Tre.hid hK1
 have HIX : Hid (idxFunc noEnd TS = ((TS.length - 1 : Nat) : Int)) := hix
 have HLN := Tre.hid hln
 have HLL := Tre.hid hll
 have HX := Tre.hid E.max
 have HM0 := Tre.hid M0
 have hwl : IntKind.i64.wrap ((TS.length : Int) - 1) = (SP.length : Int) := by rw [IntWalk.i64_in _ (by omega)]; omega
 generalize hrb : w.heap.size = rb at HM0
 generalize SP.length = nL at *
 clear hgo hse hpr hlx hNN hK hK1 hix hln hTS hll hle M0
 go_enter Tryz.func10, Tryz.ntmps10
 go_wp2_with fail
 try rw [hrb]
 refine HLX.out.mono ?_
 intro e w1 hp
 rcases hp with ⟨ts, v, hts, rfl, m1⟩ | ⟨hd, _⟩
 rotate_left
 ·cases hd
 cases hts
 have M1 := HM0.out.call m1
 obtain ⟨at_, ct, rfl, _⟩ := M1.val 0 rfl
 have HTK := Tre.hid (toks_of M1 0 rfl rfl)
 have HM1 := Tre.hid M1
 clear m1 M1 HLX HM0
 have hnn := HLN.out
 have HP := Tre.hid (Parse_ok at_ ct TS 0 K nL RT w1 HTK.out HLL.out (by omega) HIX.out (by omega) HK.out HV.out HWR.out (HX.out.below HM1.out.below))
 clear hnn
 go_wp2_with fail
 refine HP.out.mono ?_
 rintro e w2 ⟨O, aw, cw, lw, dw, rfl, m2⟩
 have M2 := HM1.out.call m2
 have M3 := M2.allocR #[.int .i64 RT.kind, .string ⟨RT.s.toArray⟩, .slice aw RT.args.length cw, .slice lw RT.labels.length dw, .bool RT.opn] 28
 generalize hqb : w2.heap.size = qb at M3
 have HM3 : Hid (Mem w (w2.alloc (.cells #[.int .i64 RT.kind, .string ⟨RT.s.toArray⟩, .slice aw RT.args.length cw, .slice lw RT.labels.length dw, .bool RT.opn] 28)) [cellsR qb 28 #[.int .i64 RT.kind, .string ⟨RT.s.toArray⟩, .slice aw RT.args.length cw, .slice lw RT.labels.length dw, .bool RT.opn], tyR O RT (.agg #[.int .i64 RT.kind, .string ⟨RT.s.toArray⟩, .slice aw RT.args.length cw, .slice lw RT.labels.length dw, .bool RT.opn]), cellsR rb 28 #[.int .i64 0, .string ⟨#[]⟩, .slice none 0 0, .slice none 0 0, .bool false]]) := M3.del 2
 clear m2 M2 M3 HM1 HP HTK
 go_upto_region 3 with fail
 try rw [hqb]
 clear hqb
 generalize hw9 : w2.alloc (.cells #[.int .i64 RT.kind, .string ⟨RT.s.toArray⟩, .slice aw RT.args.length cw, .slice lw RT.labels.length dw, .bool RT.opn] 28) = w9 at *
 clear hw9
 have HM9 := HM3
 clear HM3
 have MT : Mem w w9 (cellsR rb 28 #[.int .i64 0, .string ⟨#[]⟩, .slice none 0 0, .slice none 0 0, .bool false] :: _) := HM9.out.front 2 rfl
 have g0 : w9.cell? ⟨rb, 0, none⟩ = some (.int .i64 0) := MT.cell 0 rfl 0 rfl
 have g1 : w9.cell? ⟨rb, 1, none⟩ = some (.string ⟨#[]⟩) := MT.cell 0 rfl 1 rfl
 have g2 : w9.cell? ⟨rb, 2, none⟩ = some (.slice none 0 0) := MT.cell 0 rfl 2 rfl
 have g3 : w9.cell? ⟨rb, 3, none⟩ = some (.slice none 0 0) := MT.cell 0 rfl 3 rfl
 have g4 : w9.cell? ⟨rb, 4, none⟩ = some (.bool false) := MT.cell 0 rfl 4 rfl
 have f0 := MT.free 0 rfl 0
 have f1 := MT.free 0 rfl 1
 have f2 := MT.free 0 rfl 2
 have f3 := MT.free 0 rfl 3
 have f4 := MT.free 0 rfl 4
 have y0 : w9.cell? ⟨qb, 0, none⟩ = some (.int .i64 RT.kind) := HM9.out.cell 0 rfl 0 rfl
 have y1 : w9.cell? ⟨qb, 1, none⟩ = some (.string ⟨RT.s.toArray⟩) := HM9.out.cell 0 rfl 1 rfl
 have y2 : w9.cell? ⟨qb, 2, none⟩ = some (.slice aw RT.args.length cw) := HM9.out.cell 0 rfl 2 rfl
 have y3 : w9.cell? ⟨qb, 3, none⟩ = some (.slice lw RT.labels.length dw) := HM9.out.cell 0 rfl 3 rfl
 have y4 : w9.cell? ⟨qb, 4, none⟩ = some (.bool RT.opn) := HM9.out.cell 0 rfl 4 rfl
 have H6 := Tre.hid (show Mem w (((((w9.setCell ⟨rb, 0, none⟩ (.int .i64 RT.kind)).setCell ⟨rb, 1, none⟩ (.string ⟨RT.s.toArray⟩)).setCell ⟨rb, 2, none⟩ (.slice aw RT.args.length cw)).setCell ⟨rb, 3, none⟩ (.slice lw RT.labels.length dw)).setCell ⟨rb, 4, none⟩ (.bool RT.opn)) (cellsR rb 28 #[.int .i64 RT.kind, .string ⟨RT.s.toArray⟩, .slice aw RT.args.length cw, .slice lw RT.labels.length dw, .bool RT.opn] :: _) from (((((MT.setCell 0 rfl 0 (.int .i64 RT.kind)).setCell 0 rfl 1 (.string ⟨RT.s.toArray⟩)).setCell 0 rfl 2 (.slice aw RT.args.length cw)).setCell 0 rfl 3 (.slice lw RT.labels.length dw)).setCell 0 rfl 4 (.bool RT.opn)))
 clear MT HM9
 go_wp2_with fail
 generalize ((((w9.setCell ⟨rb, 0, none⟩ (.int .i64 RT.kind)).setCell ⟨rb, 1, none⟩ (.string ⟨RT.s.toArray⟩)).setCell ⟨rb, 2, none⟩ (.slice aw RT.args.length cw)).setCell ⟨rb, 3, none⟩ (.slice lw RT.labels.length dw)).setCell ⟨rb, 4, none⟩ (.bool RT.opn) = wz at H6 ⊢
 have z0 : wz.cell? ⟨rb, 0, none⟩ = some (.int .i64 RT.kind) := H6.out.cell 0 rfl 0 rfl
 have z1 : wz.cell? ⟨rb, 1, none⟩ = some (.string ⟨RT.s.toArray⟩) := H6.out.cell 0 rfl 1 rfl
 have z2 : wz.cell? ⟨rb, 2, none⟩ = some (.slice aw RT.args.length cw) := H6.out.cell 0 rfl 2 rfl
 have z3 : wz.cell? ⟨rb, 3, none⟩ = some (.slice lw RT.labels.length dw) := H6.out.cell 0 rfl 3 rfl
 have z4 : wz.cell? ⟨rb, 4, none⟩ = some (.bool RT.opn) := H6.out.cell 0 rfl 4 rfl
 refine bodyPost_ret (v := .tuple #[.agg #[.int .i64 RT.kind, .string ⟨RT.s.toArray⟩, .slice aw RT.args.length cw, .slice lw RT.labels.length dw, .bool RT.opn], .bool true]) (by simp [results, Tryz.results10, go_sem, z0, z1, z2, z3, z4]) rfl ?_
 exact ⟨O, aw, cw, lw, dw, rfl, (H6.out.del 0).del 0⟩
set_option maxRecDepth 100000 in
set_option maxHeartbeats 8000000 in
theorem one_deep (TXT : ByteArray) (SP : List Sp) (RT : Ty) (w : World) (E : LexEnv w) (hgo : Goods SP) (hse : spell SP = TXT.data.toList) (hlen : TXT.size ≤ 65536) (hpr : ∀ N, ∃ K, ∀ k, K ≤ k → pLev (toksOf N SP) k 0 0 = some (RT, SP.length)) (hv : verdictI (walkT RT) = 4) (hww : RT.weight ≤ 4194304) :
  Calls Tryz.prog 10 #[.string TXT] w fun e w' => e = .returned (.tuple #[.agg #[.int .i64 0, .string ⟨#[]⟩, .slice none 0 0, .slice none 0 0, .bool false], .bool false]) ∧ Below w.heap.size w w' := by
 have HV := Tre.hid hv
 have HWR := Tre.hid hww
 clear hv hww
 have M0 := (Mem.nil w).allocR #[.int .i64 0, .string ⟨#[]⟩, .slice none 0 0, .slice none 0 0, .bool false] 28
 have hlx := lex.Lex TXT _ (by omega) (E.below M0.below)
 have hle : (spell SP).length = TXT.size := by rw [hse]; rfl
 rw [← hse, lexS_spell hgo (by omega)] at hlx
 obtain ⟨NN, hNN⟩ : ∃ x, (spell SP).length = x := ⟨_, rfl⟩
 rw [hNN] at hlx
 obtain ⟨K, hK⟩ := hpr NN
 have hK1 := hK K (Nat.le_refl _)
 have hix := toks_idx NN hgo
 have hln := toksOf_len NN SP
 have hll : (toksOf NN SP).length ≤ 4194304 := by
  have h := spell_long hgo
  omega
 obtain ⟨TS, hTS⟩ : ∃ x, toksOf NN SP = x := ⟨_, rfl⟩
 rw [hTS] at hlx hK1 hix hln hll
 have HLX := Tre.hid hlx
 have HK := Tre.hid hK1
 have HIX : Hid (idxFunc noEnd TS = ((TS.length - 1 : Nat) : Int)) := hix
 have HLN := Tre.hid hln
 have HLL := Tre.hid hll
 have HX := Tre.hid E.max
 have HM0 := Tre.hid M0
 have hwl : IntKind.i64.wrap ((TS.length : Int) - 1) = (SP.length : Int) := by rw [IntWalk.i64_in _ (by omega)]; omega
 generalize hrb : w.heap.size = rb at HM0
 generalize SP.length = nL at *
 clear hgo hse hpr hlx hNN hK hK1 hix hln hTS hll hle M0
 go_enter Tryz.func10, Tryz.ntmps10
 go_wp2_with fail
 try rw [hrb]
 refine HLX.out.mono ?_
 intro e w1 hp
 rcases hp with ⟨ts, v, hts, rfl, m1⟩ | ⟨hd, _⟩
 rotate_left
 ·cases hd
 cases hts
 have M1 := HM0.out.call m1
 obtain ⟨at_, ct, rfl, _⟩ := M1.val 0 rfl
 have HTK := Tre.hid (toks_of M1 0 rfl rfl)
 have HM1 := Tre.hid M1
 clear m1 M1 HLX HM0
 have hnn := HLN.out
 have HP := Tre.hid (Parse_deep at_ ct TS 0 K nL RT w1 HTK.out HLL.out (by omega) HIX.out (by omega) HK.out HV.out HWR.out (HX.out.below HM1.out.below))
 clear hnn
 go_wp2_with fail
 refine HP.out.mono ?_
 rintro e w2 ⟨rfl, b2⟩
 have M2 := HM1.out.quiet b2
 have M3 := M2.allocR #[.int .i64 0, .string ⟨#[]⟩, .slice none 0 0, .slice none 0 0, .bool false] 28
 generalize hqb : w2.heap.size = qb at M3
 have HM3 : Hid (Mem w (w2.alloc (.cells #[.int .i64 0, .string ⟨#[]⟩, .slice none 0 0, .slice none 0 0, .bool false] 28)) [cellsR qb 28 #[.int .i64 0, .string ⟨#[]⟩, .slice none 0 0, .slice none 0 0, .bool false], cellsR rb 28 #[.int .i64 0, .string ⟨#[]⟩, .slice none 0 0, .slice none 0 0, .bool false]]) := M3.del 1
 clear b2 M2 M3 HM1 HP HTK
 go_upto_region 3 with fail
 try rw [hqb]
 clear hqb
 generalize hw9 : w2.alloc (.cells #[.int .i64 0, .string ⟨#[]⟩, .slice none 0 0, .slice none 0 0, .bool false] 28) = w9 at *
 clear hw9
 have HM9 := HM3
 clear HM3
 have MT : Mem w w9 (cellsR rb 28 #[.int .i64 0, .string ⟨#[]⟩, .slice none 0 0, .slice none 0 0, .bool false] :: _) := HM9.out.front 1 rfl
 have g0 : w9.cell? ⟨rb, 0, none⟩ = some (.int .i64 0) := MT.cell 0 rfl 0 rfl
 have g1 : w9.cell? ⟨rb, 1, none⟩ = some (.string ⟨#[]⟩) := MT.cell 0 rfl 1 rfl
 have g2 : w9.cell? ⟨rb, 2, none⟩ = some (.slice none 0 0) := MT.cell 0 rfl 2 rfl
 have g3 : w9.cell? ⟨rb, 3, none⟩ = some (.slice none 0 0) := MT.cell 0 rfl 3 rfl
 have g4 : w9.cell? ⟨rb, 4, none⟩ = some (.bool false) := MT.cell 0 rfl 4 rfl
 have f0 := MT.free 0 rfl 0
 have f1 := MT.free 0 rfl 1
 have f2 := MT.free 0 rfl 2
 have f3 := MT.free 0 rfl 3
 have f4 := MT.free 0 rfl 4
 have y0 : w9.cell? ⟨qb, 0, none⟩ = some (.int .i64 0) := HM9.out.cell 0 rfl 0 rfl
 have y1 : w9.cell? ⟨qb, 1, none⟩ = some (.string ⟨#[]⟩) := HM9.out.cell 0 rfl 1 rfl
 have y2 : w9.cell? ⟨qb, 2, none⟩ = some (.slice none 0 0) := HM9.out.cell 0 rfl 2 rfl
 have y3 : w9.cell? ⟨qb, 3, none⟩ = some (.slice none 0 0) := HM9.out.cell 0 rfl 3 rfl
 have y4 : w9.cell? ⟨qb, 4, none⟩ = some (.bool false) := HM9.out.cell 0 rfl 4 rfl
 have H6 := Tre.hid (show Mem w (((((w9.setCell ⟨rb, 0, none⟩ (.int .i64 0)).setCell ⟨rb, 1, none⟩ (.string ⟨#[]⟩)).setCell ⟨rb, 2, none⟩ (.slice none 0 0)).setCell ⟨rb, 3, none⟩ (.slice none 0 0)).setCell ⟨rb, 4, none⟩ (.bool false)) (cellsR rb 28 #[.int .i64 0, .string ⟨#[]⟩, .slice none 0 0, .slice none 0 0, .bool false] :: _) from (((((MT.setCell 0 rfl 0 (.int .i64 0)).setCell 0 rfl 1 (.string ⟨#[]⟩)).setCell 0 rfl 2 (.slice none 0 0)).setCell 0 rfl 3 (.slice none 0 0)).setCell 0 rfl 4 (.bool false)))
 clear MT HM9
 go_wp2_with fail
 generalize ((((w9.setCell ⟨rb, 0, none⟩ (.int .i64 0)).setCell ⟨rb, 1, none⟩ (.string ⟨#[]⟩)).setCell ⟨rb, 2, none⟩ (.slice none 0 0)).setCell ⟨rb, 3, none⟩ (.slice none 0 0)).setCell ⟨rb, 4, none⟩ (.bool false) = wz at H6 ⊢
 have z0 : wz.cell? ⟨rb, 0, none⟩ = some (.int .i64 0) := H6.out.cell 0 rfl 0 rfl
 have z1 : wz.cell? ⟨rb, 1, none⟩ = some (.string ⟨#[]⟩) := H6.out.cell 0 rfl 1 rfl
 have z2 : wz.cell? ⟨rb, 2, none⟩ = some (.slice none 0 0) := H6.out.cell 0 rfl 2 rfl
 have z3 : wz.cell? ⟨rb, 3, none⟩ = some (.slice none 0 0) := H6.out.cell 0 rfl 3 rfl
 have z4 : wz.cell? ⟨rb, 4, none⟩ = some (.bool false) := H6.out.cell 0 rfl 4 rfl
 refine bodyPost_ret (v := .tuple #[.agg #[.int .i64 0, .string ⟨#[]⟩, .slice none 0 0, .slice none 0 0, .bool false], .bool false]) (by simp [results, Tryz.results10, go_sem, z0, z1, z2, z3, z4]) rfl ?_
 exact ⟨rfl, by have h := H6.out.below; rwa [hrb] at h⟩
end Go.Proofs.YtbafalfmgibnfaaGreatDoor.typ
