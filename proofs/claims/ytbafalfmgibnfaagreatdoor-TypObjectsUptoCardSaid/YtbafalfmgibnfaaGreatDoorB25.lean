/- trefoilref02.SameType: at types that are the same it is true. typ: the parser gives up. typ: the parser's levels and its atom, where what they call gives up. -/
import Derived.Test.YtbafalfmgibnfaaGreatDoorB24
import Derived.Test.YtbafalfmgibnfaaGreatDoorB04
import Derived.Test.YtbafalfmgibnfaaGreatDoorB11
import Derived.Test.YtbafalfmgibnfaaGreatDoorB19
set_option linter.unusedVariables false
namespace Go.Tre
theorem labels_weight (t : Ty) : t.labels.length + t.args.length ≤ t.weight := by
 cases t with
 | mk k s args labels o =>
  have h1 := weights_len args
  have h2 : ∀ l : List (List UInt8), l.length ≤ (l.map fun x => x.length + 1).sum := fun l => by
   induction l with
   | nil => simp
   | cons x r ih => simp only [List.map_cons, List.sum_cons, List.length_cons]; omega
  have h3 := h2 labels
  rw [Ty.weight]
  show labels.length + args.length ≤ _
  omega
theorem part_weight {t c : Ty} (h : c ∈ t.args) : c.weight < t.weight := by
 cases t with
 | mk k s args labels o =>
  obtain ⟨i, hi⟩ := List.getElem?_of_mem h
  have h1 : c.weight ≤ weights args := weights_at hi
  rw [Ty.weight]
  omega
end Go.Tre
namespace Go.Proofs.YtbafalfmgibnfaaGreatDoor.typ
open Go.RowKit Go.Maps Go.Tre lex
set_option maxRecDepth 100000 in
set_option maxHeartbeats 4000000 in
theorem same_step (t u : Ty) (v v' : Value) (w : World) (hw : t.weight ≤ 8388608) (hT : TyRd w t v) (hU : TyRd w u v')
  (ih : ∀ (c d : Ty) (x y : Value) (W : World), c ∈ t.args → TyRd W c x → TyRd W d y → STy c d x y W) : STy t u v v' w := by
 obtain ⟨aa, ca, al, cl, rfl⟩ := hT.agg
 obtain ⟨ab, cb, bl, dl, rfl⟩ := hU.agg
 obtain ⟨pa, pl⟩ := tyRd_parts hT
 obtain ⟨qa, ql⟩ := tyRd_parts hU
 have hlw := labels_weight t
 have M := ((Mem.nil w).allocR (fiveV t aa al ca cl) 28).allocR (fiveV u ab bl cb dl) 28
 rw [World.size_alloc] at M
 have x0 := M.cell 1 rfl 0 rfl
 have x1 := M.cell 1 rfl 1 rfl
 have x2 := M.cell 1 rfl 2 rfl
 have x3 := M.cell 1 rfl 3 rfl
 have x4 := M.cell 1 rfl 4 rfl
 have y0 := M.cell 0 rfl 0 rfl
 have y1 := M.cell 0 rfl 1 rfl
 have y2 := M.cell 0 rfl 2 rfl
 have y3 := M.cell 0 rfl 3 rfl
 have y4 := M.cell 0 rfl 4 rfl
 have HL := Tre.hid (names_any al bl cl dl t.labels u.labels _ (pl.below M.below) (ql.below M.below) (by omega))
 have HA : Hid (∀ W, Below w.heap.size w W → Calls Tryz.prog 23 #[.slice aa t.args.length ca, .slice ab u.args.length cb] W fun e w' => ∃ r, e = .returned (.bool r) ∧ (t.args = u.args → r = true) ∧ Below W.heap.size W w') := fun W hW =>
  types_any aa ab ca cb t.args u.args W (fun i c hc => by
   obtain ⟨b, off, ax, cx, bx, dx, e, hr, hk⟩ := pa i c hc
   exact ⟨b, off, ax, cx, bx, dx, e, hr.after hW, fun j z hz => cell_below hW (hk j z hz)⟩) (fun i c hc => by
   obtain ⟨b, off, ax, cx, bx, dx, e, hr, hk⟩ := qa i c hc
   exact ⟨b, off, ax, cx, bx, dx, e, hr.after hW, fun j z hz => cell_below hW (hk j z hz)⟩) (by omega) ih
 have HM := Tre.hid M
 have HB := Tre.hid M.below
 unfold STy
 have HEQ : Hid (t = u → t.kind = u.kind ∧ t.s = u.s ∧ t.opn = u.opn ∧ t.labels = u.labels ∧ t.args = u.args) := fun e => by subst e; exact ⟨rfl, rfl, rfl, rfl, rfl⟩
 obtain ⟨TT, hTT⟩ : ∃ P : Prop, (t = u) = P := ⟨_, rfl⟩
 rw [hTT] at HEQ ⊢
 unfold fiveV at *
 clear hT hU pa pl qa ql M ih hw hlw hTT
 generalize t.kind = tk at *
 generalize u.kind = uk at *
 generalize t.s = ts at *
 generalize u.s = us at *
 generalize t.opn = oo at *
 generalize u.opn = op at *
 by_cases hk : tk = uk
 rotate_left
 ·have e1 : ((tk : Int) == (uk : Int)) = false := by
   rw [beq_eq_false_iff_ne]; omega
  have e2 : ¬ ((tk : Int) = (uk : Int)) := by omega
  have HN := Tre.hid hk
  clear hk
  go_enter Tryz.func13, Tryz.ntmps13
  go_wp2_with fail
  go_ret
  exact yesPost (fun e => absurd (HEQ.out e).1 HN.out) HB.out
 subst hk
 by_cases hs : ts = us
 rotate_left
 ·have e1 : (ts == us) = false := by simpa using hs
  have e2 : (ts = us) = False := by simpa using hs
  have HN := Tre.hid hs
  clear hs
  go_enter Tryz.func13, Tryz.ntmps13
  go_wp2_with fail
  go_ret
  exact yesPost (fun e => absurd (HEQ.out e).2.1 HN.out) HB.out
 subst hs
 by_cases ho : oo = op
 rotate_left
 ·have e1 : (oo == op) = false := by simpa using ho
  have HN := Tre.hid ho
  have hou : op = !oo := by cases oo <;> cases op <;> simp_all
  subst hou
  clear ho
  cases oo with
  | true =>
   go_enter Tryz.func13, Tryz.ntmps13
   go_wp2_with fail
   go_ret
   exact yesPost (fun e => absurd (HEQ.out e).2.2.1 HN.out) HB.out
  | false =>
   go_enter Tryz.func13, Tryz.ntmps13
   go_wp2_with fail
   go_ret
   exact yesPost (fun e => absurd (HEQ.out e).2.2.1 HN.out) HB.out
 subst ho
 go_enter Tryz.func13, Tryz.ntmps13
 go_wp2_with fail
 refine HL.out.mono ?_
 rintro e w1 ⟨r1, rfl, h1, b1⟩
 have H1 := Tre.hid h1
 have M1 := HM.out.quiet b1
 clear x0 x1 x2 x3 x4 y0 y1 y2 y3 y4 h1 HL
 cases r1 with
 | false =>
  have HB1 := Tre.hid M1.below
  clear M1 b1
  go_wp2_with fail
  go_ret
  refine yesPost (fun e => ?_) HB1.out
  have := H1.out (HEQ.out e).2.2.2.1
  cases this
 | true =>
  have x2 := M1.cell 1 rfl 2 rfl
  have y2 := M1.cell 0 rfl 2 rfl
  have HB1 := Tre.hid M1.below
  have HAA := Tre.hid (HA.out w1 M1.below)
  clear M1 b1 HA
  go_wp2_with fail
  refine HAA.out.mono ?_
  rintro e w2 ⟨r2, rfl, h2, b2⟩
  have H2 := Tre.hid h2
  have HB2 := Tre.hid (HB1.out.trans (b2.mono HB1.out.size))
  clear x2 y2 h2 HAA b2
  cases r2 with
  | false =>
   go_wp2_with fail
   go_ret
   refine yesPost (fun e => ?_) HB2.out
   have := H2.out (HEQ.out e).2.2.2.2
   cases this
  | true =>
   go_wp2_with fail
   go_ret
   exact yesPost (fun _ => rfl) HB2.out
theorem same_any (N : Nat) : ∀ (t u : Ty) (v v' : Value) (w : World), t.weight ≤ N → N ≤ 8388608 → TyRd w t v → TyRd w u v' → STy t u v v' w := by
 induction N with
 | zero => intro t u v v' w h; have := weight_pos t; omega
 | succ N ih =>
  intro t u v v' w h hN hT hU
  exact same_step t u v v' w (by omega) hT hU fun c d x y W hc hx hy => ih c d x y W (by have := part_weight hc; omega) (by omega) hx hy
end Go.Proofs.YtbafalfmgibnfaaGreatDoor.typ
namespace Go.Proofs.YtbafalfmgibnfaaGreatDoor.typ
open Go.RowKit Go.Tre errs
abbrev vForm : Value := .iface 111 (.agg #[])
abbrev vJoin (q : Nat) : Value := .iface 156 (.pointer (some ⟨q, 0, none⟩))
abbrev vWrong (b : Nat) : Value := .iface 73 (.pointer (some ⟨b, 0, none⟩))
def FailMem (w0 w : World) (q : Nat) (pl : Nat) (rs : List Res) : Prop := ∃ r c bw, Mem w0 w (cellsR q 158 #[.slice (some ⟨r, 0, none⟩) 2 c] :: rowR 59 1 (.slice (some ⟨r, 0, none⟩) 2 c) 2 [vForm, vWrong bw] :: cellsR bw 76 #[.int .i64 pl] :: rs)
def FailPost (w0 : World) (rs : List Res) (e : Ending) (w' : World) : Prop := ∃ q pl : Nat, e = .panicked [{ v := vJoin q, recovered := false }] ∧ FailMem w0 w' q pl rs
set_option maxRecDepth 100000 in
set_option maxHeartbeats 4000000 in
theorem fail_any (w0 : World) (rs : List Res) (p : Value) (pl : Nat) (w : World) (hM : Mem w0 w rs) :
  Calls Tryz.prog 79 #[p, .int .i64 pl] w (FailPost w0 rs) := by
 have M0 := (hM.allocR #[.int .i64 pl] 76).allocR #[vForm, vWrong w.heap.size] 59
 rw [World.size_alloc] at M0
 have HJ := Tre.hid (join2 (w.heap.size + 1) 0 2 111 73 (.agg #[]) (.pointer (some ⟨w.heap.size, 0, none⟩)) _ (M0.cell 0 rfl 0 rfl) (M0.cell 0 rfl 1 rfl) (Nat.le_refl _))
 have HM := Tre.hid (M0.del 0)
 clear M0 hM
 go_enter Tryz.func79, Tryz.ntmps79
 go_wp2_with fail
 refine HJ.out.mono ?_
 rintro e w1 ⟨q, v, rfl, m1⟩
 have M1 := HM.out.call m1
 obtain ⟨a, c, rfl, _⟩ := M1.val 1 rfl
 obtain ⟨r, c', e1, _⟩ := M1.pos 1 rfl
 cases e1
 have HM1 := Tre.hid M1
 clear m1 M1 HM HJ
 go_wp2_with fail
 exact ⟨rfl, q, pl, rfl, r, c, w.heap.size, HM1.out⟩
end Go.Proofs.YtbafalfmgibnfaaGreatDoor.typ
namespace Go.Proofs.YtbafalfmgibnfaaGreatDoor.typ
open Go.RowKit Go.Tre
theorem FailPost.tail {w0 : World} {r : Res} {rs : List Res} {e : Ending} {w : World} (h : FailPost w0 (r :: rs) e w) : FailPost w0 rs e w := by
 obtain ⟨q, pl, he, r', c, bw, m⟩ := h
 exact ⟨q, pl, he, r', c, bw, m.sub (((List.sublist_cons_self _ _).cons_cons _).cons_cons _ |>.cons_cons _)⟩
def Gives (w0 : World) (b : Nat) (ad : Option Addr) (n c i : Nat) (f : FuncId) (args : Array Value) : Prop := ∀ (rs : List Res) (W : World), Mem w0 W (parR b ad n c i :: rs) → Calls Tryz.prog f args W (FailPost w0 rs)
set_option maxRecDepth 100000 in
set_option maxHeartbeats 4000000 in
theorem level3_fail (w0 : World) (b : Nat) (ad : Option Addr) (n c i : Nat) (H : Gives w0 b ad n c i 62 #[.pointer (some ⟨b, 0, none⟩)]) : Gives w0 b ad n c i 42 #[.pointer (some ⟨b, 0, none⟩), .int .i64 3] := by
 intro rs w hM
 have M0 := Tre.hid (hM.allocR #[.int .i64 0, .string ⟨#[]⟩, .slice none 0 0, .slice none 0 0, .bool false] 28)
 have HH := Tre.hid H
 clear H hM
 go_enter Tryz.func42, Tryz.ntmps42
 go_wp2_with fail
 refine (HH.out (cellsR w.heap.size 28 #[.int .i64 0, .string ⟨#[]⟩, .slice none 0 0, .slice none 0 0, .bool false] :: rs) _ (M0.out.front 1 rfl)).mono ?_
 rintro e w1 ⟨q, pl, rfl, hF⟩
 have HF := Tre.hid hF
 clear hF
 go_wp2_with fail
 exact ⟨rfl, FailPost.tail ⟨q, pl, rfl, HF.out⟩⟩
set_option maxRecDepth 100000 in
set_option maxHeartbeats 4000000 in
theorem level2_fail (w0 : World) (b : Nat) (ad : Option Addr) (n c i : Nat) (H : Gives w0 b ad n c i 42 #[.pointer (some ⟨b, 0, none⟩), .int .i64 3]) : Gives w0 b ad n c i 42 #[.pointer (some ⟨b, 0, none⟩), .int .i64 2] := by
 intro rs w hM
 have M0 := Tre.hid (hM.allocR #[.int .i64 0, .string ⟨#[]⟩, .slice none 0 0, .slice none 0 0, .bool false] 28)
 have HH := Tre.hid H
 clear H hM
 go_enter Tryz.func42, Tryz.ntmps42
 go_wp2_with fail
 refine (HH.out (cellsR w.heap.size 28 #[.int .i64 0, .string ⟨#[]⟩, .slice none 0 0, .slice none 0 0, .bool false] :: rs) _ ((M0.out.alloc _).front 1 rfl)).mono ?_
 rintro e w1 ⟨q, pl, rfl, hF⟩
 have HF := Tre.hid hF
 clear hF
 go_wp2_with fail
 exact ⟨rfl, FailPost.tail ⟨q, pl, rfl, HF.out⟩⟩
set_option maxRecDepth 100000 in
set_option maxHeartbeats 4000000 in
theorem level1_fail (w0 : World) (b : Nat) (ad : Option Addr) (n c i : Nat) (H : Gives w0 b ad n c i 42 #[.pointer (some ⟨b, 0, none⟩), .int .i64 2]) : Gives w0 b ad n c i 42 #[.pointer (some ⟨b, 0, none⟩), .int .i64 1] := by
 intro rs w hM
 have M0 := Tre.hid (hM.allocR #[.int .i64 0, .string ⟨#[]⟩, .slice none 0 0, .slice none 0 0, .bool false] 28)
 have HH := Tre.hid H
 clear H hM
 go_enter Tryz.func42, Tryz.ntmps42
 go_wp2_with fail
 refine (HH.out (cellsR w.heap.size 28 #[.int .i64 0, .string ⟨#[]⟩, .slice none 0 0, .slice none 0 0, .bool false] :: rs) _ ((M0.out.alloc _).front 1 rfl)).mono ?_
 rintro e w1 ⟨q, pl, rfl, hF⟩
 have HF := Tre.hid hF
 clear hF
 go_wp2_with fail
 exact ⟨rfl, FailPost.tail ⟨q, pl, rfl, HF.out⟩⟩
set_option maxRecDepth 100000 in
set_option maxHeartbeats 4000000 in
theorem level0_fail (w0 : World) (b : Nat) (ad : Option Addr) (n c i : Nat) (H : Gives w0 b ad n c i 42 #[.pointer (some ⟨b, 0, none⟩), .int .i64 1]) : Gives w0 b ad n c i 42 #[.pointer (some ⟨b, 0, none⟩), .int .i64 0] := by
 intro rs w hM
 have M0 := Tre.hid (hM.allocR #[.int .i64 0, .string ⟨#[]⟩, .slice none 0 0, .slice none 0 0, .bool false] 28)
 have HH := Tre.hid H
 clear H hM
 go_enter Tryz.func42, Tryz.ntmps42
 go_wp2_with fail
 refine (HH.out (cellsR w.heap.size 28 #[.int .i64 0, .string ⟨#[]⟩, .slice none 0 0, .slice none 0 0, .bool false] :: rs) _ (M0.out.front 1 rfl)).mono ?_
 rintro e w1 ⟨q, pl, rfl, hF⟩
 have HF := Tre.hid hF
 clear hF
 go_wp2_with fail
 exact ⟨rfl, FailPost.tail ⟨q, pl, rfl, HF.out⟩⟩
set_option maxRecDepth 100000 in
set_option maxHeartbeats 8000000 in
theorem atom_fail (w0 : World) (b : Nat) (ad : Option Addr) (c : Nat) (l : List Tok) (hl : ToksAt w0 ad l) (hll : l.length ≤ 4194304) (i : Nat) (hi : i < l.length) (q : Tok) (hq : l[i]? = some q) (hk : q.kind = 6) (hs : q.s = [60]) (H : Gives w0 b ad l.length c (i + 1) 81 #[.pointer (some ⟨b, 0, none⟩)]) : Gives w0 b ad l.length c i 62 #[.pointer (some ⟨b, 0, none⟩)] := by
 intro rs w hM
 have h40 : tk l i 6 [40] = false := by unfold tk; rw [hq]; simp [hk, hs]
 have h60 : tk l i 6 [60] = true := by unfold tk; rw [hq]; simp [hk, hs]
 have HT := Tre.hid h40
 have HC := Tre.hid h60
 have HG := Tre.hid H
 have HK := Tre.hid hk
 clear h40 h60 H hk hs
 have M0 := hM.allocR #[.int .i64 0, .string ⟨#[]⟩, .slice none 0 0, .slice none 0 0, .bool false] 28
 obtain ⟨bt, ot, rfl, a0, a1, a2, a3⟩ := (hl.below M0.below).tok hq
 obtain ⟨p0, p1⟩ := M0.two 1 rfl
 have HM := Tre.hid M0
 have HL := Tre.hid hl
 have HQ := Tre.hid hq
 clear hM hl hq M0
 go_enter Tryz.func62, Tryz.ntmps62
 go_wp2_with fail
 have cS : Cond (fun w' => w'.cell? ⟨b, 0, none⟩ = some (.slice (some ⟨bt, ot, none⟩) l.length c) ∧ w'.cell? ⟨b, 1, none⟩ = some (.int .i64 i) ∧ w'.cell? ⟨bt, ot + i * 4, none⟩ = some (.int .i64 q.kind) ∧ w'.cell? ⟨bt, ot + i * 4 + 1, none⟩ = some (.int .i64 q.at_) ∧ w'.cell? ⟨bt, ot + i * 4 + 2, none⟩ = some (.int .i64 q.n) ∧ w'.cell? ⟨bt, ot + i * 4 + 3, none⟩ = some (.string ⟨q.s.toArray⟩)) := ⟨⟩
 refine cS.keep [11] ?_ (fun hH0 => ?_)
 ·exact ⟨p0, p1, a0, a1, a2, a3⟩
 have H0 := Tre.hid HM.out.drew
 generalize hrb : w.heap.size = rb at H0 hH0 ⊢
 generalize hq0 : (w.alloc (.cells #[.int .i64 0, .string ⟨#[]⟩, .slice none 0 0, .slice none 0 0, .bool false] 28)).drew = wq0 at H0 hH0 ⊢
 clear hq0 hrb p0 p1 a0 a1 a2 a3 HM
 refine lPq 0 (some 5) (v := ?_) rfl ?_ (keep_of hH0) ?_
 rotate_left
 ·intro w; go_simp <;> with_reducible rfl
 try simp only [Act.put, zqf, zqg, zqh]
 refine lPq 1 (some 6) (v := ?_) rfl ?_ (keep_of hH0) ?_
 rotate_left
 ·intro w; go_simp <;> with_reducible rfl
 try simp only [Act.put, zqf, zqg, zqh]
 refine lPq 2 (some 7) (v := ?_) rfl ?_ (keep_of hH0) ?_
 rotate_left
 ·intro w; go_simp <;> with_reducible rfl
 try simp only [Act.put, zqf, zqg, zqh]
 refine lPq 4 (some 9) (v := ?_) rfl ?_ (keep_of hH0) ?_
 rotate_left
 ·intro w; go_simp <;> with_reducible rfl
 try simp only [Act.put, zqf, zqg, zqh]
 refine lPq 5 (some 10) (v := ?_) rfl ?_ (keep_of hH0) ?_
 rotate_left
 ·intro w; go_simp <;> with_reducible rfl
 try simp only [Act.put, zqf, zqg, zqh]
 refine lPq 6 (some 11) (v := ?_) rfl ?_ (keep_of hH0) ?_
 rotate_left
 ·intro w; go_simp <;> with_reducible rfl
 try simp only [Act.put, zqf, zqg, zqh]
 refine lTq 3 (some 8) (v := ?_) rfl ?_ hH0 ?_
 rotate_left
 ·intro w hSw; (try dsimp only at hSw); go_simp <;> with_reducible rfl
 try simp only [Act.put, zqf, zqg, zqh]
 refine lTq 7 (some 12) (v := ?_) rfl ?_ hH0 ?_
 rotate_left
 ·intro w hSw; (try dsimp only at hSw); go_simp <;> with_reducible rfl
 try simp only [Act.put, zqf, zqg, zqh]
 refine lPq 8 (some 13) (v := ?_) rfl ?_ (keep_of hH0) ?_
 rotate_left
 ·intro w; go_simp <;> with_reducible rfl
 try simp only [Act.put, zqf, zqg, zqh]
 refine lTq 9 (some 14) (v := ?_) rfl ?_ hH0 ?_
 rotate_left
 ·intro w hSw; (try dsimp only at hSw); go_simp <;> with_reducible rfl
 try simp only [Act.put, zqf, zqg, zqh]
 refine lOne 10 (by kernel_rfl) (LStep.op (fun K hK => ?_))
 have H9 := H0.out.allocR (tokV 0 0 0 ⟨#[]⟩) 92
 have K9 := (Below.refl wq0.heap.size wq0).alloc (Nat.le_refl _) (.cells (tokV 0 0 0 ⟨#[]⟩) 92)
 have k0 := cell_below K9 hH0.1
 have k1 := cell_below K9 hH0.2.1
 have k2 := cell_below K9 hH0.2.2.1
 have k3 := cell_below K9 hH0.2.2.2.1
 have k4 := cell_below K9 hH0.2.2.2.2.1
 have k5 := cell_below K9 hH0.2.2.2.2.2
 go_simp
 generalize htb : wq0.heap.size = qb at H9 ⊢
 generalize hw : wq0.alloc (.cells (tokV 0 0 0 ⟨#[]⟩) 92) = wq1 at H9 k0 k1 k2 k3 k4 k5 ⊢
 have H1 := Tre.hid H9
 have K0 := Tre.hid k0
 have K1 := Tre.hid k1
 have K2 := Tre.hid k2
 have K3 := Tre.hid k3
 have K4 := Tre.hid k4
 have K5 := Tre.hid k5
 clear H9 K9 hw htb k0 k1 k2 k3 k4 k5
 refine hK.out _ _ ?_ (fun hH1 => ?_)
 ·exact ⟨K0.out, K1.out, K2.out, K3.out, K4.out, K5.out⟩
 clear hK K hH0
 try simp only [Act.put, zqf, zqg, zqh]
 refine lOne 11 (by kernel_rfl) (LFall.op (by kernel_rfl) (fun K hK => ?_))
 have g0 := H1.out.cell 0 rfl 0 rfl
 have g1 := H1.out.cell 0 rfl 1 rfl
 have g2 := H1.out.cell 0 rfl 2 rfl
 have g3 := H1.out.cell 0 rfl 3 rfl
 have f0 := H1.out.free 0 rfl 0
 have f1 := H1.out.free 0 rfl 1
 have f2 := H1.out.free 0 rfl 2
 have f3 := H1.out.free 0 rfl 3
 have H9 := ((((H1.out.setCell 0 rfl 0 (.int .i64 q.kind)).setCell 0 rfl 1 (.int .i64 q.at_)).setCell 0 rfl 2 (.int .i64 q.n)).setCell 0 rfl 3 (.string ⟨q.s.toArray⟩))
 go_simp
 generalize hw : ((((wq1.setCell ⟨qb, 0, none⟩ (.int .i64 q.kind)).setCell ⟨qb, 1, none⟩ (.int .i64 q.at_)).setCell ⟨qb, 2, none⟩ (.int .i64 q.n)).setCell ⟨qb, 3, none⟩ (.string ⟨q.s.toArray⟩)) = wq2 at H9 ⊢
 have H2 : Hid (Mem w0 wq2 (cellsR qb 92 (tokV q.kind q.at_ q.n ⟨q.s.toArray⟩) :: cellsR rb 28 #[.int .i64 0, .string ⟨#[]⟩, .slice none 0 0, .slice none 0 0, .bool false] :: parR b (some ⟨bt, ot, none⟩) l.length c i :: rs)) := H9
 clear hw H9 g0 g1 g2 g3 f0 f1 f2 f3
 refine hK.out _ _ ?_
 clear hK K hH1
 try simp only [Act.put, zqf, zqg, zqh]
 refine lDone (by kernel_rfl) ?_
 have y0 := H2.out.cell 0 rfl 0 rfl
 have y3 := H2.out.cell 0 rfl 3 rfl
 have e5 : ((q.kind : Int) == 5) = false := by rw [HK.out]; rfl
 have e1 : ((q.kind : Int) == 1) = false := by rw [HK.out]; rfl
 go_wp2_with fail
 refine (takes w0 _ b _ c l i 6 ⟨#[40]⟩ _ (H2.out.front 2 rfl) HL.out hi hll false HT.out).mono ?_
 rintro e w3 ⟨rfl, M3⟩
 rw [if_neg (by simp)] at M3
 have HM3 := Tre.hid M3
 clear M3
 go_wp2_with fail
 refine (need w0 _ b _ c l i ⟨#[60]⟩ _ HM3.out HL.out hi hll HC.out).mono ?_
 rintro e w4 ⟨rfl, M4⟩
 have HM4 := Tre.hid M4
 clear M4
 go_wp2_with fail
 refine (HG.out _ _ HM4.out).mono ?_
 rintro e w5 ⟨q', pl, rfl, hF⟩
 have HF := Tre.hid hF
 clear hF
 go_wp2_with fail
 exact ⟨rfl, FailPost.tail (FailPost.tail ⟨q', pl, rfl, HF.out⟩)⟩
end Go.Proofs.YtbafalfmgibnfaaGreatDoor.typ
