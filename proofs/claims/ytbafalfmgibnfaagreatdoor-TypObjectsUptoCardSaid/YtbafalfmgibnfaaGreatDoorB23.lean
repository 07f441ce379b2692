/- typ.put at every type that may be; typ.Put. Law 3: the document's example. Layer 3, plain: a type out of its parts in prefix order. law 3: are parts more than are looked at? A row of parts without its first one. -/
import Derived.Test.YtbafalfmgibnfaaGreatDoorB22
import Derived.Test.YtbafalfmgibnfaaGreatDoorB20
import Derived.Test.YtbafalfmgibnfaaGreatDoorB15
import Derived.Test.YtbafalfmgibnfaaGreatDoorB03
import Derived.Test.YtbafalfmgibnfaaGreatDoorB13
set_option linter.unusedVariables false
namespace Go.Proofs.YtbafalfmgibnfaaGreatDoor.typ
open Go.RowKit Go.Maps Go.Tre gr
set_option maxRecDepth 100000 in
set_option maxHeartbeats 4000000 in
theorem put_obj (args : List Ty) (labels : List (List UInt8)) (o : Bool) (hla : labels.length = args.length) (hF : ∀ t ∈ args, Fine t) (ih : ∀ t ∈ args, Pu t) : Pu (.mk 3 [] args labels o) := by
 intro w0 w b out rs v lev hT hM hlen hlev
 obtain ⟨aa, ca, al, cl, rfl⟩ := hT.agg
 have hB := hM.allocR #[.int .i64 3, .string ⟨([] : List UInt8).toArray⟩, .slice aa args.length ca, .slice al labels.length cl, .bool o] 28
 have z0 := hB.rest.cell 0 rfl 0 rfl
 have z1 := hB.rest.cell 0 rfl 1 rfl
 have z2 := hB.rest.cell 0 rfl 2 rfl
 have z3 := hB.rest.cell 0 rfl 3 rfl
 have z4 := hB.rest.cell 0 rfl 4 rfl
 have hl1 : ¬ ((3 : Int) < (lev : Int)) := by omega
 have HO := Tre.hid (put_object args labels o hla hF ih w0 _ b out _ _ hT hB hlen)
 have HE : Hid (spell (spT (.mk 3 [] args labels o) lev false) = spell (spOwn 3 [] (spTs args) labels o false)) := by
  show _ = _
  rw [spT]
  unfold spWrap
  rw [if_neg (by show ¬ 3 < lev; omega)]
 clear hT hM hB hlen hlev hla hF ih
 simp only [Ty.kind, Ty.s, Ty.args, Ty.labels, Ty.opn] at HO ⊢
 go_enter_defers Tryz.func16, Tryz.ntmps16
 go_wp2_with fail
 refine HO.out.mono ?_
 rintro e w1 ⟨rfl, h1⟩
 have HZ := Tre.hid h1
 clear h1 HO z0 z1 z2 z3 z4
 go_wp2_with fail
 exact ⟨_, results_none rfl _ _ _, rfl, by rw [HE.out]; exact HZ.out.subs (List.sublist_cons_self ..)⟩
theorem put_any {t : Ty} (h : Fine t) : Pu t := by
 induction h with
 | var s _ => intro w0 w b out rs v lev hT hM hlen hlev; exact put_var s w0 w b out rs v lev hT hM hlen hlev
 | base s hs => intro w0 w b out rs v lev hT hM hlen hlev; exact put_base s hs w0 w b out rs v lev hT hM hlen hlev
 | bind s a _ ha ih =>
  intro w0 w b out rs v lev hT hM hlen hlev
  by_cases hc : 0 < lev
  ·exact put_asB s a ha ih w0 w b out rs v lev hT hM hlen hlev hc
  ·exact put_as s a ha ih w0 w b out rs v lev hT hM hlen hlev hc
 | op n a u hn ha hu iha ihu =>
  intro w0 w b out rs v lev hT hM hlen hlev
  rcases hn with rfl | rfl
  ·by_cases hc : 1 < lev
   ·exact put_op1B a u ha hu iha ihu w0 w b out rs v lev hT hM hlen hlev hc
   ·exact put_op1 a u ha hu iha ihu w0 w b out rs v lev hT hM hlen hlev hc
  ·by_cases hc : 2 < lev
   ·exact put_op2B a u ha hu iha ihu w0 w b out rs v lev hT hM hlen hlev hc
   ·exact put_op2 a u ha hu iha ihu w0 w b out rs v lev hT hM hlen hlev hc
 | obj args labels o hla _ _ hF ih => exact put_obj args labels o hla hF ih
theorem fine_walk {t : Ty} (h : verdictI (walkT t) = 0) : 0 ≤ walkT t := by
 unfold verdictI at h
 split at h
 ·cases h
 ·omega
set_option maxRecDepth 100000 in
set_option maxHeartbeats 4000000 in
theorem Put_any (t : Ty) (v : Value) (w : World) (hT : TyRd w t v) (hw : t.weight ≤ 4194304) (hm : MaxAt w) :
  Calls Tryz.prog 9 #[v] w fun e w' => e = .returned (.tuple #[.string ⟨(if verdictI (walkT t) = 0 then putS t else []).toArray⟩, .int .i64 (verdictI (walkT t))]) ∧ Below w.heap.size w w' := by
 obtain ⟨aa, ca, al, cl, rfl⟩ := hT.agg
 have M := (Mem.nil w).allocR #[.int .i64 t.kind, .string ⟨t.s.toArray⟩, .slice aa t.args.length ca, .slice al t.labels.length cl, .bool t.opn] 28
 have z0 := M.cell 0 rfl 0 rfl
 have z1 := M.cell 0 rfl 1 rfl
 have z2 := M.cell 0 rfl 2 rfl
 have z3 := M.cell 0 rfl 3 rfl
 have z4 := M.cell 0 rfl 4 rfl
 have HC := Tre.hid (tree.check_rd t _ _ hw (hT.after M.below) (hm.below M.below))
 have HT := Tre.hid hT
 have HM := Tre.hid M
 obtain ⟨vd, hvd⟩ : ∃ vd, verdictI (walkT t) = vd := ⟨_, rfl⟩
 rw [hvd] at HC ⊢
 obtain ⟨pt, hpt⟩ : ∃ pt, (if vd = 0 then putS t else []) = pt := ⟨_, rfl⟩
 rw [hpt]
 have HVD := Tre.hid hvd
 have HPT := Tre.hid hpt
 clear hT M hm hvd hpt
 generalize hbx : w.heap.size = bx at *
 go_enter Tryz.func9, Tryz.ntmps9
 go_wp2_with fail
 try rw [hbx]
 refine HC.out.mono ?_
 rintro e w1 ⟨rfl, b1⟩
 have M1 := HM.out.quiet b1
 clear z0 z1 z2 z3 z4
 have z0 := M1.cell 0 rfl 0 rfl
 have z1 := M1.cell 0 rfl 1 rfl
 have z2 := M1.cell 0 rfl 2 rfl
 have z3 := M1.cell 0 rfl 3 rfl
 have z4 := M1.cell 0 rfl 4 rfl
 have HM1 := Tre.hid M1
 clear b1 M1 HC HM
 by_cases hv : vd = 0
 ·subst hv
  have hF := fine_of _ t (Nat.le_refl _) (fine_walk HVD.out)
  have HB := Tre.hid (BldM.new HM1.out)
  have HP := Tre.hid (put_any hF w _ w1.heap.size [] _ _ 0 HT.out HB.out (by simp only [List.length_nil]; omega) (by omega))
  have hb0 := HB.out.rest
  have y0 := hb0.cell 0 rfl 0 rfl
  have y1 := hb0.cell 0 rfl 1 rfl
  have y2 := hb0.cell 0 rfl 2 rfl
  have y3 := hb0.cell 0 rfl 3 rfl
  have y4 := hb0.cell 0 rfl 4 rfl
  have HPS : Hid (pt = [] ++ spell (spT t 0 false)) := by
   have h := HPT.out
   rw [if_pos rfl] at h
   exact h.symm
  clear hF HM1 hb0 z0 z1 z2 z3 z4 HB
  go_wp2_with fail
  refine HP.out.mono ?_
  rintro e w2 ⟨rfl, h2⟩
  rw [← HPS.out] at h2
  have H2 := Tre.hid (bText h2)
  clear h2 HP y0 y1 y2 y3 y4
  go_wp2_with fail
  refine H2.out.mono ?_
  rintro e w3 ⟨rfl, b3⟩
  have HB3 := Tre.hid b3
  clear b3 H2
  go_wp2_with fail
  go_ret2
  exact ⟨rfl, by have h := HB3.out; rwa [hbx] at h⟩
 ·have hne : (vd == 0) = false := by simpa using hv
  have hpt := HPT.out
  rw [if_neg hv] at hpt
  subst hpt
  have HB := Tre.hid HM1.out.below
  clear hv HM1
  go_wp2_with fail
  go_ret2
  refine ⟨rfl, ?_⟩
  have := HB.out
  rw [hbx] at this
  exact this
end Go.Proofs.YtbafalfmgibnfaaGreatDoor.typ
namespace Go.Tre
def textE : List UInt8 := [105, 110, 116, 32, 45, 62, 32, 40, 105, 110, 116, 32, 45, 62, 32, 39, 97, 41, 32, 42, 32, 98, 111, 111, 108, 32, 97, 115, 32, 39, 98]
def toksE : List Tok := [⟨1, 0, 0, [105, 110, 116]⟩, ⟨6, 4, 0, [45, 62]⟩, ⟨6, 7, 0, [40]⟩, ⟨1, 8, 0, [105, 110, 116]⟩, ⟨6, 12, 0, [45, 62]⟩, ⟨5, 15, 0, [97]⟩, ⟨6, 17, 0, [41]⟩, ⟨6, 19, 0, [42]⟩, ⟨1, 21, 0, [98, 111, 111, 108]⟩, ⟨2, 26, 0, [97, 115]⟩, ⟨5, 29, 0, [98]⟩, ⟨0, 31, 0, []⟩]
def intE : Ty := .mk 2 [105, 110, 116] [] [] false
def tyE : Ty := .mk 4 [98] [.mk 2 [45, 62] [intE, .mk 2 [42] [.mk 2 [45, 62] [intE, .mk 1 [97] [] [] false] [] false, .mk 2 [98, 111, 111, 108] [] [] false] [] false] [] false] [] false
theorem lexE : lexS textE = some toksE := lexS_of (by decide) (by decide)
theorem parseE : pLev toksE 60 0 0 = some (tyE, 11) := by rfl
theorem mayE : verdictI (walkT tyE) = 0 := by decide +kernel
theorem putE : putS tyE = textE := by decide +kernel
end Go.Tre
namespace Go.Proofs.YtbafalfmgibnfaaGreatDoor.typ
open Go.RowKit Go.Maps Go.Tre gr lex tree
set_option maxRecDepth 100000 in
set_option maxHeartbeats 8000000 in
theorem alive03 (w : World) (E : LexEnv w) :
  Calls Tryz.prog 6 #[] w fun e w' => e = .returned (.bool true) ∧ Below w.heap.size w w' := by
 have hlx := lex.Lex ⟨textE.toArray⟩ w (by decide) E
 have e0 : (⟨textE.toArray⟩ : ByteArray).data.toList = textE := rfl
 rw [e0, lexE] at hlx
 have HLX := Tre.hid hlx
 have HX := Tre.hid E.max
 clear hlx E e0
 unfold textE at HLX
 go_enter Tryz.func6, Tryz.ntmps6
 go_wp2_with fail
 refine HLX.out.mono ?_
 intro e w1 hp
 rcases hp with ⟨ts, v, hts, rfl, m1⟩ | ⟨hd, _⟩
 rotate_left
 ·cases hd
 cases hts
 obtain ⟨at_, ct, rfl, _⟩ := m1.val 0 rfl
 have HM1 := Tre.hid m1
 have HP := Tre.hid (Parse_ok at_ ct toksE 0 60 11 tyE w1 (toks_of m1 0 rfl rfl) (by decide) (by decide) (by decide) (by decide) parseE mayE (by decide +kernel) (HX.out.below m1.below))
 clear m1 HLX
 go_wp2_with fail
 refine HP.out.mono ?_
 rintro e w2 ⟨O, aa, ca, al, cl, rfl, m2⟩
 have M2 := HM1.out.call m2
 have M3 := M2.allocR #[.int .i64 tyE.kind, .string ⟨tyE.s.toArray⟩, .slice aa tyE.args.length ca, .slice al tyE.labels.length cl, .bool tyE.opn] 28
 have y0 := M3.cell 0 rfl 0 rfl
 have y1 := M3.cell 0 rfl 1 rfl
 have y2 := M3.cell 0 rfl 2 rfl
 have y3 := M3.cell 0 rfl 3 rfl
 have y4 := M3.cell 0 rfl 4 rfl
 have hty := M3.at_ 1 rfl
 have hpt := Put_any tyE _ _ hty.1.rd (by decide +kernel) (HX.out.below M3.below)
 rw [if_pos mayE, putE, mayE] at hpt
 have HPT := Tre.hid hpt
 have HM3 := Tre.hid M3
 clear m2 M2 M3 hty hpt HP HM1
 unfold textE at HPT
 go_wp2_with fail
 refine HPT.out.mono ?_
 rintro e w4 ⟨rfl, b4⟩
 have M4 := HM3.out.quiet b4
 clear y0 y1 y2 y3 y4
 have y0 : w4.cell? ⟨w2.heap.size, 0, none⟩ = some (.int .i64 4) := M4.cell 0 rfl 0 rfl
 have HB := Tre.hid M4.below
 clear b4 M4 HM3 HPT
 go_wp2_with fail
 go_ret
 exact ⟨rfl, HB.out⟩
end Go.Proofs.YtbafalfmgibnfaaGreatDoor.typ
namespace Go.Tre
open Go.RowKit
structure Prt where
 kind : Nat
 s : List UInt8
 args : Nat
 opn : Bool
def bitB (a i : Nat) : Bool := decide (a / 2 ^ i % 2 = 1)
def fieldName : Nat → List UInt8
 | 0 => [97]
 | 1 => [98]
 | 2 => [109]
 | _ => [110]
def labs (a : Nat) : Nat → List (List UInt8)
 | 0 => []
 | i + 1 => labs a i ++ (if bitB a i = true then [fieldName i] else [])
def Prt.n (p : Prt) : Nat := if p.kind % 5 = 3 then (labs p.args 4).length else p.args % 4
def Prt.labels (p : Prt) : List (List UInt8) := if p.kind % 5 = 3 then labs p.args 4 else []
def tyI : Ty := .mk 2 [105, 110, 116] [] [] false
def ofsF (f : List Prt → Ty × List Prt) : Nat → List Prt → List Ty × List Prt
 | 0, l => ([], l)
 | n + 1, l => ((f l).1 :: (ofsF f n (f l).2).1, (ofsF f n (f l).2).2)
def ofP : Nat → List Prt → Ty × List Prt
 | 0, _ => (tyI, [])
 | _ + 1, [] => (tyI, [])
 | K + 1, p :: l => (.mk (p.kind % 5) p.s (ofsF (ofP K) p.n l).1 p.labels p.opn, (ofsF (ofP K) p.n l).2)
def ofTy (l : List Prt) : Ty := (ofP (l.length + 1) l).1
theorem labs_len (a : Nat) : ∀ i, (labs a i).length ≤ i
 | 0 => by unfold labs; simp
 | i + 1 => by
  have := labs_len a i
  unfold labs
  rw [List.length_append]
  split <;> simp <;> omega
theorem Prt.n_le (p : Prt) : p.n ≤ 4 := by
 unfold Prt.n
 split
 ·exact labs_len _ 4
 ·omega
theorem ofsF_rest {f : List Prt → Ty × List Prt} (hf : ∀ l, (f l).2.length ≤ l.length) : ∀ (n : Nat) (l : List Prt), (ofsF f n l).2.length ≤ l.length
 | 0, _ => Nat.le_refl _
 | n + 1, l => Nat.le_trans (ofsF_rest hf n (f l).2) (hf l)
theorem ofP_rest : ∀ (K : Nat) (l : List Prt), (ofP K l).2.length ≤ l.length
 | 0, l => Nat.zero_le _
 | _ + 1, [] => Nat.le_refl _
 | K + 1, p :: l => by
  have := ofsF_rest (ofP_rest K) p.n l
  rw [ofP, List.length_cons]
  exact Nat.le_succ_of_le this
def partCost (l : List Prt) : Nat := (l.map fun p => 30 + p.s.length).sum
theorem labs_w (a : Nat) : ∀ i, ((labs a i).map fun x => x.length + 1).sum ≤ 2 * i
 | 0 => by unfold labs; simp
 | i + 1 => by
  have := labs_w a i
  unfold labs
  rw [List.map_append, List.sum_append]
  split
  ·have : (fieldName i).length = 1 := by unfold fieldName; split <;> rfl
   simp only [List.map_cons, List.map_nil, List.sum_cons, List.sum_nil, this]; omega
  ·simp; omega
theorem ofsF_cost {f : List Prt → Ty × List Prt} (hf : ∀ l, (f l).1.weight + partCost (f l).2 ≤ partCost l + 4) : ∀ (n : Nat) (l : List Prt), weights (ofsF f n l).1 + partCost (ofsF f n l).2 ≤ partCost l + 4 * n
 | 0, l => by rw [ofsF]; unfold weights; simp
 | n + 1, l => by
  have h1 := hf l
  have h2 := ofsF_cost hf n (f l).2
  rw [ofsF]
  unfold weights
  simp only
  omega
theorem ofP_cost : ∀ (K : Nat) (l : List Prt), (ofP K l).1.weight + partCost (ofP K l).2 ≤ partCost l + 4
 | 0, l => by rw [ofP]; simp [tyI, Ty.weight, weights, partCost]
 | _ + 1, [] => by rw [ofP]; simp [tyI, Ty.weight, weights, partCost]
 | K + 1, p :: l => by
  have h1 := ofsF_cost (ofP_cost K) p.n l
  have h2 := p.n_le
  have h3 : (p.labels.map fun x => x.length + 1).sum ≤ 8 := by
   unfold Prt.labels
   split
   ·exact labs_w _ 4
   ·simp
  rw [ofP, Ty.weight]
  have e : partCost (p :: l) = 30 + p.s.length + partCost l := by unfold partCost; simp
  rw [e]
  simp only
  omega
theorem ofTy_weight (l : List Prt) : (ofTy l).weight ≤ partCost l + 4 := by
 have := ofP_cost (l.length + 1) l
 unfold ofTy
 omega
def partsBig (l : List Prt) : Nat := (l.map fun p => min p.s.length 10000).sum
theorem partCost_le : ∀ {l : List Prt} {m : Nat}, partsBig l ≤ m → m < 10000 → partCost l ≤ 30 * l.length + m
 | [], m, h, _ => by unfold partCost; simp
 | p :: l, m, h, hm => by
  unfold partsBig at h
  simp only [List.map_cons, List.sum_cons] at h
  have := partCost_le (l := l) (m := m - min p.s.length 10000) (by unfold partsBig; omega) (by omega)
  unfold partCost at this ⊢
  simp only [List.map_cons, List.sum_cons, List.length_cons]
  omega
def Ty.texts : Ty → List (List UInt8) → Prop := fun t S => ∀ (i : Nat), i = i → t.s ∈ S
/-! in memory -/
def PrtAt (w : World) (b p : Nat) (x : Prt) : Prop := w.cell? ⟨b, p, none⟩ = some (.int .u8 x.kind) ∧ w.cell? ⟨b, p + 1, none⟩ = some (.string ⟨x.s.toArray⟩) ∧ w.cell? ⟨b, p + 2, none⟩ = some (.int .u8 x.args) ∧ w.cell? ⟨b, p + 3, none⟩ = some (.bool x.opn) ∧ x.kind < 256 ∧ x.args < 256
structure PrtsAt (w : World) (a : Option Addr) (l : List Prt) : Prop where
 at_ : ∀ (k : Nat) (x : Prt), l[k]? = some x → ∃ b off, a = some ⟨b, off, none⟩ ∧ PrtAt w b (off + k * 4) x
theorem PrtsAt.below {w w' : World} {a : Option Addr} {l : List Prt} (h : PrtsAt w a l) (hb : Below w.heap.size w w') : PrtsAt w' a l := ⟨fun k x hx => by
 obtain ⟨b, off, e, h0, h1, h2, h3, h4⟩ := h.at_ k x hx
 exact ⟨b, off, e, cell_below hb h0, cell_below hb h1, cell_below hb h2, cell_below hb h3, h4⟩⟩
theorem PrtsAt.nil (w : World) (a : Option Addr) : PrtsAt w a [] := ⟨fun k x h => by simp at h⟩
theorem PrtsAt.tail {w : World} {b off : Nat} {p : Prt} {l : List Prt} (h : PrtsAt w (some ⟨b, off, none⟩) (p :: l)) : PrtsAt w (some ⟨b, off + 4, none⟩) l := ⟨fun k x hx => by
 obtain ⟨b', off', e, h0⟩ := h.at_ (k + 1) x (by simpa using hx)
 cases e
 refine ⟨b, off + 4, rfl, ?_⟩
 rw [show off + 4 + k * 4 = off + (k + 1) * 4 by omega]; exact h0⟩
theorem and_fin : ∀ x : Fin 256, IntKind.u8.wrap (((BitVec.ofInt 8 (x.val : Int) &&& BitVec.ofInt 8 1).toNat : Nat) : Int) = ((x.val % 2 : Nat) : Int) := by decide +kernel
theorem bits_and (x : Nat) (hx : x < 256) : bits BinOp.and IntKind.u8 (x : Int) 1 = ((x % 2 : Nat) : Int) := by
 have h := and_fin ⟨x, hx⟩
 exact h
end Go.Tre
namespace Go.Tre
def great3B (l : List Prt) : Bool := decide (400 < l.length) || decide (5000 < partsBig l)
theorem partsBig_take_succ {l : List Prt} {k : Nat} {p : Prt} (h : l[k]? = some p) : partsBig (l.take (k + 1)) = partsBig (l.take k) + min p.s.length 10000 := by
 unfold partsBig
 rw [List.take_add_one, h]; simp
theorem partsBig_le (l : List Prt) : partsBig l ≤ 10000 * l.length := by
 induction l with
 | nil => simp [partsBig]
 | cons p l ih => unfold partsBig at ih ⊢; simp only [List.map_cons, List.sum_cons, List.length_cons]; omega
theorem great3_small {l : List Prt} (h : great3B l = false) : (ofTy l).weight ≤ 17004 ∧ l.length ≤ 400 := by
 unfold great3B at h
 simp at h
 have h1 := ofTy_weight l
 have h2 := partCost_le (l := l) (m := 5000) (by omega) (by omega)
 omega
end Go.Tre
namespace Go.Proofs.YtbafalfmgibnfaaGreatDoor.part
open Go.RowKit Go.Maps Go.Tre lex gr
set_option maxRecDepth 100000 in
set_option maxHeartbeats 2000000 in
theorem great3_any (a : Option Addr) (cap : Nat) (l : List Prt) (w : World) (hl : PrtsAt w a l) (hlen : l.length ≤ 1048576) :
  Calls Tryz.prog 7 #[.slice a l.length cap] w fun e w' => e = .returned (.bool (great3B l)) ∧ Below w.heap.size w w' := by
 have HL := Tre.hid hl
 clear hl
 go_enter Tryz.func7, Tryz.ntmps7
 go_wp2_with fail
 go_loopw [3, 8] (fun t i wr => ∃ k : Nat, k ≤ l.length ∧ i = .int .i64 k ∧ t = .int .i64 (partsBig (l.take k)) ∧ Hid (Below w.heap.size w wr)) (fun _ i _ => l.length - (intOf i).toNat)
 case atStart => exact ⟨0, Nat.zero_le _, rfl, by rw [List.take_zero]; rfl, Below.refl _ _⟩
 case round =>
  obtain ⟨k, hk, rfl, rfl, HB⟩ := hrel
  by_cases hlt : k < l.length
  ·obtain ⟨p, hp⟩ : ∃ p, l[k]? = some p := ⟨_, List.getElem?_eq_getElem hlt⟩
   obtain ⟨b, off, rfl, h0, h1, h2, h3, _, _⟩ := (HL.out.below HB.out).at_ k p hp
   have hs := Tre.hid (partsBig_take_succ hp)
   have hb2 := partsBig_le (l.take k)
   rw [List.length_take] at hb2
   have M := Tre.hid ((Mem.of_below HB.out).allocR #[.int .u8 p.kind, .string ⟨p.s.toArray⟩, .int .u8 p.args, .bool p.opn] 48)
   have c1 := M.out.cell 0 rfl 1 rfl
   generalize hS : partsBig (l.take k) = S at *
   clear hS hp
   have hmn : (min (p.s.length : Int) 10000) = ((min p.s.length 10000 : Nat) : Int) := by omega
   have ew : IntKind.i64.wrap ((S : Int) + ((min p.s.length 10000 : Nat) : Int)) = (S : Int) + ((min p.s.length 10000 : Nat) : Int) := IntWalk.i64_in _ (by omega)
   go_wp2_with fail
   go_roundw
   case rel => exact ⟨k + 1, by omega, by go_num, by rw [hs.out]; go_num, M.out.below⟩
   case measure => simp [intOf]; omega
  ·have hk' : k = l.length := by omega
   subst hk'
   rw [List.take_length]
   have hg : great3B l = (decide (400 < l.length) || decide (5000 < partsBig l)) := rfl
   generalize partsBig l = S at *
   have HG := Tre.hid hg
   clear hg
   by_cases t1 : 400 < l.length
   ·have t2 : (400 : Int) < (l.length : Int) := by omega
    go_wp2_with fail
    go_ret
    exact ⟨ret_bool (by rw [HG.out, decide_eq_true t1]; rfl), HB.out⟩
   ·have t2 : ¬ (400 : Int) < (l.length : Int) := by omega
    by_cases t3 : 5000 < S
    ·have t4 : (5000 : Int) < (S : Int) := by omega
     go_wp2_with fail
     go_ret
     exact ⟨ret_bool (by rw [HG.out, decide_eq_true t3, Bool.or_true]), HB.out⟩
    ·have t4 : ¬ (5000 : Int) < (S : Int) := by omega
     go_wp2_with fail
     go_ret
     exact ⟨ret_bool (by rw [HG.out, decide_eq_false t1, decide_eq_false t3]; rfl), HB.out⟩
end Go.Proofs.YtbafalfmgibnfaaGreatDoor.part
namespace Go.Proofs.YtbafalfmgibnfaaGreatDoor.part
open Go.RowKit Go.Maps Go.Tre lex gr
theorem tail_slice (b off n cap : Nat) (hcap : n + 1 ≤ cap) : ∃ a1 : Option Addr, (a1 = some ⟨b, off + 4, none⟩ ∨ n = 0) ∧ ∀ w, (Instr.sliceAt 22 (.slice (some ⟨b, off, none⟩) (n + 1) cap) (some (.int .i64 1)) none none).run Tryz.prog w = .ok (.slice a1 n (cap - 1)) w := by
 by_cases hc : cap = 1
 ·subst hc
  obtain rfl : n = 0 := by omega
  refine ⟨some ⟨b, off, none⟩, .inr rfl, fun w => ?_⟩
  go_simp <;> with_reducible rfl
 ·refine ⟨_, .inl rfl, fun w => ?_⟩
  go_simp
  intro h; omega
end Go.Proofs.YtbafalfmgibnfaaGreatDoor.part
