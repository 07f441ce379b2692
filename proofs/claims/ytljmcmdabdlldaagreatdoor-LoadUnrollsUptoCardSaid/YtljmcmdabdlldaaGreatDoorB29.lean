/- typ: level at every fuel. typ: (*parser).run, where it comes to a type. typ.Parse, where it comes to a type that may be. lex.Lex: a text's tokens, or the error's number. Layer 7, plain: a text, read as a graph: each step of the way. load.Read, where it comes to a graph. -/
import Derived.Test.YtljmcmdabdlldaaGreatDoorB26
import Derived.Test.YtljmcmdabdlldaaGreatDoorB28
import Derived.Defers
import Derived.Recover
import Derived.Test.YtljmcmdabdlldaaGreatDoorB20
import Derived.Test.YtljmcmdabdlldaaGreatDoorB15
import Derived.Test.YtljmcmdabdlldaaGreatDoorB06
import Derived.Test.YtljmcmdabdlldaaGreatDoorB16
import Derived.Test.YtljmcmdabdlldaaGreatDoorB25
set_option linter.unusedVariables false
namespace Go.Proofs.YtljmcmdabdlldaaGreatDoor.typ
open Go.RowKit Go.Tre
set_option maxRecDepth 100000 in
set_option maxHeartbeats 8000000 in
theorem level3 (w0 : World) (b : Nat) (ad : Option Addr) (c : Nat) (l : List Tok) (hl : ToksAt w0 ad l) (he : TokEnds l) (hll : l.length ≤ 4194304) (k : Nat) (ih : LevAt w0 b ad c l k) (ho : ObjAt w0 b ad c l k) (rs : List Res) (i j : Nat) (t : Ty) (w : World) (hi : i < l.length) (hp : pLev l (k + 1) 3 i = some (t, j)) (hM : Mem w0 w (parR b ad l.length c i :: rs)) :
  Calls Tryz.prog 79 #[.pointer (some ⟨b, 0, none⟩), .int .i64 3] w (LevPost w0 b ad c l rs t j) := by
 have M0 := Tre.hid (hM.allocR #[.int .i64 0, .string ⟨#[]⟩, .slice none 0 0, .slice none 0 0, .bool false] 28)
 have HA := Tre.hid (atom_any w0 b ad c l hl he hll k ih ho (cellsR w.heap.size 28 #[.int .i64 0, .string ⟨#[]⟩, .slice none 0 0, .slice none 0 0, .bool false] :: rs) i j t _ hi hp (M0.out.front 1 rfl))
 clear hl he ih ho hp hM
 go_enter Tryz.func79, Tryz.ntmps79
 go_wp2_with fail
 refine HA.out.mono ?_
 rintro e w1 ⟨O, aa, ca, al, cl, rfl, hj1, M1⟩
 generalize w.heap.size = tb at *
 have HM1 := Tre.hid M1
 have HJ := Tre.hid hj1
 clear M1 hj1 M0 HA
 have MT : Mem w0 w1 (cellsR tb 28 #[.int .i64 0, .string ⟨#[]⟩, .slice none 0 0, .slice none 0 0, .bool false] :: _) := HM1.out.front 2 rfl
 have g0 : w1.cell? ⟨tb, 0, none⟩ = some (.int .i64 0) := MT.cell 0 rfl 0 rfl
 have g1 : w1.cell? ⟨tb, 1, none⟩ = some (.string ⟨#[]⟩) := MT.cell 0 rfl 1 rfl
 have g2 : w1.cell? ⟨tb, 2, none⟩ = some (.slice none 0 0) := MT.cell 0 rfl 2 rfl
 have g3 : w1.cell? ⟨tb, 3, none⟩ = some (.slice none 0 0) := MT.cell 0 rfl 3 rfl
 have g4 : w1.cell? ⟨tb, 4, none⟩ = some (.bool false) := MT.cell 0 rfl 4 rfl
 have f0 := MT.free 0 rfl 0
 have f1 := MT.free 0 rfl 1
 have f2 := MT.free 0 rfl 2
 have f3 := MT.free 0 rfl 3
 have f4 := MT.free 0 rfl 4
 have M6 : Mem w0 (((((w1.setCell ⟨tb, 0, none⟩ (.int .i64 (t.kind : Int))).setCell ⟨tb, 1, none⟩ (.string ⟨t.s.toArray⟩)).setCell ⟨tb, 2, none⟩ (.slice aa t.args.length ca)).setCell ⟨tb, 3, none⟩ (.slice al t.labels.length cl)).setCell ⟨tb, 4, none⟩ (.bool t.opn)) (cellsR tb 28 #[.int .i64 (t.kind : Int), .string ⟨t.s.toArray⟩, .slice aa t.args.length ca, .slice al t.labels.length cl, .bool t.opn] :: _) := (((((MT.setCell 0 rfl 0 (.int .i64 (t.kind : Int))).setCell 0 rfl 1 (.string ⟨t.s.toArray⟩)).setCell 0 rfl 2 (.slice aa t.args.length ca)).setCell 0 rfl 3 (.slice al t.labels.length cl)).setCell 0 rfl 4 (.bool t.opn))
 have HM6 := Tre.hid M6
 clear M6 MT
 go_wp2_with fail
 have z0 : (((((w1.setCell ⟨tb, 0, none⟩ (.int .i64 (t.kind : Int))).setCell ⟨tb, 1, none⟩ (.string ⟨t.s.toArray⟩)).setCell ⟨tb, 2, none⟩ (.slice aa t.args.length ca)).setCell ⟨tb, 3, none⟩ (.slice al t.labels.length cl)).setCell ⟨tb, 4, none⟩ (.bool t.opn)).cell? ⟨tb, 0, none⟩ = some (.int .i64 (t.kind : Int)) := HM6.out.cell 0 rfl 0 rfl
 have z1 : (((((w1.setCell ⟨tb, 0, none⟩ (.int .i64 (t.kind : Int))).setCell ⟨tb, 1, none⟩ (.string ⟨t.s.toArray⟩)).setCell ⟨tb, 2, none⟩ (.slice aa t.args.length ca)).setCell ⟨tb, 3, none⟩ (.slice al t.labels.length cl)).setCell ⟨tb, 4, none⟩ (.bool t.opn)).cell? ⟨tb, 1, none⟩ = some (.string ⟨t.s.toArray⟩) := HM6.out.cell 0 rfl 1 rfl
 have z2 : (((((w1.setCell ⟨tb, 0, none⟩ (.int .i64 (t.kind : Int))).setCell ⟨tb, 1, none⟩ (.string ⟨t.s.toArray⟩)).setCell ⟨tb, 2, none⟩ (.slice aa t.args.length ca)).setCell ⟨tb, 3, none⟩ (.slice al t.labels.length cl)).setCell ⟨tb, 4, none⟩ (.bool t.opn)).cell? ⟨tb, 2, none⟩ = some (.slice aa t.args.length ca) := HM6.out.cell 0 rfl 2 rfl
 have z3 : (((((w1.setCell ⟨tb, 0, none⟩ (.int .i64 (t.kind : Int))).setCell ⟨tb, 1, none⟩ (.string ⟨t.s.toArray⟩)).setCell ⟨tb, 2, none⟩ (.slice aa t.args.length ca)).setCell ⟨tb, 3, none⟩ (.slice al t.labels.length cl)).setCell ⟨tb, 4, none⟩ (.bool t.opn)).cell? ⟨tb, 3, none⟩ = some (.slice al t.labels.length cl) := HM6.out.cell 0 rfl 3 rfl
 have z4 : (((((w1.setCell ⟨tb, 0, none⟩ (.int .i64 (t.kind : Int))).setCell ⟨tb, 1, none⟩ (.string ⟨t.s.toArray⟩)).setCell ⟨tb, 2, none⟩ (.slice aa t.args.length ca)).setCell ⟨tb, 3, none⟩ (.slice al t.labels.length cl)).setCell ⟨tb, 4, none⟩ (.bool t.opn)).cell? ⟨tb, 4, none⟩ = some (.bool t.opn) := HM6.out.cell 0 rfl 4 rfl
 refine bodyPost_ret (v := .agg #[.int .i64 (t.kind : Int), .string ⟨t.s.toArray⟩, .slice aa t.args.length ca, .slice al t.labels.length cl, .bool t.opn]) (by simp [results, Tryz.results79, go_sem, z0, z1, z2, z3, z4]) rfl ?_
 have HR := HM6.out.drop1
 exact ⟨O, aa, ca, al, cl, rfl, HJ.out, HR⟩
theorem level_any (w0 : World) (b : Nat) (ad : Option Addr) (c : Nat) (l : List Tok) (hl : ToksAt w0 ad l) (he : TokEnds l) (hll : l.length ≤ 4194304) (k : Nat) : ∀ m, m ≤ k → LevAt w0 b ad c l m := by
 induction k with
 | zero =>
  intro m hm rs n i j t w _ _ hp _
  have : m = 0 := by omega
  subst this
  rw [pLev] at hp
  cases hp
 | succ k ih =>
  intro m hm
  rcases Nat.lt_or_ge m (k + 1) with h | h
  ·exact ih m (by omega)
  have : m = k + 1 := by omega
  subst this
  intro rs n i j t w hi hn hp hM
  obtain rfl | rfl | rfl | rfl : n = 0 ∨ n = 1 ∨ n = 2 ∨ n = 3 := by omega
  ·exact level0 w0 b ad c l hl he hll k (ih k (Nat.le_refl _)) rs i j t w hi hp hM
  ·exact level1 w0 b ad c l hl he hll k (ih k (Nat.le_refl _)) rs i j t w hi hp hM
  ·exact level2 w0 b ad c l hl he hll k (ih k (Nat.le_refl _)) rs i j t w hi hp hM
  ·exact level3 w0 b ad c l hl he hll k (ih k (Nat.le_refl _)) (object_any w0 b ad c l hl he hll k (fun m hm => ih m (by omega))) rs i j t w hi hp hM
end Go.Proofs.YtljmcmdabdlldaaGreatDoor.typ
namespace Go.Proofs.YtljmcmdabdlldaaGreatDoor.typ
open Go.RowKit Go.Tre
set_option maxHeartbeats 1000000 in
theorem run1 (p : Addr) (w : World) : CallsD Tryz.prog 78 #[.pointer (some p)] .returning w fun e u' w' => e = .returned (.tuple #[]) ∧ u' = .returning ∧ w' = w := by
 refine callsD_of_wpS Tryz.func78 rfl fun c₀ cs hu => ?_
 apply wpS_seq
 apply wpS_region
 simp [wpOpsS, go_sem, recoverD, hu, Tryz.ntmps78, Exit.thenS]
 refine wpS_of_wp ?_
 rw [show (#[Value.pointer (some p)] ++ (Array.replicate 16 undef).setIfInBounds 3 Value.nilIface : Array Value) = #[Value.pointer (some p), undef, undef, undef, .nilIface, undef, undef, undef, undef, undef, undef, undef, undef, undef, undef, undef, undef] from rfl]
 generalize hQ : (fun (e : Exit) (a' : Act) (w' : World) => bodyPostS _ _ _ _ _ _ _ _ _) = Q
 go_wp2_with fail
 subst hQ
 cases c₀
 simp_all [bodyPostS, results, Tryz.results78]
/-! run -/
theorem hmf (fn : Fn) (first cap : Array Value) (w : World) : (Instr.makeFunc fn first cap).run Tryz.prog w = .ok (.func fn first cap) w := rfl
set_option maxRecDepth 100000 in
set_option maxHeartbeats 8000000 in
theorem run_any (w0 : World) (b : Nat) (ad : Option Addr) (c : Nat) (l : List Tok) (hl : ToksAt w0 ad l) (he : TokEnds l) (hll : l.length ≤ 4194304) (k : Nat) (rs : List Res) (i j : Nat) (t : Ty) (w : World) (hi : i < l.length) (hp : pLev l k 0 i = some (t, j)) (hM : Mem w0 w (parR b ad l.length c i :: rs)) :
  Calls Tryz.prog 60 #[.pointer (some ⟨b, 0, none⟩)] w fun e w' =>
   ∃ (O : Nat → Prop) (aa : Option Addr) (ca : Nat) (al : Option Addr) (cl : Nat), e = .returned (.tuple #[.agg #[.int .i64 (t.kind : Int), .string ⟨t.s.toArray⟩, .slice aa t.args.length ca, .slice al t.labels.length cl, .bool t.opn], .nilIface]) ∧ j < l.length ∧ Mem w0 w' (tyR O t (.agg #[.int .i64 (t.kind : Int), .string ⟨t.s.toArray⟩, .slice aa t.args.length ca, .slice al t.labels.length cl, .bool t.opn]) :: parR b ad l.length c j :: rs) := by
 have M0 := (hM.allocR #[.int .i64 0, .string ⟨#[]⟩, .slice none 0 0, .slice none 0 0, .bool false] 28).allocR #[.nilIface] 58
 rw [World.size_alloc] at M0
 have HM := Tre.hid M0
 have HA := Tre.hid (level_any w0 b ad c l hl he hll k k (Nat.le_refl _) (cellsR (w.heap.size + 1) 58 #[.nilIface] :: cellsR w.heap.size 28 #[.int .i64 0, .string ⟨#[]⟩, .slice none 0 0, .slice none 0 0, .bool false] :: rs) 0 i j t _ hi (by omega) hp (M0.front 2 rfl))
 have hmf' := hmf
 clear hl he hp hM M0
 go_enter_defers Tryz.func60, Tryz.ntmps60
 go_wp2_with fail
 refine HA.out.mono ?_
 rintro e w1 ⟨O, aa, ca, al, cl, rfl, hj1, M1⟩
 generalize heb : w.heap.size + 1 = eb at *
 generalize hrb : w.heap.size = rb at *
 have hne : rb ≠ eb := by omega
 clear heb hrb
 have M1b : Mem w0 w1 (cellsR rb 28 #[.int .i64 0, .string ⟨#[]⟩, .slice none 0 0, .slice none 0 0, .bool false] :: _) := M1.front 3 rfl
 have g0 : w1.cell? ⟨rb, 0, none⟩ = some (.int .i64 0) := M1b.cell 0 rfl 0 rfl
 have g1 : w1.cell? ⟨rb, 1, none⟩ = some (.string ⟨#[]⟩) := M1b.cell 0 rfl 1 rfl
 have g2 : w1.cell? ⟨rb, 2, none⟩ = some (.slice none 0 0) := M1b.cell 0 rfl 2 rfl
 have g3 : w1.cell? ⟨rb, 3, none⟩ = some (.slice none 0 0) := M1b.cell 0 rfl 3 rfl
 have g4 : w1.cell? ⟨rb, 4, none⟩ = some (.bool false) := M1b.cell 0 rfl 4 rfl
 have f0 := M1b.free 0 rfl 0
 have f1 := M1b.free 0 rfl 1
 have f2 := M1b.free 0 rfl 2
 have f3 := M1b.free 0 rfl 3
 have f4 := M1b.free 0 rfl 4
 have e0 : w1.cell? ⟨eb, 0, none⟩ = some .nilIface := M1b.cell 3 rfl 0 rfl
 have ef := M1b.free 3 rfl 0
 have M2 : Mem w0 (((((w1.setCell ⟨rb, 0, none⟩ (.int .i64 (t.kind : Int))).setCell ⟨rb, 1, none⟩ (.string ⟨t.s.toArray⟩)).setCell ⟨rb, 2, none⟩ (.slice aa t.args.length ca)).setCell ⟨rb, 3, none⟩ (.slice al t.labels.length cl)).setCell ⟨rb, 4, none⟩ (.bool t.opn)) (cellsR rb 28 #[.int .i64 (t.kind : Int), .string ⟨t.s.toArray⟩, .slice aa t.args.length ca, .slice al t.labels.length cl, .bool t.opn] :: tyR O t (.agg #[.int .i64 (t.kind : Int), .string ⟨t.s.toArray⟩, .slice aa t.args.length ca, .slice al t.labels.length cl, .bool t.opn]) :: parR b ad l.length c j :: cellsR eb 58 #[.nilIface] :: rs) := (((((M1b.setCell 0 rfl 0 (.int .i64 (t.kind : Int))).setCell 0 rfl 1 (.string ⟨t.s.toArray⟩)).setCell 0 rfl 2 (.slice aa t.args.length ca)).setCell 0 rfl 3 (.slice al t.labels.length cl)).setCell 0 rfl 4 (.bool t.opn))
 have M3 : Mem w0 ((((((w1.setCell ⟨rb, 0, none⟩ (.int .i64 (t.kind : Int))).setCell ⟨rb, 1, none⟩ (.string ⟨t.s.toArray⟩)).setCell ⟨rb, 2, none⟩ (.slice aa t.args.length ca)).setCell ⟨rb, 3, none⟩ (.slice al t.labels.length cl)).setCell ⟨rb, 4, none⟩ (.bool t.opn)).setCell ⟨eb, 0, none⟩ .nilIface) (cellsR rb 28 #[.int .i64 (t.kind : Int), .string ⟨t.s.toArray⟩, .slice aa t.args.length ca, .slice al t.labels.length cl, .bool t.opn] :: tyR O t (.agg #[.int .i64 (t.kind : Int), .string ⟨t.s.toArray⟩, .slice aa t.args.length ca, .slice al t.labels.length cl, .bool t.opn]) :: parR b ad l.length c j :: cellsR eb 58 #[.nilIface] :: rs) := M2.setCell 3 rfl 0 .nilIface
 have HM3 := Tre.hid M3
 have HJ := Tre.hid hj1
 clear M1 M1b M2 M3 hj1 HA HM
 go_wp2_with fail
 generalize (((((w1.setCell ⟨rb, 0, none⟩ (.int .i64 (t.kind : Int))).setCell ⟨rb, 1, none⟩ (.string ⟨t.s.toArray⟩)).setCell ⟨rb, 2, none⟩ (.slice aa t.args.length ca)).setCell ⟨rb, 3, none⟩ (.slice al t.labels.length cl)).setCell ⟨rb, 4, none⟩ (.bool t.opn)).setCell ⟨eb, 0, none⟩ .nilIface = wz at HM3 ⊢
 have z0 : wz.cell? ⟨rb, 0, none⟩ = some (.int .i64 (t.kind : Int)) := HM3.out.cell 0 rfl 0 rfl
 have z1 : wz.cell? ⟨rb, 1, none⟩ = some (.string ⟨t.s.toArray⟩) := HM3.out.cell 0 rfl 1 rfl
 have z2 : wz.cell? ⟨rb, 2, none⟩ = some (.slice aa t.args.length ca) := HM3.out.cell 0 rfl 2 rfl
 have z3 : wz.cell? ⟨rb, 3, none⟩ = some (.slice al t.labels.length cl) := HM3.out.cell 0 rfl 3 rfl
 have z4 : wz.cell? ⟨rb, 4, none⟩ = some (.bool t.opn) := HM3.out.cell 0 rfl 4 rfl
 have z5 : wz.cell? ⟨eb, 0, none⟩ = some .nilIface := HM3.out.cell 3 rfl 0 rfl
 refine leaves_cons (f := 78) (args := #[.pointer (some ⟨eb, 0, none⟩)]) (by simp) (by simp [go_sem]) ?_
 refine (run1 ⟨eb, 0, none⟩ _).mono ?_
 rintro e u' w'' ⟨rfl, rfl, rfl⟩
 simp [Leaves, settle, results, Tryz.results60, go_sem, z0, z1, z2, z3, z4, z5]
 exact ⟨O, aa, ca, al, cl, by simp, HJ.out, ((HM3.out.drop1).del 2)⟩
end Go.Proofs.YtljmcmdabdlldaaGreatDoor.typ
namespace Go.Tre
theorem ends_of {l : List Tok} (h0 : 0 < l.length) (h : idxFunc Go.Proofs.YtljmcmdabdlldaaGreatDoor.typ.noEnd l = ((l.length - 1 : Nat) : Int)) : TokEnds l := by
 intro x hx
 unfold idxFunc at h
 split at h
 ·have e : l.findIdx Go.Proofs.YtljmcmdabdlldaaGreatDoor.typ.noEnd = l.length - 1 := by omega
  have hlt : l.findIdx Go.Proofs.YtljmcmdabdlldaaGreatDoor.typ.noEnd < l.length := by omega
  have hp := List.findIdx_getElem (w := hlt)
  rw [List.getElem?_eq_some_iff] at hx
  obtain ⟨hi, rfl⟩ := hx
  have e2 : l[l.findIdx Go.Proofs.YtljmcmdabdlldaaGreatDoor.typ.noEnd] = l[l.length - 1] := by congr 1
  rw [e2] at hp
  exact of_decide_eq_true hp
 ·omega
end Go.Tre
namespace Go.Proofs.YtljmcmdabdlldaaGreatDoor.typ
open Go.RowKit Go.Tre tree
theorem as_nil (t : Value) (w : World) :
  Calls Tryz.prog 58 #[.nilIface, t] w fun e w' => e = .returned (.bool false) ∧ w' = w := by
 go_enter Tryz.func58, Tryz.ntmps58
 go_wp2
 go_ret
 exact ⟨rfl, rfl⟩
set_option maxRecDepth 100000 in
set_option maxHeartbeats 8000000 in
theorem Parse_ok (ad : Option Addr) (c : Nat) (l : List Tok) (i k j : Nat) (t : Ty) (w : World) (hl : ToksAt w ad l) (hll : l.length ≤ 4194304) (h0 : 0 < l.length) (hx : idxFunc noEnd l = ((l.length - 1 : Nat) : Int)) (hi : i < l.length) (hp : pLev l k 0 i = some (t, j)) (ht : verdictI (walkT t) = 0) (hw : t.weight ≤ 4194304) (hm : MaxAt w) :
  Calls Tryz.prog 41 #[.slice ad l.length c, .int .i64 i] w fun e w' =>
   ∃ (O : Nat → Prop) (aa : Option Addr) (ca : Nat) (al : Option Addr) (cl : Nat), e = .returned (.tuple #[.agg #[.int .i64 (t.kind : Int), .string ⟨t.s.toArray⟩, .slice aa t.args.length ca, .slice al t.labels.length cl, .bool t.opn], .int .i64 j, .int .i64 0]) ∧ Mem w w' [tyR O t (.agg #[.int .i64 (t.kind : Int), .string ⟨t.s.toArray⟩, .slice aa t.args.length ca, .slice al t.labels.length cl, .bool t.opn])] := by
 have M0 := (Mem.nil w).allocR #[.int .i64 0, .string ⟨#[]⟩, .slice none 0 0, .slice none 0 0, .bool false] 28
 have HM0 := Tre.hid M0
 have HT := Tre.hid (text_yes ad c l _ (hl.below M0.below) hll h0 hx)
 have HL := Tre.hid hl
 have HE := Tre.hid (ends_of h0 hx)
 have HP := Tre.hid hp
 have HV := Tre.hid ht
 have HX := Tre.hid hm
 have HW := Tre.hid hw
 have hi1 : (i : Int) < (l.length : Int) := by omega
 have hi2 : ¬ (i : Int) < 0 := by omega
 have hi3 : decide (l.length ≤ i) = false := decide_eq_false (by omega)
 have hi4 : decide ((i : Int) < 0) = false := decide_eq_false hi2
 clear hl hx hp ht hm hw M0
 go_enter Tryz.func41, Tryz.ntmps41
 go_wp2_with fail
 refine HT.out.mono ?_
 rintro e w1 ⟨rfl, b1⟩
 have M1 := HM0.out.quiet b1
 have M2 := M1.allocR #[.slice ad l.length c, .int .i64 (i : Int)] 127
 have HR := Tre.hid (run_any w w1.heap.size ad c l HL.out HE.out hll k [cellsR w.heap.size 28 #[.int .i64 0, .string ⟨#[]⟩, .slice none 0 0, .slice none 0 0, .bool false]] i j t _ hi HP.out M2)
 clear HM0 M1 M2 HT hi1 hi2 hi3 b1
 go_wp2_with fail
 refine HR.out.mono ?_
 rintro e w2 ⟨O, aa, ca, al, cl, rfl, hj, M2⟩
 have M3 := (M2.allocR #[.int .i64 (t.kind : Int), .string ⟨t.s.toArray⟩, .slice aa t.args.length ca, .slice al t.labels.length cl, .bool t.opn] 28).allocR #[.pointer none] 130
 rw [World.size_alloc] at M3
 have HM3 := Tre.hid M3
 have HJ := Tre.hid hj
 generalize w1.heap.size = pb at *
 generalize hrb : w.heap.size = rb at *
 clear M2 M3 hj HR
 go_wp2_with fail
 refine (as_nil _ _).mono ?_
 rintro e w3 ⟨rfl, rfl⟩
 have y0 := HM3.out.cell 1 rfl 0 rfl
 have y1 := HM3.out.cell 1 rfl 1 rfl
 have y2 := HM3.out.cell 1 rfl 2 rfl
 have y3 := HM3.out.cell 1 rfl 3 rfl
 have y4 := HM3.out.cell 1 rfl 4 rfl
 have hty := HM3.out.at_ 2 rfl
 have HCT := Tre.hid (check_type t O _ _ HW.out hty.1 hty.2 (HX.out.below (by rw [hrb]; have := HM3.out.below; rw [hrb] at this; exact this)))
 rw [HV.out] at HCT
 clear hty
 go_wp2_with fail
 refine HCT.out.mono ?_
 rintro e w4 ⟨rfl, b4⟩
 generalize w2.heap.size = qb at *
 have M4 : Mem w w4 (cellsR (qb + 1) 130 #[.pointer none] :: cellsR qb 28 #[.int .i64 (t.kind : Int), .string ⟨t.s.toArray⟩, .slice aa t.args.length ca, .slice al t.labels.length cl, .bool t.opn] :: tyR O t (.agg #[.int .i64 (t.kind : Int), .string ⟨t.s.toArray⟩, .slice aa t.args.length ca, .slice al t.labels.length cl, .bool t.opn]) :: parR pb ad l.length c j :: cellsR rb 28 #[.int .i64 0, .string ⟨#[]⟩, .slice none 0 0, .slice none 0 0, .bool false] :: []) := HM3.out.quiet b4
 have p0 : w4.cell? ⟨qb, 0, none⟩ = some (.int .i64 (t.kind : Int)) := M4.cell 1 rfl 0 rfl
 have p1 : w4.cell? ⟨qb, 1, none⟩ = some (.string ⟨t.s.toArray⟩) := M4.cell 1 rfl 1 rfl
 have p2 : w4.cell? ⟨qb, 2, none⟩ = some (.slice aa t.args.length ca) := M4.cell 1 rfl 2 rfl
 have p3 : w4.cell? ⟨qb, 3, none⟩ = some (.slice al t.labels.length cl) := M4.cell 1 rfl 3 rfl
 have p4 : w4.cell? ⟨qb, 4, none⟩ = some (.bool t.opn) := M4.cell 1 rfl 4 rfl
 have p5 : w4.cell? ⟨pb, 1, none⟩ = some (.int .i64 j) := M4.cell 3 rfl 1 rfl
 have HM4 := Tre.hid M4
 clear M4 b4 HM3 HCT y0 y1 y2 y3 y4
 go_wp2_with fail
 have cS : Cond (fun w' => w'.cell? ⟨qb, 0, none⟩ = some (.int .i64 (t.kind : Int)) ∧ w'.cell? ⟨qb, 1, none⟩ = some (.string ⟨t.s.toArray⟩) ∧ w'.cell? ⟨qb, 2, none⟩ = some (.slice aa t.args.length ca) ∧ w'.cell? ⟨qb, 3, none⟩ = some (.slice al t.labels.length cl) ∧ w'.cell? ⟨qb, 4, none⟩ = some (.bool t.opn) ∧ w'.cell? ⟨pb, 1, none⟩ = some (.int .i64 j)) := ⟨⟩
 refine cS.keep [] ?_ (fun hH0 => ?_)
 ·exact ⟨p0, p1, p2, p3, p4, p5⟩
 have H0 := Tre.hid HM4.out.drew
 generalize hq : w4.drew = wq0 at H0 hH0 ⊢
 clear hq p0 p1 p2 p3 p4 p5 HM4
 refine lPq 1 (some 47) (v := ?_) rfl ?_ (keep_of hH0) ?_
 rotate_left
 ·intro w; go_simp <;> with_reducible rfl
 try simp only [Act.put, zqf, zqg, zqh]
 refine lPq 2 (some 48) (v := ?_) rfl ?_ (keep_of hH0) ?_
 rotate_left
 ·intro w; go_simp <;> with_reducible rfl
 try simp only [Act.put, zqf, zqg, zqh]
 refine lPq 3 (some 49) (v := ?_) rfl ?_ (keep_of hH0) ?_
 rotate_left
 ·intro w; go_simp <;> with_reducible rfl
 try simp only [Act.put, zqf, zqg, zqh]
 refine lTq 0 (some 46) (v := ?_) rfl ?_ hH0 ?_
 rotate_left
 ·intro w hSw; (try dsimp only at hSw); go_simp <;> with_reducible rfl
 try simp only [Act.put, zqf, zqg, zqh]
 refine lTq 4 (some 50) (v := ?_) rfl ?_ hH0 ?_
 rotate_left
 ·intro w hSw; (try dsimp only at hSw); go_simp <;> with_reducible rfl
 try simp only [Act.put, zqf, zqg, zqh]
 refine lOne 5 (by kernel_rfl) (LStep.op (fun K hK => ?_))
 have MT : Mem w wq0 (cellsR rb 28 #[.int .i64 0, .string ⟨#[]⟩, .slice none 0 0, .slice none 0 0, .bool false] :: _) := H0.out.front 4 rfl
 have g0 : wq0.cell? ⟨rb, 0, none⟩ = some (.int .i64 0) := MT.cell 0 rfl 0 rfl
 have g1 : wq0.cell? ⟨rb, 1, none⟩ = some (.string ⟨#[]⟩) := MT.cell 0 rfl 1 rfl
 have g2 : wq0.cell? ⟨rb, 2, none⟩ = some (.slice none 0 0) := MT.cell 0 rfl 2 rfl
 have g3 : wq0.cell? ⟨rb, 3, none⟩ = some (.slice none 0 0) := MT.cell 0 rfl 3 rfl
 have g4 : wq0.cell? ⟨rb, 4, none⟩ = some (.bool false) := MT.cell 0 rfl 4 rfl
 have f0 := MT.free 0 rfl 0
 have f1 := MT.free 0 rfl 1
 have f2 := MT.free 0 rfl 2
 have f3 := MT.free 0 rfl 3
 have f4 := MT.free 0 rfl 4
 have M6 : Mem w (((((wq0.setCell ⟨rb, 0, none⟩ (.int .i64 (t.kind : Int))).setCell ⟨rb, 1, none⟩ (.string ⟨t.s.toArray⟩)).setCell ⟨rb, 2, none⟩ (.slice aa t.args.length ca)).setCell ⟨rb, 3, none⟩ (.slice al t.labels.length cl)).setCell ⟨rb, 4, none⟩ (.bool t.opn)) (cellsR rb 28 #[.int .i64 (t.kind : Int), .string ⟨t.s.toArray⟩, .slice aa t.args.length ca, .slice al t.labels.length cl, .bool t.opn] :: _) := (((((MT.setCell 0 rfl 0 (.int .i64 (t.kind : Int))).setCell 0 rfl 1 (.string ⟨t.s.toArray⟩)).setCell 0 rfl 2 (.slice aa t.args.length ca)).setCell 0 rfl 3 (.slice al t.labels.length cl)).setCell 0 rfl 4 (.bool t.opn))
 go_simp
 generalize hw : (((((wq0.setCell ⟨rb, 0, none⟩ (.int .i64 (t.kind : Int))).setCell ⟨rb, 1, none⟩ (.string ⟨t.s.toArray⟩)).setCell ⟨rb, 2, none⟩ (.slice aa t.args.length ca)).setCell ⟨rb, 3, none⟩ (.slice al t.labels.length cl)).setCell ⟨rb, 4, none⟩ (.bool t.opn)) = wq1 at M6 ⊢
 have H1 := Tre.hid M6
 have s0 : wq1.cell? ⟨qb, 0, none⟩ = some (.int .i64 (t.kind : Int)) := M6.cell 2 rfl 0 rfl
 have s1 : wq1.cell? ⟨qb, 1, none⟩ = some (.string ⟨t.s.toArray⟩) := M6.cell 2 rfl 1 rfl
 have s2 : wq1.cell? ⟨qb, 2, none⟩ = some (.slice aa t.args.length ca) := M6.cell 2 rfl 2 rfl
 have s3 : wq1.cell? ⟨qb, 3, none⟩ = some (.slice al t.labels.length cl) := M6.cell 2 rfl 3 rfl
 have s4 : wq1.cell? ⟨qb, 4, none⟩ = some (.bool t.opn) := M6.cell 2 rfl 4 rfl
 have s5 : wq1.cell? ⟨pb, 1, none⟩ = some (.int .i64 j) := M6.cell 4 rfl 1 rfl
 have S0 := Tre.hid s0
 have S1 := Tre.hid s1
 have S2 := Tre.hid s2
 have S3 := Tre.hid s3
 have S4 := Tre.hid s4
 have S5 := Tre.hid s5
 clear s0 s1 s2 s3 s4 s5 M6 MT hw g0 g1 g2 g3 g4 f0 f1 f2 f3 f4
 refine hK.out _ _ ?_ (fun hH1 => ?_)
 ·exact ⟨S0.out, S1.out, S2.out, S3.out, S4.out, S5.out⟩
 clear hK K hH0
 try simp only [Act.put, zqf, zqg, zqh]
 refine lPq 6 (some 5) (v := ?_) rfl ?_ (keep_of hH1) ?_
 rotate_left
 ·intro w; go_simp <;> with_reducible rfl
 try simp only [Act.put, zqf, zqg, zqh]
 refine lPq 7 (some 6) (v := ?_) rfl ?_ (keep_of hH1) ?_
 rotate_left
 ·intro w; go_simp <;> with_reducible rfl
 try simp only [Act.put, zqf, zqg, zqh]
 refine lDone (by kernel_rfl) ?_
 clear hH1
 go_wp2_with fail
 have z0 : wq1.cell? ⟨rb, 0, none⟩ = some (.int .i64 (t.kind : Int)) := H1.out.cell 0 rfl 0 rfl
 have z1 : wq1.cell? ⟨rb, 1, none⟩ = some (.string ⟨t.s.toArray⟩) := H1.out.cell 0 rfl 1 rfl
 have z2 : wq1.cell? ⟨rb, 2, none⟩ = some (.slice aa t.args.length ca) := H1.out.cell 0 rfl 2 rfl
 have z3 : wq1.cell? ⟨rb, 3, none⟩ = some (.slice al t.labels.length cl) := H1.out.cell 0 rfl 3 rfl
 have z4 : wq1.cell? ⟨rb, 4, none⟩ = some (.bool t.opn) := H1.out.cell 0 rfl 4 rfl
 refine bodyPost_ret (v := .tuple #[.agg #[.int .i64 (t.kind : Int), .string ⟨t.s.toArray⟩, .slice aa t.args.length ca, .slice al t.labels.length cl, .bool t.opn], .int .i64 j, .int .i64 0]) (by simp [results, Tryz.results41, go_sem, z0, z1, z2, z3, z4]) rfl ?_
 have MR : Mem w wq1 (tyR O t (.agg #[.int .i64 (t.kind : Int), .string ⟨t.s.toArray⟩, .slice aa t.args.length ca, .slice al t.labels.length cl, .bool t.opn]) :: _) := H1.out.front 3 rfl
 exact ⟨O, aa, ca, al, cl, rfl, MR.sub (by simp)⟩
end Go.Proofs.YtljmcmdabdlldaaGreatDoor.typ
namespace Go.Tre
open Go.RowKit
def LexPost (w : World) (s : ByteArray) (D : Option (List Tok)) (e : Ending) (w' : World) : Prop :=
 (∃ ts v, D = some ts ∧ e = .returned (.tuple #[v, .int .i64 0, .int .i64 0]) ∧ Mem w w' [toksR v ts]) ∨
 (D = none ∧ ∃ at_ : Nat, e = .returned (.tuple #[.slice none 0 0, .int .i64 at_, .int .i64 ((if s.size ≤ 65536 then 5 else 3 : Nat) : Int)]) ∧ Below w.heap.size w w')
end Go.Tre
namespace Go.Proofs.YtljmcmdabdlldaaGreatDoor.lex
open Go.RowKit Go.Tre
set_option maxRecDepth 100000 in
set_option maxHeartbeats 8000000 in
theorem Lex (s : ByteArray) (w : World) (hs : s.size ≤ 4194304) (E : LexEnv w) :
  Calls Tryz.prog 40 #[.string s] w (LexPost w s (lexS s.data.toList)) := by
 have HE := Tre.hid E
 obtain ⟨D, hD⟩ : ∃ D, Hid (lexS s.data.toList = D) := ⟨_, rfl⟩
 have HA := Tre.hid (all s w hs E)
 rw [hD.out] at HA ⊢
 clear E
 go_enter Tryz.func40, Tryz.ntmps40
 go_wp2_with fail
 refine HA.out.mono ?_
 intro e w1 hp
 rcases hp with ⟨ts, v, hd, rfl, M⟩ | ⟨hd, v, bs, at_, rfl, M⟩
 ·have HM := Tre.hid M
  have HD := Tre.hid hd
  clear M hd
  go_wp2_with fail
  refine (errs.as_nil _ _).mono ?_
  rintro e w' ⟨rfl, rfl⟩
  go_wp2_with fail
  go_ret3
  exact .inl ⟨ts, v, HD.out, rfl, HM.out.alloc _⟩
 ·generalize hno : (if s.size ≤ 65536 then 5 else 3) = no at *
  have HM := Tre.hid (M.allocR #[.pointer none] 119)
  have HD := Tre.hid hd
  have HN := Tre.hid hno
  have hbelow := HM.out.below
  have HEI := HM.out.at_ 1 rfl
  have hc := HM.out.cell 0 rfl 0 rfl
  have hf := HM.out.free 0 rfl 0
  obtain ⟨te, ve, rfl⟩ := errIface (M.at_ 0 rfl)
  have HAS := Tre.hid (errs.as_any _ bs at_ no ⟨w1.heap.size, 0, none⟩ _ _ HEI (HE.out.et.below hbelow) hc hf)
  clear M hd hno HEI hc hf hbelow
  go_wp2_with fail
  refine HAS.out.mono ?_
  rintro e w' ⟨rfl, p, w2, hb, hp, rfl⟩
  have hM2 := HM.out.quiet hb
  have M3 := hM2.setCell 0 rfl 0 (.pointer (some ⟨p, 0, none⟩))
  have hw1 : p < (w1.alloc (.cells #[.pointer none] 119)).heap.size := (Array.getElem?_eq_some_iff.1 hp).1
  have hne : p ≠ w1.heap.size := by
   intro e
   have h1 := (heap_alloc_new w1 (.cells #[.pointer none] 119)).symm.trans (e ▸ hp)
   simp at h1
  have hp2 : w2.heap[p]? = some (.cells #[.int .i64 at_, .int .i64 no] 123 (0, 0)) := (hb.block p hw1).trans hp
  have hp3 : (w2.setCell ⟨w1.heap.size, 0, none⟩ (.pointer (some ⟨p, 0, none⟩))).heap[p]? = some (.cells #[.int .i64 at_, .int .i64 no] 123 (0, 0)) := (Below.heap_setCell w2 ⟨w1.heap.size, 0, none⟩ _ p hne).trans hp2
  generalize hg : w2.setCell ⟨w1.heap.size, 0, none⟩ (.pointer (some ⟨p, 0, none⟩)) = w3 at M3 hp3 ⊢
  have q0 : w3.cell? ⟨w1.heap.size, 0, none⟩ = some (.pointer (some ⟨p, 0, none⟩)) := M3.cell 0 rfl 0 rfl
  have q1 : w3.cell? ⟨p, 0, none⟩ = some (.int .i64 at_) := by simp [World.cell?, hp3]
  have q2 : w3.cell? ⟨p, 1, none⟩ = some (.int .i64 no) := by simp [World.cell?, hp3]
  have HM3 := Tre.hid M3.none_
  clear hg hp2 hp3 M3 hM2 hb hp hw1 hne HAS HM
  go_wp2_with fail
  go_region_held3 (fun w' => Below w3.heap.size w3 w' ∧ w'.cell? ⟨w1.heap.size, 0, none⟩ = some (.pointer (some ⟨p, 0, none⟩)) ∧ w'.cell? ⟨p, 0, none⟩ = some (.int .i64 at_) ∧ w'.cell? ⟨p, 1, none⟩ = some (.int .i64 no))
   (first | exact ⟨(Below.refl _ _).drew, q0, q1, q2⟩ | go_keep) (fail)
  have hb := (show Below w3.heap.size w3 w3.drew ∧ _ from by assumption).1
  have HB := Tre.hid hb
  clear hb
  go_wp2_with fail
  go_ret3
  refine .inr ⟨HD.out, at_, ?_, (HM3.out.quiet HB.out).below⟩
  rw [HN.out]
  rfl
end Go.Proofs.YtljmcmdabdlldaaGreatDoor.lex
namespace Go.Tre
structure ReadsAs (s : List UInt8) (g : Tre.Graph) : Type where
 ts : List Tok
 k : Nat
 t : Ty
 j : Nat
 bd : ByteArray → Option Nat
 n : Nat
 a : Nat
 st : LSt
 lex : lexS s = some ts
 pos : 0 < ts.length
 few : ts.length ≤ 4194304
 text : idxFunc Go.Proofs.YtljmcmdabdlldaaGreatDoor.typ.noEnd ts = ((ts.length - 1 : Nat) : Int)
 parse : pLev ts k 0 0 = some (t, j)
 last : (ts[j]?).map Tok.kind = some 0
 may : verdictI (walkT t) = 0
 small : t.weight ≤ 4194304
 smallT : SmallT (flat t 0)
 bind : bind1 (flat t 0) k 0 (fun _ => none, 0) = some (bd, n)
 nsmall : n ≤ 4194304
 follow : ∀ s x, bd s = some x → ∃ r, follow1 (flat t 0) bd (2 * n + 2) x = some r
 node : node1 (flat t 0) (bd, n) k 0 ⟨fun _ => none, fun _ => none, []⟩ = some (a, st)
 nlen : st.ns.length ≤ 1048576
 weight : Graph.weight ⟨st.ns, (a : Int)⟩ ≤ 2097152
 graph : (Tre.Graph.mk st.ns (a : Int)).trim = g
end Go.Tre
namespace Go.Proofs.YtljmcmdabdlldaaGreatDoor.load
open Go.RowKit Go.Maps Go.Shelf Go.Tre lex gr tree typ
set_option maxRecDepth 100000 in
set_option maxHeartbeats 16000000 in
theorem Read_ok (s : ByteArray) (g : Tre.Graph) (r : ReadsAs s.data.toList g) (w : World) (hs : s.size ≤ 4194304) (E : LexEnv w) :
  Calls Tryz.prog 19 #[.string s] w fun e w' =>
   ∃ v ds, e = .returned (.tuple #[.agg #[v, .int .i64 0], .int .i64 0]) ∧ ds.map NodeV.n = g.ns ∧ Mem w w' [nodesR v ds, kidsR ds] := by
 have M0 := (Mem.nil w).allocR #[.slice none 0 0, .int .i64 0] 33
 have HM0 := Tre.hid M0
 have hlx := lex.Lex s _ hs (E.below M0.below)
 rw [r.lex] at hlx
 have HLX := Tre.hid hlx
 have HX := Tre.hid E.max
 clear hlx E M0
 go_enter Tryz.func19, Tryz.ntmps19
 go_wp2_with fail
 refine HLX.out.mono ?_
 intro e w1 hp
 rcases hp with ⟨ts, v, hts, rfl, m1⟩ | ⟨hd, _⟩
 rotate_left
 ·cases hd
 cases hts
 have M1 := HM0.out.call m1
 obtain ⟨at_, ct, rfl, _⟩ := M1.val 0 rfl
 have HM1 := Tre.hid M1
 have HTK := Tre.hid (toks_of M1 0 rfl rfl)
 obtain ⟨tok, htok⟩ : ∃ tok, r.ts[r.j]? = some tok := by
  have h := r.last
  cases hx : r.ts[r.j]? with
  | none => rw [hx] at h; cases h
  | some tok => exact ⟨tok, rfl⟩
 have hk0 : tok.kind = 0 := by have h := r.last; rw [htok] at h; simpa using h
 have hjl : r.j < r.ts.length := (List.getElem?_eq_some_iff.1 htok).1
 have HP := Tre.hid (Parse_ok at_ ct r.ts 0 r.k r.j r.t w1 HTK.out r.few r.pos r.text r.pos r.parse r.may r.small (HX.out.below M1.below))
 clear M1 m1 HLX HM0
 go_wp2_with fail
 refine HP.out.mono ?_
 rintro e w2 ⟨O, aa, ca, al, cl, rfl, m2⟩
 have M2 := HM1.out.call m2
 have M3 := M2.allocR #[.int .i64 r.t.kind, .string ⟨r.t.s.toArray⟩, .slice aa r.t.args.length ca, .slice al r.t.labels.length cl, .bool r.t.opn] 28
 have HM3 := Tre.hid M3
 have hw1 := (HTK.out.below m2.below).below ((Below.refl w2.heap.size w2).alloc (Nat.le_refl _) (.cells #[.int .i64 r.t.kind, .string ⟨r.t.s.toArray⟩, .slice aa r.t.args.length ca, .slice al r.t.labels.length cl, .bool r.t.opn] 28))
 obtain ⟨bt, ot, rfl, a0, _, _, _⟩ := hw1.tok htok
 rw [hk0] at a0
 have hjI : (r.j : Int) < (r.ts.length : Int) := by omega
 have y0 := M3.cell 0 rfl 0 rfl
 have y1 := M3.cell 0 rfl 1 rfl
 have y2 := M3.cell 0 rfl 2 rfl
 have y3 := M3.cell 0 rfl 3 rfl
 have y4 := M3.cell 0 rfl 4 rfl
 have hty := M3.at_ 1 rfl
 obtain ⟨ad, hE, h0⟩ : ∃ ad : Nat → Addr, EntsAt ((w2.alloc (.cells #[.int .i64 r.t.kind, .string ⟨r.t.s.toArray⟩, .slice aa r.t.args.length ca, .slice al r.t.labels.length cl, .bool r.t.opn] 28)).alloc (.cells #[.int .i64 r.t.kind, .string ⟨r.t.s.toArray⟩, .slice aa r.t.args.length ca, .slice al r.t.labels.length cl, .bool r.t.opn] 28)) (flat r.t 0) ad ∧ ad 0 = ⟨(w2.alloc (.cells #[.int .i64 r.t.kind, .string ⟨r.t.s.toArray⟩, .slice aa r.t.args.length ca, .slice al r.t.labels.length cl, .bool r.t.opn] 28)).heap.size, 0, none⟩ := by
  have M4 := M3.allocR #[.int .i64 r.t.kind, .string ⟨r.t.s.toArray⟩, .slice aa r.t.args.length ca, .slice al r.t.labels.length cl, .bool r.t.opn] 28
  have ht4 := M4.at_ 2 rfl
  refine ents_of ht4.1 (fun j u hu => by rw [Nat.zero_add]; exact M4.cell 0 rfl j hu) ⟨_, _, M4.heap 0 rfl⟩ (fun h => ?_)
  exact Nat.lt_irrefl _ (hty.2 _ h)
 have HLD := Tre.hid (Load_ok r.t aa al ca cl _ hty.1.rd r.may r.small (HX.out.below M3.below) (flat r.t 0) ad r.smallT hE h0 r.k r.bd r.n r.nsmall r.bind r.follow r.a r.st r.node r.nlen r.weight)
 have HG := Tre.hid r.graph
 clear M2 M3 hw1 hty hE h0 htok hk0 hjl HTK HM1 HP m2
 go_wp2_with fail
 refine HLD.out.mono ?_
 rintro e w5 ⟨v, ds, rfl, hds, m5⟩
 rw [HG.out] at hds
 have M5 := HM3.out.call m5
 obtain ⟨a5, c5, rfl, _⟩ := M5.val 0 rfl
 have g0 : w5.cell? ⟨w.heap.size, 0, none⟩ = some (.slice none 0 0) := M5.cell 5 rfl 0 rfl
 have g1 : w5.cell? ⟨w.heap.size, 1, none⟩ = some (.int .i64 0) := M5.cell 5 rfl 1 rfl
 have f0 := M5.free 5 rfl 0
 have f1 := M5.free 5 rfl 1
 have M9 := (M5.setCell 5 rfl 0 (.slice a5 ds.length c5)).setCell 5 rfl 1 (.int .i64 0)
 have HM9 := Tre.hid M9
 have HD := Tre.hid hds
 clear M5 M9 m5 hds HLD HM3 y0 y1 y2 y3 y4 a0
 go_wp2_with fail
 generalize (w5.setCell ⟨w.heap.size, 0, none⟩ (.slice a5 ds.length c5)).setCell ⟨w.heap.size, 1, none⟩ (.int .i64 0) = wz at HM9 ⊢
 have z0 : wz.cell? ⟨w.heap.size, 0, none⟩ = some (.slice a5 ds.length c5) := HM9.out.cell 5 rfl 0 rfl
 have z1 : wz.cell? ⟨w.heap.size, 1, none⟩ = some (.int .i64 0) := HM9.out.cell 5 rfl 1 rfl
 refine bodyPost_ret (v := .tuple #[.agg #[.slice a5 ds.length c5, .int .i64 0], .int .i64 0]) (by simp [results, Tryz.results19, go_sem, z0, z1]) rfl ?_
 exact ⟨_, ds, rfl, HD.out, HM9.out.sub (by simp)⟩
end Go.Proofs.YtljmcmdabdlldaaGreatDoor.load
