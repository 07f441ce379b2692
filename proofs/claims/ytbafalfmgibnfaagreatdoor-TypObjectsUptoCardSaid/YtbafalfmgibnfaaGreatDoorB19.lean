/- typ: level at every fuel. typ: (*parser).run, where it comes to a type. tree.rising, tree.word. tree.ownType. -/
import Derived.Test.YtbafalfmgibnfaaGreatDoorB12
import Derived.Test.YtbafalfmgibnfaaGreatDoorB13
import Derived.Test.YtbafalfmgibnfaaGreatDoorB18
import Derived.Defers
import Derived.Recover
import Derived.Test.YtbafalfmgibnfaaGreatDoorB15
import Derived.Test.YtbafalfmgibnfaaGreatDoorB14
set_option linter.unusedVariables false
namespace Go.Proofs.YtbafalfmgibnfaaGreatDoor.typ
open Go.RowKit Go.Tre
set_option maxRecDepth 100000 in
set_option maxHeartbeats 8000000 in
theorem level3 (w0 : World) (b : Nat) (ad : Option Addr) (c : Nat) (l : List Tok) (hl : ToksAt w0 ad l) (he : TokEnds l) (hll : l.length ≤ 4194304) (k : Nat) (ih : LevAt w0 b ad c l k) (ho : ObjAt w0 b ad c l k) (rs : List Res) (i j : Nat) (t : Ty) (w : World) (hi : i < l.length) (hp : pLev l (k + 1) 3 i = some (t, j)) (hM : Mem w0 w (parR b ad l.length c i :: rs)) :
  Calls Tryz.prog 42 #[.pointer (some ⟨b, 0, none⟩), .int .i64 3] w (LevPost w0 b ad c l rs t j) := by
 have M0 := Tre.hid (hM.allocR #[.int .i64 0, .string ⟨#[]⟩, .slice none 0 0, .slice none 0 0, .bool false] 28)
 have HA := Tre.hid (atom_any w0 b ad c l hl he hll k ih ho (cellsR w.heap.size 28 #[.int .i64 0, .string ⟨#[]⟩, .slice none 0 0, .slice none 0 0, .bool false] :: rs) i j t _ hi hp (M0.out.front 1 rfl))
 clear hl he ih ho hp hM
 go_enter Tryz.func42, Tryz.ntmps42
 go_wp2_with fail
 refine HA.out.mono ?_
 rintro e w1 ⟨O, aa, ca, al, cl, rfl, hj1, M1⟩
 generalize w.heap.size = tb at *
 have HM1 := Tre.hid M1
 have HJ := Tre.hid hj1
 clear M1 hj1 M0 HA
 have MT : Mem w0 w1 (cellsR tb 28 #[.int .i64 0, .string ⟨#[]⟩, .slice none 0 0, .slice none 0 0, .bool false] :: _) := HM1.out.front 2 rfl
 have g0 : w1.cell? ⟨tb, 0, none⟩ = some (.int .i64 0) := MT.cell 0 rfl 0 rfl
 have g1 : w1.cell? ⟨tb, 1, none⟩ = some (.string ⟨#[]⟩) := MT.cell 0 rfl 1 rfl
 have g2 : w1.cell? ⟨tb, 2, none⟩ = some (.slice none 0 0) := MT.cell 0 rfl 2 rfl
 have g3 : w1.cell? ⟨tb, 3, none⟩ = some (.slice none 0 0) := MT.cell 0 rfl 3 rfl
 have g4 : w1.cell? ⟨tb, 4, none⟩ = some (.bool false) := MT.cell 0 rfl 4 rfl
 have f0 := MT.free 0 rfl 0
 have f1 := MT.free 0 rfl 1
 have f2 := MT.free 0 rfl 2
 have f3 := MT.free 0 rfl 3
 have f4 := MT.free 0 rfl 4
 have M6 : Mem w0 (((((w1.setCell ⟨tb, 0, none⟩ (.int .i64 (t.kind : Int))).setCell ⟨tb, 1, none⟩ (.string ⟨t.s.toArray⟩)).setCell ⟨tb, 2, none⟩ (.slice aa t.args.length ca)).setCell ⟨tb, 3, none⟩ (.slice al t.labels.length cl)).setCell ⟨tb, 4, none⟩ (.bool t.opn)) (cellsR tb 28 #[.int .i64 (t.kind : Int), .string ⟨t.s.toArray⟩, .slice aa t.args.length ca, .slice al t.labels.length cl, .bool t.opn] :: _) := (((((MT.setCell 0 rfl 0 (.int .i64 (t.kind : Int))).setCell 0 rfl 1 (.string ⟨t.s.toArray⟩)).setCell 0 rfl 2 (.slice aa t.args.length ca)).setCell 0 rfl 3 (.slice al t.labels.length cl)).setCell 0 rfl 4 (.bool t.opn))
 have HM6 := Tre.hid M6
 clear M6 MT
 go_wp2_with fail
 have z0 : (((((w1.setCell ⟨tb, 0, none⟩ (.int .i64 (t.kind : Int))).setCell ⟨tb, 1, none⟩ (.string ⟨t.s.toArray⟩)).setCell ⟨tb, 2, none⟩ (.slice aa t.args.length ca)).setCell ⟨tb, 3, none⟩ (.slice al t.labels.length cl)).setCell ⟨tb, 4, none⟩ (.bool t.opn)).cell? ⟨tb, 0, none⟩ = some (.int .i64 (t.kind : Int)) := HM6.out.cell 0 rfl 0 rfl
 have z1 : (((((w1.setCell ⟨tb, 0, none⟩ (.int .i64 (t.kind : Int))).setCell ⟨tb, 1, none⟩ (.string ⟨t.s.toArray⟩)).setCell ⟨tb, 2, none⟩ (.slice aa t.args.length ca)).setCell ⟨tb, 3, none⟩ (.slice al t.labels.length cl)).setCell ⟨tb, 4, none⟩ (.bool t.opn)).cell? ⟨tb, 1, none⟩ = some (.string ⟨t.s.toArray⟩) := HM6.out.cell 0 rfl 1 rfl
 have z2 : (((((w1.setCell ⟨tb, 0, none⟩ (.int .i64 (t.kind : Int))).setCell ⟨tb, 1, none⟩ (.string ⟨t.s.toArray⟩)).setCell ⟨tb, 2, none⟩ (.slice aa t.args.length ca)).setCell ⟨tb, 3, none⟩ (.slice al t.labels.length cl)).setCell ⟨tb, 4, none⟩ (.bool t.opn)).cell? ⟨tb, 2, none⟩ = some (.slice aa t.args.length ca) := HM6.out.cell 0 rfl 2 rfl
 have z3 : (((((w1.setCell ⟨tb, 0, none⟩ (.int .i64 (t.kind : Int))).setCell ⟨tb, 1, none⟩ (.string ⟨t.s.toArray⟩)).setCell ⟨tb, 2, none⟩ (.slice aa t.args.length ca)).setCell ⟨tb, 3, none⟩ (.slice al t.labels.length cl)).setCell ⟨tb, 4, none⟩ (.bool t.opn)).cell? ⟨tb, 3, none⟩ = some (.slice al t.labels.length cl) := HM6.out.cell 0 rfl 3 rfl
 have z4 : (((((w1.setCell ⟨tb, 0, none⟩ (.int .i64 (t.kind : Int))).setCell ⟨tb, 1, none⟩ (.string ⟨t.s.toArray⟩)).setCell ⟨tb, 2, none⟩ (.slice aa t.args.length ca)).setCell ⟨tb, 3, none⟩ (.slice al t.labels.length cl)).setCell ⟨tb, 4, none⟩ (.bool t.opn)).cell? ⟨tb, 4, none⟩ = some (.bool t.opn) := HM6.out.cell 0 rfl 4 rfl
 refine bodyPost_ret (v := .agg #[.int .i64 (t.kind : Int), .string ⟨t.s.toArray⟩, .slice aa t.args.length ca, .slice al t.labels.length cl, .bool t.opn]) (by simp [results, Tryz.results42, go_sem, z0, z1, z2, z3, z4]) rfl ?_
 have HR := HM6.out.drop1
 exact ⟨O, aa, ca, al, cl, rfl, HJ.out, HR⟩
theorem level_any (w0 : World) (b : Nat) (ad : Option Addr) (c : Nat) (l : List Tok) (hl : ToksAt w0 ad l) (he : TokEnds l) (hll : l.length ≤ 4194304) (k : Nat) : ∀ m, m ≤ k → LevAt w0 b ad c l m := by
 induction k with
 | zero =>
  intro m hm rs n i j t w _ _ hp _
  have : m = 0 := by omega
  subst this
  rw [pLev] at hp
  cases hp
 | succ k ih =>
  intro m hm
  rcases Nat.lt_or_ge m (k + 1) with h | h
  ·exact ih m (by omega)
  have : m = k + 1 := by omega
  subst this
  intro rs n i j t w hi hn hp hM
  obtain rfl | rfl | rfl | rfl : n = 0 ∨ n = 1 ∨ n = 2 ∨ n = 3 := by omega
  ·exact level0 w0 b ad c l hl he hll k (ih k (Nat.le_refl _)) rs i j t w hi hp hM
  ·exact level1 w0 b ad c l hl he hll k (ih k (Nat.le_refl _)) rs i j t w hi hp hM
  ·exact level2 w0 b ad c l hl he hll k (ih k (Nat.le_refl _)) rs i j t w hi hp hM
  ·exact level3 w0 b ad c l hl he hll k (ih k (Nat.le_refl _)) (object_any w0 b ad c l hl he hll k (fun m hm => ih m (by omega))) rs i j t w hi hp hM
end Go.Proofs.YtbafalfmgibnfaaGreatDoor.typ
namespace Go.Proofs.YtbafalfmgibnfaaGreatDoor.typ
open Go.RowKit Go.Tre
set_option maxHeartbeats 1000000 in
theorem run1 (p : Addr) (w : World) : CallsD Tryz.prog 40 #[.pointer (some p)] .returning w fun e u' w' => e = .returned (.tuple #[]) ∧ u' = .returning ∧ w' = w := by
 refine callsD_of_wpS Tryz.func40 rfl fun c₀ cs hu => ?_
 apply wpS_seq
 apply wpS_region
 simp [wpOpsS, go_sem, recoverD, hu, Tryz.ntmps40, Exit.thenS]
 refine wpS_of_wp ?_
 rw [show (#[Value.pointer (some p)] ++ (Array.replicate 16 undef).setIfInBounds 3 Value.nilIface : Array Value) = #[Value.pointer (some p), undef, undef, undef, .nilIface, undef, undef, undef, undef, undef, undef, undef, undef, undef, undef, undef, undef] from rfl]
 generalize hQ : (fun (e : Exit) (a' : Act) (w' : World) => bodyPostS _ _ _ _ _ _ _ _ _) = Q
 go_wp2_with fail
 subst hQ
 cases c₀
 simp_all [bodyPostS, results, Tryz.results40]
/-! run -/
theorem hmf (fn : Fn) (first cap : Array Value) (w : World) : (Instr.makeFunc fn first cap).run Tryz.prog w = .ok (.func fn first cap) w := rfl
set_option maxRecDepth 100000 in
set_option maxHeartbeats 8000000 in
theorem run_any (w0 : World) (b : Nat) (ad : Option Addr) (c : Nat) (l : List Tok) (hl : ToksAt w0 ad l) (he : TokEnds l) (hll : l.length ≤ 4194304) (k : Nat) (rs : List Res) (i j : Nat) (t : Ty) (w : World) (hi : i < l.length) (hp : pLev l k 0 i = some (t, j)) (hM : Mem w0 w (parR b ad l.length c i :: rs)) :
  Calls Tryz.prog 21 #[.pointer (some ⟨b, 0, none⟩)] w fun e w' =>
   ∃ (O : Nat → Prop) (aa : Option Addr) (ca : Nat) (al : Option Addr) (cl : Nat), e = .returned (.tuple #[.agg #[.int .i64 (t.kind : Int), .string ⟨t.s.toArray⟩, .slice aa t.args.length ca, .slice al t.labels.length cl, .bool t.opn], .nilIface]) ∧ j < l.length ∧ Mem w0 w' (tyR O t (.agg #[.int .i64 (t.kind : Int), .string ⟨t.s.toArray⟩, .slice aa t.args.length ca, .slice al t.labels.length cl, .bool t.opn]) :: parR b ad l.length c j :: rs) := by
 have M0 := (hM.allocR #[.int .i64 0, .string ⟨#[]⟩, .slice none 0 0, .slice none 0 0, .bool false] 28).allocR #[.nilIface] 59
 rw [World.size_alloc] at M0
 have HM := Tre.hid M0
 have HA := Tre.hid (level_any w0 b ad c l hl he hll k k (Nat.le_refl _) (cellsR (w.heap.size + 1) 59 #[.nilIface] :: cellsR w.heap.size 28 #[.int .i64 0, .string ⟨#[]⟩, .slice none 0 0, .slice none 0 0, .bool false] :: rs) 0 i j t _ hi (by omega) hp (M0.front 2 rfl))
 have hmf' := hmf
 clear hl he hp hM M0
 go_enter_defers Tryz.func21, Tryz.ntmps21
 go_wp2_with fail
 refine HA.out.mono ?_
 rintro e w1 ⟨O, aa, ca, al, cl, rfl, hj1, M1⟩
 generalize heb : w.heap.size + 1 = eb at *
 generalize hrb : w.heap.size = rb at *
 have hne : rb ≠ eb := by omega
 clear heb hrb
 have M1b : Mem w0 w1 (cellsR rb 28 #[.int .i64 0, .string ⟨#[]⟩, .slice none 0 0, .slice none 0 0, .bool false] :: _) := M1.front 3 rfl
 have g0 : w1.cell? ⟨rb, 0, none⟩ = some (.int .i64 0) := M1b.cell 0 rfl 0 rfl
 have g1 : w1.cell? ⟨rb, 1, none⟩ = some (.string ⟨#[]⟩) := M1b.cell 0 rfl 1 rfl
 have g2 : w1.cell? ⟨rb, 2, none⟩ = some (.slice none 0 0) := M1b.cell 0 rfl 2 rfl
 have g3 : w1.cell? ⟨rb, 3, none⟩ = some (.slice none 0 0) := M1b.cell 0 rfl 3 rfl
 have g4 : w1.cell? ⟨rb, 4, none⟩ = some (.bool false) := M1b.cell 0 rfl 4 rfl
 have f0 := M1b.free 0 rfl 0
 have f1 := M1b.free 0 rfl 1
 have f2 := M1b.free 0 rfl 2
 have f3 := M1b.free 0 rfl 3
 have f4 := M1b.free 0 rfl 4
 have e0 : w1.cell? ⟨eb, 0, none⟩ = some .nilIface := M1b.cell 3 rfl 0 rfl
 have ef := M1b.free 3 rfl 0
 have M2 : Mem w0 (((((w1.setCell ⟨rb, 0, none⟩ (.int .i64 (t.kind : Int))).setCell ⟨rb, 1, none⟩ (.string ⟨t.s.toArray⟩)).setCell ⟨rb, 2, none⟩ (.slice aa t.args.length ca)).setCell ⟨rb, 3, none⟩ (.slice al t.labels.length cl)).setCell ⟨rb, 4, none⟩ (.bool t.opn)) (cellsR rb 28 #[.int .i64 (t.kind : Int), .string ⟨t.s.toArray⟩, .slice aa t.args.length ca, .slice al t.labels.length cl, .bool t.opn] :: tyR O t (.agg #[.int .i64 (t.kind : Int), .string ⟨t.s.toArray⟩, .slice aa t.args.length ca, .slice al t.labels.length cl, .bool t.opn]) :: parR b ad l.length c j :: cellsR eb 59 #[.nilIface] :: rs) := (((((M1b.setCell 0 rfl 0 (.int .i64 (t.kind : Int))).setCell 0 rfl 1 (.string ⟨t.s.toArray⟩)).setCell 0 rfl 2 (.slice aa t.args.length ca)).setCell 0 rfl 3 (.slice al t.labels.length cl)).setCell 0 rfl 4 (.bool t.opn))
 have M3 : Mem w0 ((((((w1.setCell ⟨rb, 0, none⟩ (.int .i64 (t.kind : Int))).setCell ⟨rb, 1, none⟩ (.string ⟨t.s.toArray⟩)).setCell ⟨rb, 2, none⟩ (.slice aa t.args.length ca)).setCell ⟨rb, 3, none⟩ (.slice al t.labels.length cl)).setCell ⟨rb, 4, none⟩ (.bool t.opn)).setCell ⟨eb, 0, none⟩ .nilIface) (cellsR rb 28 #[.int .i64 (t.kind : Int), .string ⟨t.s.toArray⟩, .slice aa t.args.length ca, .slice al t.labels.length cl, .bool t.opn] :: tyR O t (.agg #[.int .i64 (t.kind : Int), .string ⟨t.s.toArray⟩, .slice aa t.args.length ca, .slice al t.labels.length cl, .bool t.opn]) :: parR b ad l.length c j :: cellsR eb 59 #[.nilIface] :: rs) := M2.setCell 3 rfl 0 .nilIface
 have HM3 := Tre.hid M3
 have HJ := Tre.hid hj1
 clear M1 M1b M2 M3 hj1 HA HM
 go_wp2_with fail
 generalize (((((w1.setCell ⟨rb, 0, none⟩ (.int .i64 (t.kind : Int))).setCell ⟨rb, 1, none⟩ (.string ⟨t.s.toArray⟩)).setCell ⟨rb, 2, none⟩ (.slice aa t.args.length ca)).setCell ⟨rb, 3, none⟩ (.slice al t.labels.length cl)).setCell ⟨rb, 4, none⟩ (.bool t.opn)).setCell ⟨eb, 0, none⟩ .nilIface = wz at HM3 ⊢
 have z0 : wz.cell? ⟨rb, 0, none⟩ = some (.int .i64 (t.kind : Int)) := HM3.out.cell 0 rfl 0 rfl
 have z1 : wz.cell? ⟨rb, 1, none⟩ = some (.string ⟨t.s.toArray⟩) := HM3.out.cell 0 rfl 1 rfl
 have z2 : wz.cell? ⟨rb, 2, none⟩ = some (.slice aa t.args.length ca) := HM3.out.cell 0 rfl 2 rfl
 have z3 : wz.cell? ⟨rb, 3, none⟩ = some (.slice al t.labels.length cl) := HM3.out.cell 0 rfl 3 rfl
 have z4 : wz.cell? ⟨rb, 4, none⟩ = some (.bool t.opn) := HM3.out.cell 0 rfl 4 rfl
 have z5 : wz.cell? ⟨eb, 0, none⟩ = some .nilIface := HM3.out.cell 3 rfl 0 rfl
 refine leaves_cons (f := 40) (args := #[.pointer (some ⟨eb, 0, none⟩)]) (by simp) (by simp [go_sem]) ?_
 refine (run1 ⟨eb, 0, none⟩ _).mono ?_
 rintro e u' w'' ⟨rfl, rfl, rfl⟩
 simp [Leaves, settle, results, Tryz.results21, go_sem, z0, z1, z2, z3, z4, z5]
 exact ⟨O, aa, ca, al, cl, by simp, HJ.out, ((HM3.out.drop1).del 2)⟩
end Go.Proofs.YtbafalfmgibnfaaGreatDoor.typ
namespace Go.Proofs.YtbafalfmgibnfaaGreatDoor.tree
open Go.RowKit Go.Maps Go.Tre lex gr
set_option maxHeartbeats 2000000 in
theorem risingT (a : Option Addr) (cap : Nat) (l : List ByteArray) (w : World) (hl : StrsAt w a l) (hb : (l.map fun s => s.size + 1).sum ≤ 8388608) (hm : MaxAt w) :
  Calls Tryz.prog 63 #[.slice a l.length cap] w fun e w' => e = .returned (.bool (rising l)) ∧ w = w' := by
 have hlen : l.length ≤ 8388608 := Nat.le_trans (length_le_sum _ (fun x => by omega) l) hb
 go_enter Tryz.func63, Tryz.ntmps63
 go_wp2_with fail
 go_loop [7] (fun i => ∃ k : Nat, k ≤ l.length ∧ i = .int .i64 k ∧ ∀ j, j < k → labelOk l j = true) (fun i => l.length - (intOf i).toNat)
 case atStart => exact ⟨0, Nat.zero_le _, rfl, fun j h => by omega⟩
 case round =>
  obtain ⟨k, hk, rfl, hrel⟩ := hrel
  have HR := Tre.hid hrel
  clear hrel
  by_cases hlt : k < l.length
  ·obtain ⟨b, off, rfl, hc⟩ := hl.at_ k (.string l[k]) (by simp [List.getElem?_eq_getElem hlt])
   have hsz := labels_small (List.getElem_mem hlt) hb
   have hok : labelOk l k = (isName l[k] && (k == 0 || Op.bytesLess (l.getD (k - 1) ByteArray.empty).toList l[k].toList)) := by
    unfold labelOk; rw [List.getD_eq_getElem?_getD, List.getElem?_eq_getElem hlt, Option.getD_some]
   have no : labelOk l k = false → rising l = false := fun h => by
    unfold rising
    rw [← Bool.not_eq_true, List.all_eq_true]
    exact fun hh => by have := hh k (List.mem_range.2 hlt); rw [h] at this; cases this
   by_cases hn : isName l[k] = true
   ·by_cases hk0 : k = 0
    ·have HO : Hid (labelOk l k = true) := by show _ = _; rw [hok, hn]; simp [hk0]
     have e0 : ¬ (0 : Int) < (k : Int) := by omega
     clear hok no hk0
     go_wp2_with (go_at_call 14; refine (isName_any _ _ hsz hm).mono ?_; rintro e w' ⟨rfl, rfl⟩)
     go_round
     case rel =>
      refine ⟨k + 1, by omega, by go_num, fun j hj => ?_⟩
      by_cases hjk : j = k
      ·rw [hjk]; exact HO.out
      ·exact HR.out j (by omega)
     case measure => simp [intOf]; omega
    ·have hp : k - 1 < l.length := by omega
     obtain ⟨b', off', hbb, hc'⟩ := hl.at_ (k - 1) (.string l[k - 1]) (by simp [List.getElem?_eq_getElem hp])
     cases hbb
     have e0 : (0 : Int) < (k : Int) := by omega
     have e1 : (0 : Int) ≤ (k : Int) - 1 := by omega
     have hgd : l.getD (k - 1) ByteArray.empty = l[k - 1] := by rw [List.getD_eq_getElem?_getD, List.getElem?_eq_getElem hp, Option.getD_some]
     have hb0 : (k == 0) = false := by simpa using hk0
     by_cases hlo : Op.bytesLess l[k - 1].toList l[k].toList = true
     ·have HO : Hid (labelOk l k = true) := by show _ = _; rw [hok, hn, hb0, hgd, hlo]; rfl
      clear hok no hgd hb0
      go_wp2_with (go_at_call 14; refine (isName_any _ _ hsz hm).mono ?_; rintro e w' ⟨rfl, rfl⟩)
      go_round
      case rel =>
       refine ⟨k + 1, by omega, by go_num, fun j hj => ?_⟩
       by_cases hjk : j = k
       ·rw [hjk]; exact HO.out
       ·exact HR.out j (by omega)
      case measure => simp [intOf]; omega
     ·have HO : Hid (rising l = false) := no (by rw [hok, hn, hb0, hgd]; simpa using hlo)
      have hlo' : Op.bytesLess l[k - 1].toList l[k].toList = false := by simpa using hlo
      clear hok no hgd hb0 hlo
      go_wp2_with (go_at_call 14; refine (isName_any _ _ hsz hm).mono ?_; rintro e w' ⟨rfl, rfl⟩)
      go_ret
      exact ⟨ret_bool HO.out.symm, rfl⟩
   ·have hn' : isName l[k] = false := by simpa using hn
    have HO : Hid (rising l = false) := no (by rw [hok, hn']; rfl)
    clear hok no hn
    go_wp2_with (go_at_call 14; refine (isName_any _ _ hsz hm).mono ?_; rintro e w' ⟨rfl, rfl⟩)
    go_ret
    exact ⟨ret_bool HO.out.symm, rfl⟩
  ·have HO : Hid (rising l = true) := by
    show _ = _
    unfold rising
    rw [List.all_eq_true]
    exact fun j hj => HR.out j (by have := List.mem_range.1 hj; omega)
   go_wp2_with fail
   go_ret
   exact ⟨ret_bool HO.out.symm, rfl⟩

set_option maxHeartbeats 1000000 in
theorem wordT (s : ByteArray) (r : Bool) (w : World) (hs : s.size ≤ 8388608) (hm : MaxAt w) (hr : (isName s || isKey s) = r) :
  Calls Tryz.prog 64 #[.string s] w fun e w' => e = .returned (.bool r) ∧ w = w' := by
 cases hn : isName s
 ·have HR : Hid (isKey s = r) := by show _ = _; rw [← hr, hn]; rfl
  clear hr
  go_enter Tryz.func64, Tryz.ntmps64
  go_wp2_with fail
  refine (isName_any s _ hs hm).mono ?_
  rintro e w' ⟨rfl, rfl⟩
  rw [hn]
  clear hn
  go_wp2_with fail
  refine (isKey_any s _ hs hm).mono ?_
  rintro e w' ⟨rfl, rfl⟩
  rw [HR.out]
  go_wp2_with fail
  go_ret
  exact ⟨rfl, rfl⟩
 ·have HR : Hid (r = true) := by show _ = _; rw [← hr, hn]; rfl
  clear hr
  go_enter Tryz.func64, Tryz.ntmps64
  go_wp2_with fail
  refine (isName_any s _ hs hm).mono ?_
  rintro e w' ⟨rfl, rfl⟩
  rw [hn]
  clear hn
  go_wp2_with fail
  go_ret
  exact ⟨ret_bool HR.out.symm, rfl⟩
end Go.Proofs.YtbafalfmgibnfaaGreatDoor.tree
namespace Go.Tre
theorem basics_is (s : List UInt8) : (basicsB.any fun x => decide ((⟨s.toArray⟩ : ByteArray) = x)) = basics.contains s := by
 cases hb : basics.contains s
 ·rw [← Bool.not_eq_true, List.any_eq_true]
  rintro ⟨x, hx, he⟩
  have he' : (⟨s.toArray⟩ : ByteArray) = x := of_decide_eq_true he
  subst he'
  rw [← Bool.not_eq_true, List.contains_iff_mem] at hb
  refine hb ?_
  simp only [basicsB, List.mem_cons, List.not_mem_nil, or_false, ByteArray.mk.injEq] at hx
  unfold basics
  simp only [List.mem_cons, List.not_mem_nil, or_false]
  rcases hx with e | e | e | e
  ·exact .inl (by have := congrArg Array.toList e; simpa using this)
  ·exact .inr (.inl (by have := congrArg Array.toList e; simpa using this))
  ·exact .inr (.inr (.inl (by have := congrArg Array.toList e; simpa using this)))
  ·exact .inr (.inr (.inr (by have := congrArg Array.toList e; simpa using this)))
 ·exact basics_any hb
open Go.RowKit in
theorem size_alloc_cell {w0 w : World} {rs : List Res} {o : Obj} {cs : Array Value} {e : TypeId} {n size : Nat} {xs : List Value} (M : Mem w0 ((w.alloc o).alloc (.cells cs e)) (rowR e size (.slice (some ⟨(w.alloc o).heap.size, 0, none⟩) n n) n xs :: rs)) {j : Nat} {u : Value} (hj : xs[j]? = some u) : ((w.alloc o).alloc (.cells cs e)).cell? ⟨w.heap.size + 1, j, none⟩ = some u := by
 rw [← World.size_alloc w o]
 exact M.cellAt 0 rfl j hj
end Go.Tre
namespace Go.Proofs.YtbafalfmgibnfaaGreatDoor.tree
open Go.RowKit Go.Maps Go.Tre lex gr typ
set_option maxRecDepth 100000 in
set_option maxHeartbeats 8000000 in
theorem own_any (k : Nat) (s : ByteArray) (aa : Option Addr) (n ca : Nat) (al : Option Addr) (cl : Nat) (labels : List (List UInt8)) (o : Bool) (w : World) (hl : StrsAt w al (byteStrs labels)) (hlw : ((byteStrs labels).map fun s => s.size + 1).sum ≤ 8388608) (hss : s.size ≤ 8388608) (hnn : n ≤ 8388608) (hm : MaxAt w) :
  Calls Tryz.prog 45 #[.agg #[.int .i64 k, .string s, .slice aa n ca, .slice al labels.length cl, .bool o]] w fun e w' => e = .returned (.bool (ownT k s.data.toList n labels o)) ∧ Below w.heap.size w w' := by
 have HM := Tre.hid ((Mem.nil w).allocR #[.int .i64 k, .string s, .slice aa n ca, .slice al labels.length cl, .bool o] 28)
 have HL := Tre.hid (hl.below HM.out.below)
 have HX := Tre.hid hm
 have hll : labels.length ≤ 8388608 := Nat.le_trans (by have := length_le_sum (fun s : ByteArray => s.size + 1) (fun x => by omega) (byteStrs labels); simpa [byteStrs] using this) hlw
 have HRT : Hid (∀ W, Below w.heap.size w W → Calls Tryz.prog 63 #[.slice al labels.length cl] W fun e w' => e = .returned (.bool (rising (byteStrs labels))) ∧ W = w') := fun W hb => by
  have h := risingT al cl (byteStrs labels) W (hl.below hb) hlw (hm.below hb)
  rw [show (byteStrs labels).length = labels.length from List.length_map ..] at h
  exact h
 clear hl hm hlw
 by_cases h3 : k = 3
 ·have ek : ((k : Int) == 3) = true := by rw [h3]; rfl
  have eo : (0 : Int) ≤ labels.length := by omega
  by_cases hs : s.size = 0
  ·have e0 := emp1 hs
   have hs' : s.data.toList = [] := toList_empty.2 hs
   by_cases hn : labels.length = n
   ·have en : ((labels.length : Int) == (n : Int)) = true := by rw [hn]; exact beq_self_eq_true _
    have H : Hid (ownT k s.data.toList n labels o = rising (byteStrs labels)) := by show _ = _; unfold ownT; simp [h3, hs', hn]
    clear h3 hs hs' hn
    go_enter Tryz.func45, Tryz.ntmps45
    go_wp2_with fail
    refine (HRT.out _ HM.out.below).mono ?_
    rintro e w' ⟨rfl, rfl⟩
    go_wp2_with fail
    go_ret
    exact ⟨ret_bool H.out.symm, HM.out.below⟩
   ·have en : ((labels.length : Int) == (n : Int)) = false := beq_eq_false_iff_ne.2 (by omega)
    have H : Hid (ownT k s.data.toList n labels o = false) := by show _ = _; unfold ownT; simp [h3, hn]
    clear h3 hs hs' hn
    go_enter Tryz.func45, Tryz.ntmps45
    go_wp2_with fail
    go_ret
    exact ⟨ret_bool H.out.symm, HM.out.below⟩
  ·have e0 := emp0 hs
   have hs' : ¬ s.data.toList = [] := fun e => hs (toList_empty.1 e)
   have H : Hid (ownT k s.data.toList n labels o = false) := by show _ = _; unfold ownT; simp [h3, hs']
   clear h3 hs hs'
   go_enter Tryz.func45, Tryz.ntmps45
   go_wp2_with fail
   go_ret
   exact ⟨ret_bool H.out.symm, HM.out.below⟩
 ·have ek : ((k : Int) == 3) = false := beq_eq_false_iff_ne.2 (by omega)
  by_cases hl0 : 0 < labels.length
  ·have el : (0 : Int) < labels.length := by omega
   have eln : ¬ labels = [] := fun e => by rw [e] at hl0; exact absurd hl0 (by decide)
   have elm : (labels = []) = False := eq_false eln
   have H : Hid (ownT k s.data.toList n labels o = false) := by show _ = _; unfold ownT; simp [h3, hl0]
   clear h3 hl0
   go_enter Tryz.func45, Tryz.ntmps45
   go_wp2_with fail
   go_ret
   exact ⟨ret_bool H.out.symm, HM.out.below⟩
  ·obtain rfl : labels = [] := List.eq_nil_of_length_eq_zero (by omega)
   clear hl0 HRT
   cases o
   ·by_cases h1 : k = 1
    ·have e1 : ((k : Int) == 1) = true := by rw [h1]; rfl
     obtain ⟨wd, hwd⟩ : ∃ wd, (isName s || isKey s) = wd := ⟨_, rfl⟩
     have hwb : wordB s.data.toList = wd := hwd
     cases wd
     ·have H : Hid (ownT k s.data.toList n [] false = false) := by show _ = _; unfold ownT; simp [h1, hwb]
      clear h1 h3
      go_enter Tryz.func45, Tryz.ntmps45
      go_wp2_with fail
      refine (wordT s _ _ (by omega) (HX.out.below HM.out.below) hwd).mono ?_
      rintro e w' ⟨rfl, rfl⟩
      go_wp2_with fail
      go_ret
      exact ⟨ret_bool H.out.symm, HM.out.below⟩
     ·by_cases hn : n = 0
      ·have en : ((n : Int) == 0) = true := by rw [hn]; rfl
       have H : Hid (ownT k s.data.toList n [] false = true) := by show _ = _; unfold ownT; simp [h1, hwb, hn]
       clear h1 hn h3
       go_enter Tryz.func45, Tryz.ntmps45
       go_wp2_with fail
       refine (wordT s _ _ (by omega) (HX.out.below HM.out.below) hwd).mono ?_
       rintro e w' ⟨rfl, rfl⟩
       go_wp2_with fail
       go_ret
       exact ⟨ret_bool H.out.symm, HM.out.below⟩
      ·have en : ((n : Int) == 0) = false := beq_eq_false_iff_ne.2 (by omega)
       have H : Hid (ownT k s.data.toList n [] false = false) := by show _ = _; unfold ownT; simp [h1, hwb, hn]
       clear h1 hn h3
       go_enter Tryz.func45, Tryz.ntmps45
       go_wp2_with fail
       refine (wordT s _ _ (by omega) (HX.out.below HM.out.below) hwd).mono ?_
       rintro e w' ⟨rfl, rfl⟩
       go_wp2_with fail
       go_ret
       exact ⟨ret_bool H.out.symm, HM.out.below⟩
    ·have e1 : ((k : Int) == 1) = false := beq_eq_false_iff_ne.2 (by omega)
     by_cases h4 : k = 4
     ·have e4 : ((k : Int) == 4) = true := by rw [h4]; rfl
      obtain ⟨wd, hwd⟩ : ∃ wd, (isName s || isKey s) = wd := ⟨_, rfl⟩
      have hwb : wordB s.data.toList = wd := hwd
      cases wd
      ·have H : Hid (ownT k s.data.toList n [] false = false) := by show _ = _; unfold ownT; simp [h4, hwb]
       clear h4 h3
       go_enter Tryz.func45, Tryz.ntmps45
       go_wp2_with fail
       refine (wordT s _ _ (by omega) (HX.out.below HM.out.below) hwd).mono ?_
       rintro e w' ⟨rfl, rfl⟩
       go_wp2_with fail
       go_ret
       exact ⟨ret_bool H.out.symm, HM.out.below⟩
      ·by_cases hn : n = 1
       ·have en : ((n : Int) == 1) = true := by rw [hn]; rfl
        have H : Hid (ownT k s.data.toList n [] false = true) := by show _ = _; unfold ownT; simp [h4, hwb, hn]
        clear h4 hn h3
        go_enter Tryz.func45, Tryz.ntmps45
        go_wp2_with fail
        refine (wordT s _ _ (by omega) (HX.out.below HM.out.below) hwd).mono ?_
        rintro e w' ⟨rfl, rfl⟩
        go_wp2_with fail
        go_ret
        exact ⟨ret_bool H.out.symm, HM.out.below⟩
       ·have en : ((n : Int) == 1) = false := beq_eq_false_iff_ne.2 (by omega)
        have H : Hid (ownT k s.data.toList n [] false = false) := by show _ = _; unfold ownT; simp [h4, hwb, hn]
        clear h4 hn h3
        go_enter Tryz.func45, Tryz.ntmps45
        go_wp2_with fail
        refine (wordT s _ _ (by omega) (HX.out.below HM.out.below) hwd).mono ?_
        rintro e w' ⟨rfl, rfl⟩
        go_wp2_with fail
        go_ret
        exact ⟨ret_bool H.out.symm, HM.out.below⟩
     ·have e4 : ((k : Int) == 4) = false := beq_eq_false_iff_ne.2 (by omega)
      by_cases h2 : k = 2
      ·have e2 : ((k : Int) == 2) = true := by rw [h2]; rfl
       by_cases ha : s.data.toList = [45, 62]
       ·have eaa : (s.toList == [45, 62]) = true := by rw [ByteArray.toList_eq, ha]; rfl
        have eab : (s.toList = [45, 62]) = True := by rw [ByteArray.toList_eq, ha]; simp

        by_cases hn : n = 2
        ·have en : ((n : Int) == 2) = true := by rw [hn]; rfl
         have H : Hid (ownT k s.data.toList n [] false = true) := by show _ = _; unfold ownT; simp [h2, hn, ha]
         clear h2 hn h3 h1 h4 ha
         go_enter Tryz.func45, Tryz.ntmps45
         go_wp2_with fail
         go_ret
         exact ⟨ret_bool H.out.symm, HM.out.below⟩
        ·have en : ((n : Int) == 2) = false := beq_eq_false_iff_ne.2 (by omega)
         have H : Hid (ownT k s.data.toList n [] false = false) := by show _ = _; unfold ownT; simp [h2, hn, ha]
         clear h2 hn h3 h1 h4 ha
         go_enter Tryz.func45, Tryz.ntmps45
         go_wp2_with fail
         go_ret
         exact ⟨ret_bool H.out.symm, HM.out.below⟩
       ·have eaa : (s.toList == [45, 62]) = false := by rw [ByteArray.toList_eq, beq_eq_false_iff_ne]; exact ha
        have eab : (s.toList = [45, 62]) = False := by rw [ByteArray.toList_eq, eq_iff_iff, iff_false]; exact ha

        by_cases hb : s.data.toList = [42]
        ·have eba : (s.toList == [42]) = true := by rw [ByteArray.toList_eq, hb]; rfl
         have ebb : (s.toList = [42]) = True := by rw [ByteArray.toList_eq, hb]; simp

         by_cases hn : n = 2
         ·have en : ((n : Int) == 2) = true := by rw [hn]; rfl
          have H : Hid (ownT k s.data.toList n [] false = true) := by show _ = _; unfold ownT; simp [h2, hn, hb]
          clear h2 hn h3 h1 h4 ha hb
          go_enter Tryz.func45, Tryz.ntmps45
          go_wp2_with fail
          go_ret
          exact ⟨ret_bool H.out.symm, HM.out.below⟩
         ·have en : ((n : Int) == 2) = false := beq_eq_false_iff_ne.2 (by omega)
          have H : Hid (ownT k s.data.toList n [] false = false) := by show _ = _; unfold ownT; simp [h2, hn, hb]
          clear h2 hn h3 h1 h4 ha hb
          go_enter Tryz.func45, Tryz.ntmps45
          go_wp2_with fail
          go_ret
          exact ⟨ret_bool H.out.symm, HM.out.below⟩
        ·have eba : (s.toList == [42]) = false := by rw [ByteArray.toList_eq, beq_eq_false_iff_ne]; exact hb
         have ebb : (s.toList = [42]) = False := by rw [ByteArray.toList_eq, eq_iff_iff, iff_false]; exact hb

         by_cases hn : n = 0
         ·have en : ((n : Int) == 0) = true := by rw [hn]; rfl
          have MR := HM.out.allocRow #[.string ⟨#[105, 110, 116]⟩, .string ⟨#[98, 111, 111, 108]⟩, .string ⟨#[115, 116, 114, 105, 110, 103]⟩, .string ⟨#[117, 110, 105, 116]⟩] 9 1 4 (by unfold maxLen; omega) rfl
          have HR := Tre.hid MR
          have HSA : Hid (StrsAt ((w.alloc (.cells #[.int .i64 k, .string s, .slice aa n ca, .slice al ([] : List (List UInt8)).length cl, .bool false] 28)).alloc (.cells #[.string ⟨#[105, 110, 116]⟩, .string ⟨#[98, 111, 111, 108]⟩, .string ⟨#[115, 116, 114, 105, 110, 103]⟩, .string ⟨#[117, 110, 105, 116]⟩] 9)) (some ⟨w.heap.size + 1, 0, none⟩) basicsB) := ⟨rfl, fun j u hj => ⟨_, 0, rfl, by rw [Nat.zero_add]; exact (size_alloc_cell MR hj)⟩⟩
          have y4 : ((w.alloc (.cells #[.int .i64 k, .string s, .slice aa n ca, .slice al ([] : List (List UInt8)).length cl, .bool false] 28)).alloc (.cells #[.string ⟨#[105, 110, 116]⟩, .string ⟨#[98, 111, 111, 108]⟩, .string ⟨#[115, 116, 114, 105, 110, 103]⟩, .string ⟨#[117, 110, 105, 116]⟩] 9)).cell? ⟨w.heap.size, 1, none⟩ = some (.string s) := MR.cell 1 rfl 1 rfl
          obtain ⟨bc, hbc⟩ : ∃ bc, basics.contains s.data.toList = bc := ⟨_, rfl⟩
          have HBS : Hid ((basicsB.any fun x => decide ((⟨s.data.toList.toArray⟩ : ByteArray) = x)) = bc) := (basics_is s.data.toList).trans hbc
          clear MR
          have H : Hid (ownT k s.data.toList n [] false = bc) := by show _ = _; rw [← hbc]; unfold ownT; simp [h2, hn, ha, hb]
          clear hbc h2 hn h3 h1 h4 ha hb
          go_enter Tryz.func45, Tryz.ntmps45
          go_wp2_with fail
          refine (typ.containsStrs _ 4 basicsB s _ HSA.out (by decide) _ HBS.out).mono ?_
          rintro e w' ⟨rfl, rfl⟩
          go_wp2_with fail
          go_ret
          exact ⟨ret_bool H.out.symm, HR.out.below⟩
         ·have en : ((n : Int) == 0) = false := beq_eq_false_iff_ne.2 (by omega)
          have H : Hid (ownT k s.data.toList n [] false = false) := by show _ = _; unfold ownT; simp [h2, hn, ha, hb]
          clear h2 hn h3 h1 h4 ha hb
          go_enter Tryz.func45, Tryz.ntmps45
          go_wp2_with fail
          go_ret
          exact ⟨ret_bool H.out.symm, HM.out.below⟩
      ·have e2 : ((k : Int) == 2) = false := beq_eq_false_iff_ne.2 (by omega)
       have H : Hid (ownT k s.data.toList n [] false = false) := by show _ = _; unfold ownT; simp [h1, h2, h3, h4]
       clear h1 h2 h3 h4
       go_enter Tryz.func45, Tryz.ntmps45
       go_wp2_with fail
       go_ret
       exact ⟨ret_bool H.out.symm, HM.out.below⟩
   ·have H : Hid (ownT k s.data.toList n [] true = false) := by show _ = _; unfold ownT; simp [h3]
    clear h3
    go_enter Tryz.func45, Tryz.ntmps45
    go_wp2_with fail
    go_ret
    exact ⟨ret_bool H.out.symm, HM.out.below⟩
end Go.Proofs.YtbafalfmgibnfaaGreatDoor.tree
