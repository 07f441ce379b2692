/- strings.FieldsSeq at an ASCII text: the words that it hands over, one by one. errors.Join of two errors, neither of them nil. (*lexer).next: what all its branches share. -/
import Derived.Test.YtbafalfmgibnfaaGreatDoorB00
import Derived.Test.YtbafalfmgibnfaaGreatDoorRows
import Derived.RangeFuncBox
import Derived.RangeFuncLeaves
import Derived.RangeFuncBound
import Derived.RangeFuncCalls
import Derived.RangeFuncNested
import Derived.Shelf.Abstract
import Derived.Shelf.RegionOpen
import Derived.WalkKit
import Derived.OwnWalkIn
import Derived.TacticsInMore
import Derived.LoopNIn
import Derived.LoopIn
import Derived.Test.YtbafalfmgibnfaaGreatDoorB03
import Derived.LoopN
set_option linter.unusedVariables false
namespace Go.Tre
open Go.RowKit
def spB (c : UInt8) : Bool := (9 ≤ c.toNat && c.toNat ≤ 13) || c.toNat == 32
def fieldsS : List UInt8 → List UInt8 → List (List UInt8)
 | cur, [] => if cur = [] then [] else [cur]
 | cur, c :: r => if spB c = true then (if cur = [] then fieldsS [] r else cur :: fieldsS [] r) else fieldsS (cur ++ [c]) r
def SpaceAt (w : World) : Prop := ∀ c : UInt8, w.cell? ⟨1, c.toNat, none⟩ = some (.int .u8 (if spB c = true then 1 else 0))
theorem SpaceAt.below {w w' : World} (h : SpaceAt w) (hb : Below w.heap.size w w') : SpaceAt w' := fun c => cell_below hb (h c)
theorem drop_take_snoc (s : ByteArray) (st i : Nat) (h1 : st ≤ i) (h2 : i < s.size) : (s.data.toList.drop st).take (i + 1 - st) = (s.data.toList.drop st).take (i - st) ++ [s[i]] := by
 rw [show i + 1 - st = (i - st) + 1 by omega, List.take_succ_eq_append_getElem (by simp; omega)]
 congr 2
 rw [List.getElem_drop]
 simp only [show st + (i - st) = i by omega]
 rfl
theorem extract_take (s : ByteArray) (st i : Nat) (h2 : i ≤ s.size) : (s.extract st i).data.toList = (s.data.toList.drop st).take (i - st) := by
 rw [ByteArray.data_extract, Array.toList_extract, List.extract_eq_take_drop]
end Go.Tre
namespace Go.Proofs.YtbafalfmgibnfaaGreatDoor.lex
open Go.RowKit Go.Tre Go.Shelf
attribute [local go_sem] Oper.semAt_some
set_option maxRecDepth 100000 in
set_option maxHeartbeats 4000000 in
theorem fields_in (F : Fence) (n : Nat) (hf : F.fn 75) (hro : F.round = none) (hn : 1 ≤ n) (l Bs n₀ : Nat) (s : ByteArray) (hs : s.size ≤ 4194304) (has : ∀ c ∈ s.data.toList, c.toNat < 128) (J Jx : List ByteArray → World → Prop)
  (hY : ∀ pre x W, J pre W → pre.length < (fieldsS [] s.data.toList).length → YieldAt F (n - 1) Tryz.prog l #[.string x] W fun e W' =>
   (e = .returned (.bool true) ∧ J (pre ++ [x]) W' ∧ Below n₀ W W') ∨ (e = .returned (.bool false) ∧ Jx (pre ++ [x]) W'))
  (W : World) (hBn : Bs < n₀) (hgn : 1 < n₀) (hBs : W.cell? ⟨Bs, 0, none⟩ = some (.string s)) (hsp : SpaceAt W) (h0 : J [] W) :
  CallsIn F n Tryz.prog 75 #[.func (.yield l) #[] #[], .pointer (some ⟨Bs, 0, none⟩)] W fun e W' => (∃ v, e = .returned v) ∧
   ((∃ ys : List ByteArray, ys.map (·.data.toList) = fieldsS [] s.data.toList ∧ J ys W') ∨ (∃ pre : List ByteArray, (∃ r, pre.map (·.data.toList) ++ r = fieldsS [] s.data.toList) ∧ Jx pre W')) := by
 have HY := Tre.hid hY
 have HAS := Tre.hid has
 have HBS := Tre.hid hBs
 have HSP := Tre.hid hsp
 have HJ := Tre.hid h0
 clear hY has hBs hsp h0
 refine callsIn_of_wp Tryz.func75 rfl hf ?_ hro
 simp only [Tryz.ntmps75, List.size_toArray, List.length_cons, List.length_nil, Nat.reduceAdd, Nat.reduceSub, Array.replicate_succ, Array.replicate_zero, List.push_toArray, List.append_toArray, List.nil_append, List.cons_append]
 gi_wp2
 gi_loopw [3, 4] (fun v3 v4 wr => ∃ (i : Nat) (cur : List UInt8) (pre : List ByteArray), i ≤ s.size ∧ v4 = .int .i64 i ∧ Hid ((cur = [] ∧ v3 = .int .i64 (-1)) ∨ (∃ st : Nat, st < i ∧ v3 = .int .i64 st ∧ cur = (s.data.toList.drop st).take (i - st))) ∧
   Hid (pre.map (·.data.toList) ++ fieldsS cur (s.data.toList.drop i) = fieldsS [] s.data.toList) ∧ Hid (J pre wr) ∧ Hid (Below n₀ W wr))
  (fun _ v4 _ => s.size - (intOf v4).toNat)
 case atStart => exact ⟨0, [], [], Nat.zero_le _, rfl, .inl ⟨rfl, rfl⟩, rfl, HJ.out, Below.refl _ _⟩
 case round =>
  obtain ⟨i, cur, pre, hi, rfl, hst, hF, HJr, HB⟩ := hrel
  have b0 : wr.cell? ⟨Bs, 0, none⟩ = some (.string s) := (HB.out.cell (p := ⟨Bs, 0, none⟩) hBn).trans HBS.out
  by_cases hlt : i < s.size
  ·have hd := drop_at s i hlt
   have HD := Tre.hid hd
   clear hd
   have h128 := HAS.out s[i] (List.getElem_mem (by simpa using hlt))
   have t0 : wr.cell? ⟨1, s[i].toNat, none⟩ = some (.int .u8 (if spB s[i] = true then 1 else 0)) := (HB.out.cell (p := ⟨1, s[i].toNat, none⟩) hgn).trans (HSP.out s[i])
   by_cases hsp : spB s[i] = true
   ·rw [if_pos hsp] at t0
    rcases hst.out with ⟨rfl, rfl⟩ | ⟨st, hsi, rfl, rfl⟩
    ·have HF2 : Hid (pre.map (·.data.toList) ++ fieldsS [] (s.data.toList.drop (i + 1)) = fieldsS [] s.data.toList) := by
      show _ = _
      rw [← hF.out, HD.out, fieldsS, if_pos hsp, if_pos rfl]
     clear hsp hst
     gi_wp2
     go_roundw
     case rel => exact ⟨i + 1, [], pre, by omega, by go_num, .inl ⟨rfl, rfl⟩, HF2.out, HJr.out, HB.out⟩
     case measure => simp [intOf]; omega
    ·have hne : (s.data.toList.drop st).take (i - st) ≠ [] := by
      intro h
      have := congrArg List.length h
      simp at this
      omega
     have HF2 : Hid ((pre ++ [s.extract st i]).map (·.data.toList) ++ fieldsS [] (s.data.toList.drop (i + 1)) = fieldsS [] s.data.toList) := by
      show _ = _
      rw [← hF.out, HD.out, fieldsS, if_pos hsp, if_neg hne, List.map_append, List.map_singleton, extract_take s st i (by omega)]; simp
     have hlen : pre.length < (fieldsS [] s.data.toList).length := by
      rw [← HF2.out]; simp
     obtain ⟨fn, tmps, assign, body, hy, hR⟩ := HY.out pre (s.extract st i) wr HJr.out hlen
     have i0 : st ≤ i := by omega
     have i1 : i ≤ s.size := by omega
     clear hsp hst hne hlen
     gi_wp2
     refine hR.mono ?_
     rintro e W3 (⟨rfl, hJ3, hk3⟩ | ⟨rfl, hJx3⟩)
     ·have HJ3 := Tre.hid hJ3
      have HB3 := Tre.hid (HB.out.trans hk3)
      clear hJ3 hk3
      gi_wp2
      go_roundw
      case rel => exact ⟨i + 1, [], pre ++ [s.extract st i], by omega, by go_num, .inl ⟨rfl, rfl⟩, HF2.out, HJ3.out, HB3.out⟩
      case measure => simp [intOf]; omega
     ·have HJ3 := Tre.hid hJx3
      clear hJx3
      gi_wp2
      refine bodyPost_ret (results_none rfl _ _ _) rfl ?_
      exact ⟨⟨_, rfl⟩, .inr ⟨pre ++ [s.extract st i], ⟨_, HF2.out⟩, HJ3.out⟩⟩
   ·rw [if_neg hsp] at t0
    rcases hst.out with ⟨rfl, rfl⟩ | ⟨st, hsi, rfl, rfl⟩
    ·have HF2 : Hid (pre.map (·.data.toList) ++ fieldsS ((s.data.toList.drop i).take (i + 1 - i)) (s.data.toList.drop (i + 1)) = fieldsS [] s.data.toList) := by
      show _ = _
      rw [← hF.out, HD.out, fieldsS, if_neg hsp, show i + 1 - i = 1 by omega]; rfl
     clear hsp hst
     gi_wp2
     go_roundw
     case rel => exact ⟨i + 1, _, pre, by omega, by go_num, .inr ⟨i, by omega, rfl, rfl⟩, HF2.out, HJr.out, HB.out⟩
     case measure => simp [intOf]; omega
    ·have HF2 : Hid (pre.map (·.data.toList) ++ fieldsS ((s.data.toList.drop st).take (i + 1 - st)) (s.data.toList.drop (i + 1)) = fieldsS [] s.data.toList) := by
      show _ = _
      rw [← hF.out, HD.out, fieldsS, if_neg hsp, drop_take_snoc s st i (by omega) hlt]
     have i0 : (0 : Int) ≤ (st : Int) := by omega
     clear hsp hst
     gi_wp2
     go_roundw
     case rel => exact ⟨i + 1, _, pre, by omega, by go_num, .inr ⟨st, by omega, rfl, rfl⟩, HF2.out, HJr.out, HB.out⟩
     case measure => simp [intOf]; omega
  ·have hF' := hF.out
   rw [List.drop_of_length_le (by simp; omega)] at hF'
   rcases hst.out with ⟨rfl, rfl⟩ | ⟨st, hsi, rfl, rfl⟩
   ·rw [fieldsS, if_pos rfl, List.append_nil] at hF'
    have HF2 := Tre.hid hF'
    clear hF' hst hF
    gi_wp2
    go_end0
    exact ⟨⟨_, rfl⟩, .inl ⟨pre, HF2.out, HJr.out⟩⟩
   ·have hne : (s.data.toList.drop st).take (i - st) ≠ [] := by
     intro h
     have := congrArg List.length h
     simp at this
     omega
    have hii : i = s.size := by omega
    rw [fieldsS, if_neg hne] at hF'
    have HF2 : Hid ((pre ++ [s.extract st s.size]).map (·.data.toList) = fieldsS [] s.data.toList) := by
     show _ = _
     rw [← hF', List.map_append, List.map_singleton, extract_take s st s.size (by omega), hii]
    have hlen : pre.length < (fieldsS [] s.data.toList).length := by
     rw [← HF2.out]; simp
    obtain ⟨fn, tmps, assign, body, hy, hR⟩ := HY.out pre (s.extract st s.size) wr HJr.out hlen
    have i0 : st ≤ s.size := by omega
    have i1 : (0 : Int) ≤ (st : Int) := by omega
    clear hst hne hlen hF' hF hii
    gi_wp2
    refine hR.mono ?_
    rintro e W3 (⟨rfl, hJ3, hk3⟩ | ⟨rfl, hJx3⟩)
    ·have HJ3 := Tre.hid hJ3
     clear hJ3 hk3
     gi_wp2
     go_end0
     exact ⟨⟨_, rfl⟩, .inl ⟨pre ++ [s.extract st s.size], HF2.out, HJ3.out⟩⟩
    ·have HJ3 := Tre.hid hJx3
     clear hJx3
     gi_wp2
     go_end0
     exact ⟨⟨_, rfl⟩, .inr ⟨pre ++ [s.extract st s.size], ⟨[], by rw [List.append_nil]; exact HF2.out⟩, HJ3.out⟩⟩
end Go.Proofs.YtbafalfmgibnfaaGreatDoor.lex
namespace Go.Proofs.YtbafalfmgibnfaaGreatDoor.errs
open Go.RowKit Go.Tre
theorem row_one (w : World) (u : Value) (t : TypeId) : Row (w.alloc (.cells #[u] t)) 1 (some ⟨w.heap.size, 0, none⟩) 1 [u] :=
 ⟨rfl, fun j x hx => by
  cases j with
  | zero => cases hx; exact ⟨_, 0, rfl, by simp⟩
  | succ j => simp at hx⟩
theorem infoErr : (Tryz.prog.info? 59).map (fun i => (i.zero, i.size, i.bytes)) = some (some .nilIface, 1, 16) := by kernel_rfl
set_option maxRecDepth 100000 in
set_option maxHeartbeats 4000000 in
theorem join2 (b o c : Nat) (t1 t2 : TypeId) (v1 v2 : Value) (w : World) (h0 : w.cell? ⟨b, o, none⟩ = some (.iface t1 v1)) (h1 : w.cell? ⟨b, o + 1, none⟩ = some (.iface t2 v2)) (hc : 2 ≤ c) :
  Calls Tryz.prog 52 #[.slice (some ⟨b, o, none⟩) 2 c] w fun e w' => ∃ q v, e = .returned (.iface 156 (.pointer (some ⟨q, 0, none⟩))) ∧
   Mem w w' [cellsR q 158 #[v], rowR 59 1 v 2 [.iface t1 v1, .iface t2 v2]] := by
 obtain ⟨ie, E1, E2, E3, E4⟩ := info_parts infoErr
 obtain ⟨wm, hmk, hmo, hmg⟩ := run_make_own (P := Tryz.prog) w 0 139 59 ie _ 1 Tryz.underlying139 E1 E2 E3 .i64 .i64 2 (by rw [E4]; omega) (by unfold maxLen; omega) (Nat.zero_le _)
 have M0 : Mem w wm [rowR 59 1 (.slice (some ⟨w.heap.size, 0, none⟩) 0 2) 0 []] := (Mem.nil w).add hmg (rowR 59 1 _ 0 []) hmo (fun b hb => by have : some w.heap.size = some b := hb; cases this; exact Nat.le_refl _)
 have HM0 := Tre.hid M0
 change (Instr.makeSlice 139 (.int .i64 0) (.int .i64 2)).run Tryz.prog w = _ at hmk
 have e0 := cell_below M0.below h0
 have e1 := cell_below M0.below h1
 clear M0 hmo hmg
 go_enter Tryz.func52, Tryz.ntmps52
 go_wp2_with fail
 refine wp_loop_rounds 3 ?_
 rw [rounds_succ]
 go_wp2_with fail
 rw [rounds_succ]
 go_wp2_with fail
 rw [rounds_succ]
 have M1 := HM0.out.allocR #[.slice (some ⟨w.heap.size, 0, none⟩) 0 2] 158
 have HM1 := Tre.hid M1
 have d0 := cell_below M1.below h0
 have d1 := cell_below M1.below h1
 obtain q0 := M1.cell 0 rfl 0 rfl
 clear M1
 go_wp2_with fail
 refine wp_loop_rounds 3 ?_
 rw [rounds_succ]
 have MA := Tre.hid (HM1.out.allocR #[.iface t1 v1] 59)
 have r1 := row_one (wm.alloc (.cells #[.slice (some ⟨w.heap.size, 0, none⟩) 0 2] 158)) (.iface t1 v1) 59
 rw [World.size_alloc] at r1
 have HR1 := Tre.hid r1
 clear r1
 go_wp2_with (at_builtin; refine wpList_append_row _ rfl _ _ 139 rfl 59 ie _ 1 16 Tryz.underlying139 E1 E2 E3 E4 rfl (by omega) (.slice (some ⟨w.heap.size, 0, none⟩) 0 2) 0 [] rfl (MA.out.row 2 rfl) (some ⟨wm.heap.size + 1, 0, none⟩) 1 1 [.iface t1 v1] rfl HR1.out (by simp [Value.oneCell']) (by unfold maxLen; omega) (by omega) ?_; intro v3 w3 hown3 hgrow3 hat3; have M3 := MA.out.grow 2 rfl hgrow3 hown3 hat3; obtain ⟨a3, c3, rfl, _⟩ := M3.val 2 rfl; have q3 := M3.cell 1 rfl 0 rfl; have f3 := M3.free 1 rfl 0; have HM3 := Tre.hid M3; clear M3 hown3 hgrow3 hat3)
 rw [rounds_succ]
 have M4 := HM3.out.setCell 1 rfl 0 (.slice a3 1 c3)
 generalize w3.setCell ⟨wm.heap.size, 0, none⟩ (.slice a3 1 c3) = w4 at M4 ⊢
 have q4 := M4.cell 1 rfl 0 rfl
 have M4' := M4.del 0
 have d4 := cell_below M4.below h1
 have MA4 := Tre.hid (M4'.allocR #[.iface t2 v2] 59)
 have HR4 := Tre.hid (row_one w4 (.iface t2 v2) 59)
 clear M4 M4' q3 f3
 go_wp2_with (at_builtin; refine wpList_append_row _ rfl _ _ 139 rfl 59 ie _ 1 16 Tryz.underlying139 E1 E2 E3 E4 rfl (by omega) (.slice a3 1 c3) 1 [.iface t1 v1] rfl (MA4.out.row 2 rfl) (some ⟨w4.heap.size, 0, none⟩) 1 1 [.iface t2 v2] rfl HR4.out (by simp [Value.oneCell']) (by unfold maxLen; omega) (by omega) ?_; intro v5 w5 hown5 hgrow5 hat5; have M5 := MA4.out.grow 2 rfl hgrow5 hown5 hat5; obtain ⟨a5, c5, rfl, _⟩ := M5.val 2 rfl; have q5 := M5.cell 1 rfl 0 rfl; have f5 := M5.free 1 rfl 0; have HM5 := Tre.hid M5; clear M5 hown5 hgrow5 hat5)
 rw [rounds_succ]
 have HM6 := Tre.hid ((HM5.out.setCell 1 rfl 0 (.slice a5 2 c5)).del 0)
 generalize w5.setCell ⟨wm.heap.size, 0, none⟩ (.slice a5 2 c5) = w6 at HM6 ⊢
 clear q5 f5
 go_wp2_with fail
 go_ret
 exact ⟨_, _, rfl, HM6.out⟩
end Go.Proofs.YtbafalfmgibnfaaGreatDoor.errs
namespace Go.Tre
open Go.RowKit
theorem calls_marks {P : Program} {f : FuncId} {fn : Func} {c : Code} {args : Array Value} {w : World} {R : Ending → World → Prop} (hf : P.funcs[f]? = some fn) (hb : fn.body = some c)
  (h : c.wp P (bodyPostM Fence.wide 3 P fn R) { tmps := args ++ Array.replicate (fn.ntmps - args.size) undef, defers := [] } w) : Calls P f args w R :=
 (callsIn_wide (n := 3)).1 (callsIn_of_wp_marks hf hb trivial (wpIn_wide.2 h) rfl)
theorem bodyPostM_ret {F : Fence} {n : Nat} {P : Program} {fn : Func} {R : Ending → World → Prop} {a : Act} {w : World} {v : Value} (hr : (results fn a.tmps).run P w = .ok v w) (hd : a.defers = []) (hR : R (.returned v) w) : bodyPostM F n P fn R .ret a w := by
 show LeavesInM F n P fn a.tmps R a.defers .returning w
 rw [hd]
 exact ⟨v, hr, hR⟩
abbrev tokV (kind at_ n : Int) (x : ByteArray) : Array Value := #[.int .i64 kind, .int .i64 at_, .int .i64 n, .string x]
end Go.Tre
namespace Go.Proofs.YtbafalfmgibnfaaGreatDoor.lex
open Go.RowKit Go.Tre
abbrev nextL (S T : Nat) (kind at_ n : Int) (y : ByteArray) (m : Int) (v : Value) (x : ByteArray) (b : Nat) (s : ByteArray) (k : Nat) (rs : List Res) : List Res :=
 cellsR S 9 #[.string x] :: cellsR (T + 1 + 1) 59 #[v] :: cellsR (T + 1) 3 #[.int .i64 m] :: cellsR T 92 (tokV kind at_ n y) :: lexR b s k :: rs
theorem next_results (tmps : Array Value) (T : Nat) (kind at_ n m : Int) (y : ByteArray) (v : Value) (w : World) (h2 : tmps[2]? = some (.pointer (some ⟨T, 0, none⟩))) (h3 : tmps[3]? = some (.pointer (some ⟨T + 1, 0, none⟩))) (h4 : tmps[4]? = some (.pointer (some ⟨T + 1 + 1, 0, none⟩)))
  (c0 : w.heap[T]? = some (.cells (tokV kind at_ n y) 92 (0, 0))) (c1 : w.heap[T + 1]? = some (.cells #[.int .i64 m] 3 (0, 0))) (c2 : w.heap[T + 1 + 1]? = some (.cells #[v] 59 (0, 0))) :
  (results Tryz.f33 tmps).run Tryz.prog w = .ok (.tuple #[.agg (tokV kind at_ n y), .int .i64 m, v]) w := by
 have d0 : w.cell? ⟨T, 0, none⟩ = some (.int .i64 kind) := by simp [World.cell?, c0]
 have d1 : w.cell? ⟨T, 1, none⟩ = some (.int .i64 at_) := by simp [World.cell?, c0]
 have d2 : w.cell? ⟨T, 2, none⟩ = some (.int .i64 n) := by simp [World.cell?, c0]
 have d3 : w.cell? ⟨T, 3, none⟩ = some (.string y) := by simp [World.cell?, c0]
 have d4 : w.cell? ⟨T + 1, 0, none⟩ = some (.int .i64 m) := by simp [World.cell?, c1]
 have d5 : w.cell? ⟨T + 1 + 1, 0, none⟩ = some v := by simp [World.cell?, c2]
 simp [results, Tryz.results33, go_sem, h2, h3, h4, d0, d1, d2, d3, d4, d5]
def NextPost (w0 : World) (rs : List Res) (b : Nat) (s : ByteArray) (k : Nat) (D : Option (Tok × Nat)) (e : Ending) (w' : World) : Prop :=
 (∃ (t : Tok) (n : Nat) (y : ByteArray), D = some (t, n) ∧ y.data.toList = t.s ∧ e = .returned (.tuple #[.agg (tokV t.kind k t.n y), .int .i64 n, .nilIface]) ∧ Mem w0 w' (lexR b s k :: rs)) ∨
 (D = none ∧ ∃ (ka kb kc : Int) (y : ByteArray) (mv v : Value) (bs : List Nat), e = .returned (.tuple #[.agg (tokV ka kb kc y), mv, v]) ∧ Mem w0 w' (errR bs v k 5 :: lexR b s k :: rs))
end Go.Proofs.YtbafalfmgibnfaaGreatDoor.lex
