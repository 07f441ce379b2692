/- strings.Builder among the resources of a call: WriteByte, String. lex.quoted: what a text behind a quote tells. strings.FieldsSeq at an ASCII text: the words that it hands over, one by one. errors.Join of two errors, neither of them nil. (*lexer).next: what all its branches share. strings.FieldsSeq for a caller that holds resources. -/
import Derived.Test.YtcpcheengfgpaaaGreatDoorB06
import Derived.Test.YtcpcheengfgpaaaGreatDoorB03
import Derived.Test.YtcpcheengfgpaaaGreatDoorRows
import Derived.WalkArith
import Derived.Test.YtcpcheengfgpaaaGreatDoorB04
import Derived.RangeFuncBox
import Derived.RangeFuncLeaves
import Derived.RangeFuncBound
import Derived.RangeFuncCalls
import Derived.RangeFuncNested
import Derived.Shelf.Abstract
import Derived.Shelf.RegionOpen
import Derived.WalkKit
import Derived.OwnWalkIn
import Derived.TacticsInMore
import Derived.LoopNIn
import Derived.LoopIn
import Derived.LoopN
import Derived.Test.YtcpcheengfgpaaaGreatDoorB00
import Derived.RangeFuncFrom
set_option linter.unusedVariables false
namespace Go.Tre
open Go.RowKit
theorem row_one (w : World) (u : Value) (t : TypeId) : Row (w.alloc (.cells #[u] t)) 1 (some ⟨w.heap.size, 0, none⟩) 1 [u] :=
  ⟨rfl, fun j x hx => by
    cases j with
    | zero => cases hx; exact ⟨_, 0, rfl, by simp⟩
    | succ j => simp at hx⟩
theorem isBuilder_of {w0 w : World} {rs : List Res} {T e : TypeId} {b : Nat} {p v : Value} {bs : List Value} {n : Nat} (h : Mem w0 w (cellsR b T #[p, v] :: rowR e 1 v n bs :: rs)) (hn : n = bs.length) (hp : p = .pointer none ∨ p = .pointer (some ⟨b, 0, none⟩)) : Lib.IsBuilder T e w0.heap.size b bs w := by
  have h1 := h.heap 0 rfl
  have h2 := h.row 1 rfl
  have h3 := h.lo 0 rfl b rfl
  have h5 : v.ownBlock ≠ some b := fun e' => (List.pairwise_cons.1 h.sep).1 (rowR e 1 v n bs) (by simp) b rfl e'
  have h6 : w.ownsRow w0.heap.size e 1 v bs.length bs := by
    subst hn
    refine ⟨h2.1, ?_⟩
    rcases h2.2 with hh | ⟨g, cap, cur, rfl, _, rest⟩
    · exact .inl hh
    · exact .inr ⟨g, cap, cur, rfl, h.lo 1 rfl g rfl, rest⟩
  rcases hp with rfl | rfl
  · exact .inl ⟨h3, v, h1, h6, h5⟩
  · exact .inr ⟨h3, v, h1, h6, h5⟩
end Go.Tre
namespace Go.Proofs.YtcpcheengfgpaaaGreatDoor.gr
open Go.RowKit Go.Maps Go.Tre
set_option maxHeartbeats 1000000 in
set_option maxRecDepth 100000 in
theorem writeByte (w0 : World) (rs : List Res) (b : Nat) (p v : Value) (l : List UInt8) (c : UInt8) (w : World) (h : Mem w0 w (cellsR b 160 #[p, v] :: rowR 5 1 v l.length (Lib.byteCells l) :: rs)) (hp : p = .pointer none ∨ p = .pointer (some ⟨b, 0, none⟩)) (hlen : l.length + 1 ≤ 140737488355328) :
    Calls Tryz.prog 80 #[.pointer (some ⟨b, 0, none⟩), .int .u8 c.toNat] w fun e w' => e = .returned .nilIface ∧ ∃ v', Mem w0 w' (cellsR b 160 #[.pointer (some ⟨b, 0, none⟩), v'] :: rowR 5 1 v' (l.length + 1) (Lib.byteCells (l ++ [c])) :: rs) := by
  obtain ⟨i0, hi, hz0, hz1, hz2⟩ := info_parts infoU8
  have CC : Calls Tryz.prog 99 #[.pointer (some ⟨b, 0, none⟩)] w fun e w' => e = .returned (.tuple #[]) ∧ Mem w0 w' (cellsR b 160 #[.pointer (some ⟨b, 0, none⟩), v] :: rowR 5 1 v l.length (Lib.byteCells l) :: rs) := by
    rcases hp with rfl | rfl
    · refine (copyCheck_fresh b w (h.cell 0 rfl 0 rfl) (by simp [World.shape?, h.heap 0 rfl]) (h.free 0 rfl 0)).mono ?_
      rintro e w' ⟨rfl, rfl⟩
      exact ⟨rfl, h.setCell 0 rfl 0 _⟩
    · refine (copyCheck_used b w (h.cell 0 rfl 0 rfl)).mono ?_
      rintro e w' ⟨rfl, rfl⟩
      exact ⟨rfl, h⟩
  have HCC := Tre.hid CC
  have Z1 := Tre.hid hz0
  have Z2 := Tre.hid hz1
  have Z3 := Tre.hid hz2
  clear h hp CC hz0 hz1 hz2
  go_enter Tryz.func80, Tryz.ntmps80
  go_wp2_with fail
  refine HCC.out.mono ?_
  rintro e w1 ⟨rfl, M1⟩
  have q1 := M1.cell 0 rfl 1 rfl
  have HA := Tre.hid (M1.allocR #[.int .u8 c.toNat] 5)
  have HR := Tre.hid (row_one w1 (.int .u8 c.toNat) 5)
  clear M1 HCC
  obtain ⟨a0, c0, rfl, _⟩ := HA.out.val 2 rfl
  go_wp2_with (at_builtin; refine wpList_append_row _ rfl _ _ 100 rfl 5 i0 _ 1 1 Tryz.underlying100 hi Z1.out Z2.out Z3.out rfl (by omega) (.slice a0 l.length c0) l.length (Lib.byteCells l) rfl (HA.out.row 2 rfl) (some ⟨w1.heap.size, 0, none⟩) 1 1 [.int .u8 c.toNat] rfl HR.out (by simp [Value.oneCell']) (by unfold maxLen; omega) (by omega) ?_; intro v3 w3 hown3 hgrow3 hat3; have M3 := HA.out.grow 2 rfl hgrow3 hown3 hat3; obtain ⟨a3, c3, rfl, _⟩ := M3.val 2 rfl; have q3 := M3.cell 1 rfl 1 rfl; have f3 := M3.free 1 rfl 1; have HM3 := Tre.hid M3; clear M3 hown3 hgrow3 hat3)
  have HM4 := Tre.hid ((HM3.out.setCell 1 rfl 1 (.slice a3 (l.length + 1) c3)).del 0)
  generalize w3.setCell ⟨b, 1, none⟩ (.slice a3 (l.length + 1) c3) = w4 at HM4 ⊢
  clear q3 f3
  go_wp2_with fail
  go_ret
  refine ⟨rfl, .slice a3 (l.length + 1) c3, ?_⟩
  rw [Lib.byteCells_append]
  exact HM4.out
theorem builderTextM (w0 : World) (rs : List Res) (b : Nat) (p v : Value) (l : List UInt8) (x : ByteArray) (w : World) (h : Mem w0 w (cellsR b 160 #[p, v] :: rowR 5 1 v l.length (Lib.byteCells l) :: rs)) (hp : p = .pointer none ∨ p = .pointer (some ⟨b, 0, none⟩)) (hx : x.data.toList = l) :
    Calls Tryz.prog 79 #[.pointer (some ⟨b, 0, none⟩)] w fun e w' => e = .returned (.string x) ∧ Below w0.heap.size w0 w' := by
  have hB := isBuilder_of h (by simp [Lib.byteCells]) hp
  refine (Tryz.Builder_String_any w0.heap.size b l w hB h.size).mono ?_
  rintro e w' ⟨rfl, hb⟩
  refine ⟨?_, h.below.trans hb⟩
  rw [show x = ⟨l.toArray⟩ from ByteArray.ext (by rw [← hx])]
end Go.Proofs.YtcpcheengfgpaaaGreatDoor.gr
namespace Go.Tre
open Go.RowKit Go.Maps
def u8V (c : UInt8) : Value := .int .u8 c.toNat
theorem u8V_inj (a b : UInt8) (h : u8V a = u8V b) : a = b := by
  unfold u8V at h
  have h1 : (a.toNat : Int) = (b.toNat : Int) := by injection h
  exact UInt8.toNat_inj.1 (by omega)
def toldM : UInt8 → Option UInt8 := upd (upd (upd (fun _ => none) 92 92) 34 34) 110 10
theorem toldM_is (d : UInt8) : toldM d = if d = 92 ∨ d = 34 then some d else if d = 110 then some 10 else none := by
  unfold toldM upd
  by_cases h1 : d = 110
  · subst h1; decide
  · by_cases h2 : d = 34
    · subst h2; decide
    · by_cases h3 : d = 92
      · subst h3; decide
      · simp [h1, h2, h3]
def quotedV (o : Option (List UInt8 × Nat)) : Value := match o with
  | some p => .tuple #[.string ⟨p.1.toArray⟩, .int .i64 p.2, .bool true]
  | none => .tuple #[.string ⟨#[]⟩, .int .i64 0, .bool false]
def QuotedPost (w : World) (D : Option (List UInt8 × Nat)) (e : Ending) (w' : World) : Prop := e = .returned (quotedV D) ∧ Below w.heap.size w w'
theorem quotedS_esc {d : UInt8} {r : List UInt8} : quotedS (92 :: d :: r) = (toldM d).bind fun y => (quotedS r).map fun p => (y :: p.1, p.2 + 2) := by
  conv => lhs; unfold quotedS
  rw [if_neg (by decide), if_pos rfl, toldM_is]
  simp only
  split
  · rfl
  · split
    · rfl
    · rfl
theorem toldM_pos {d y : UInt8} (h : toldM d = some y) : 0 < y.toNat := by
  rw [toldM_is] at h
  split at h
  · rename_i h1
    cases h
    rcases h1 with rfl | rfl <;> decide
  · split at h
    · cases h; decide
    · cases h
theorem map_map2 (o : Option (List UInt8 × Nat)) (l : List UInt8) (y : UInt8) (i k : Nat) :
    ((o.map fun p => (y :: p.1, p.2 + k)).map fun q => (l ++ q.1, i + q.2)) = o.map fun q => ((l ++ [y]) ++ q.1, i + k + q.2) := by
  cases o with
  | none => rfl
  | some q => simp; omega
theorem quotedS_end (r : List UInt8) : quotedS (34 :: r) = some ([], 1) := by unfold quotedS; rw [if_pos rfl]
theorem quotedS_one {c : UInt8} {r : List UInt8} (h1 : c ≠ 34) (h2 : c ≠ 92) : quotedS (c :: r) = (quotedS r).map fun p => (c :: p.1, p.2 + 1) := by
  conv => lhs; unfold quotedS
  rw [if_neg h1, if_neg h2]
end Go.Tre
namespace Go.Proofs.YtcpcheengfgpaaaGreatDoor.lex
open Go.RowKit Go.Maps Go.Tre
open Go.Proofs.YtcpcheengfgpaaaGreatDoor.gr (writeByte builderTextM)
theorem wf8 (c : UInt8) : (Lit.int .u8 (c.toNat : Int)).wf = true := by
  have := c.toNat_lt
  exact WalkArith.wf_u8 ⟨by omega, by omega⟩
set_option maxRecDepth 100000 in
set_option maxHeartbeats 8000000 in
theorem quoted (s : ByteArray) (w : World) (hs : s.size ≤ 4194304) :
    Calls Tryz.prog 56 #[.string s] w (QuotedPost w (quotedS s.data.toList)) := by
  obtain ⟨D, hD⟩ : ∃ D, Hid (quotedS s.data.toList = D) := ⟨_, rfl⟩
  rw [hD.out]
  have hmm := @run_makeMap Tryz.prog
  have KK := int_keyed (P := Tryz.prog) Tryz.underlying5
  have M0 := ((Mem.nil w).allocR #[.pointer none, .slice none 0 0] 160).allocMap Tryz.prog 5 u8V u8V
  simp only [World.size_alloc] at M0
  have HM0 := Tre.hid M0
  clear M0
  go_enter Tryz.func56, Tryz.ntmps56
  go_wp2_with (first
    | (refine wpList_store rfl _ _ _ 161 (.inr rfl) 5 KK u8V_inj Tryz.underlying161 rfl (HM0.out.map 0 rfl) 92 rfl (keyOf_int_mk Tryz.underlying5 (wf8 92)) 92 rfl ?_; intro w1 hm1 hg1; have HM1 := Tre.hid (HM0.out.put 0 rfl hg1 hm1); clear hm1 hg1)
    | (refine wpList_store rfl _ _ _ 161 (.inr rfl) 5 KK u8V_inj Tryz.underlying161 rfl (HM1.out.map 0 rfl) 34 rfl (keyOf_int_mk Tryz.underlying5 (wf8 34)) 34 rfl ?_; intro w2 hm2 hg2; have HM2 := Tre.hid (HM1.out.put 0 rfl hg2 hm2); clear hm2 hg2)
    | (refine wpList_store rfl _ _ _ 161 (.inr rfl) 5 KK u8V_inj Tryz.underlying161 rfl (HM2.out.map 0 rfl) 110 rfl (keyOf_int_mk Tryz.underlying5 (wf8 110)) 10 rfl ?_; intro w3 hm3 hg3; have HM3 := Tre.hid (HM2.out.put 0 rfl hg3 hm3); clear hm3 hg3))
  obtain ⟨N, HN⟩ : ∃ N, Hid (Mem w w3 [cellsR w.heap.size 160 #[.pointer none, .slice none 0 0], rowR 5 1 (.slice none 0 0) 0 [], mapR Tryz.prog 5 u8V u8V (w.heap.size + 1) N toldM]) := ⟨_, (((HM3.out.addNil 5 1).front 2 rfl).front 1 rfl).front 1 rfl⟩
  clear HM0 HM1 HM2 HM3
  go_loopw [7] (fun v7 wr => ∃ (i : Nat) (l : List UInt8) (p v : Value), i ≤ s.size ∧ v7 = .int .i64 i ∧ l.length ≤ i ∧ Hid ((p = .pointer none ∨ p = .pointer (some ⟨w.heap.size, 0, none⟩)) ∧ D = (quotedS (s.data.toList.drop i)).map fun q => (l ++ q.1, i + q.2)) ∧
      Hid (Mem w wr [cellsR w.heap.size 160 #[p, v], rowR 5 1 v l.length (Lib.byteCells l), mapR Tryz.prog 5 u8V u8V (w.heap.size + 1) N toldM])) (fun v7 _ => s.size - (intOf v7).toNat)
  case atStart => exact ⟨0, [], _, _, Nat.zero_le _, rfl, Nat.le_refl _, ⟨.inl rfl, by rw [← hD.out]; simp⟩, HN.out⟩
  case round =>
    obtain ⟨i, l, p, v, hi, rfl, hl, hI, HM⟩ := hrel
    by_cases hlt : i < s.size
    · have hd := drop_at s i hlt
      have HD := Tre.hid hd
      clear hd
      have h255 := s[i].toNat_lt
      by_cases h34 : s[i] = 34
      · have HR : Hid (D = some (l, i + 1)) := by
          show _ = _
          rw [hI.out.2, HD.out, h34, quotedS_end]; simp
        have e1 : ((s[i].toNat : Int) == 34) = true := by rw [h34]; rfl
        clear h34
        go_wp2_with fail
        refine (builderTextM w _ w.heap.size p v l ⟨l.toArray⟩ wr HM.out hI.out.1 (by simp)).mono ?_
        rintro e w4 ⟨rfl, hb⟩
        have HB := Tre.hid hb
        clear hb
        go_wp2_with fail
        go_ret3
        refine ⟨?_, HB.out⟩
        rw [HR.out]
        rfl
      · have e1 : ((s[i].toNat : Int) == 34) = false := by
          rw [beq_eq_false_iff_ne]
          intro h
          exact h34 (UInt8.toNat_inj.1 (by rw [show s[i].toNat = 34 from by omega]; rfl))
        by_cases h92 : s[i] = 92
        · have e2 : ((s[i].toNat : Int) == 92) = true := by rw [h92]; rfl
          by_cases hsz : i + 1 < s.size
          · have e3 : ((i : Int) + 1 == (s.size : Int)) = false := by rw [beq_eq_false_iff_ne]; omega
            have hd1 := drop_at s (i + 1) hsz
            have HD1 := Tre.hid hd1
            clear hd1
            have h256 := s[i + 1].toNat_lt
            cases ht : toldM s[i + 1] with
            | none =>
              have HR : Hid (D = none) := by
                show _ = _
                rw [hI.out.2, HD.out, h92, HD1.out, quotedS_esc, ht]; rfl
              have hlk := (HM.out.map 2 rfl).run_look KK u8V_inj Tryz.underlying161 (Tryz.zeroValue5 wr) (keyOf_int_mk Tryz.underlying5 (wf8 s[i + 1]))
              rw [ht] at hlk
              simp only [u8V, Option.map_none, Option.getD_none] at hlk
              clear ht h92 h34
              go_wp2_with fail
              go_ret3
              exact ⟨by rw [HR.out]; rfl, HM.out.below⟩
            | some y =>
              have HR : Hid (D = (quotedS (s.data.toList.drop (i + 2))).map fun q => ((l ++ [y]) ++ q.1, i + 2 + q.2)) := by
                show _ = _
                rw [hI.out.2, HD.out, h92, HD1.out, quotedS_esc, ht]
                exact map_map2 _ _ _ _ _
              have hy0 : ((y.toNat : Int) == 0) = false := by
                rw [beq_eq_false_iff_ne]
                have := toldM_pos ht
                omega
              have hlk := (HM.out.map 2 rfl).run_look KK u8V_inj Tryz.underlying161 (Tryz.zeroValue5 wr) (keyOf_int_mk Tryz.underlying5 (wf8 s[i + 1]))
              rw [ht] at hlk
              simp only [u8V, Option.map_some, Option.getD_some] at hlk
              clear ht h92 h34
              go_wp2_with fail
              refine (writeByte w _ w.heap.size p v l y wr HM.out hI.out.1 (by omega)).mono ?_
              rintro e w4 ⟨rfl, v4, M4⟩
              have HM4 := Tre.hid M4
              clear M4 hlk
              go_wp2_with fail
              go_roundw
              case rel => exact ⟨i + 2, l ++ [y], _, v4, by omega, congrArg (Value.int .i64) (by omega), by simp; omega, ⟨.inr rfl, HR.out⟩, by rw [List.length_append, List.length_singleton]; exact HM4.out⟩
              case measure => simp [intOf]; omega
          · have hz : i + 1 = s.size := by omega
            have HR : Hid (D = none) := by
              show _ = _
              rw [hI.out.2, HD.out, h92, List.drop_of_length_le (by simp; omega)]
              rfl
            have e3 : ((i : Int) + 1 == (s.size : Int)) = true := by rw [beq_iff_eq]; omega
            clear hz h92 h34
            go_wp2_with fail
            go_ret3
            exact ⟨by rw [HR.out]; rfl, HM.out.below⟩
        · have e2 : ((s[i].toNat : Int) == 92) = false := by
            rw [beq_eq_false_iff_ne]
            intro h
            exact h92 (UInt8.toNat_inj.1 (by rw [show s[i].toNat = 92 from by omega]; rfl))
          have HR : Hid (D = (quotedS (s.data.toList.drop (i + 1))).map fun q => ((l ++ [s[i]]) ++ q.1, i + 1 + q.2)) := by
            show _ = _
            rw [hI.out.2, HD.out, quotedS_one h34 h92]
            exact map_map2 _ _ _ _ _
          clear h92 h34
          go_wp2_with fail
          refine (writeByte w _ w.heap.size p v l s[i] wr HM.out hI.out.1 (by omega)).mono ?_
          rintro e w4 ⟨rfl, v4, M4⟩
          have HM4 := Tre.hid M4
          clear M4
          go_wp2_with fail
          go_roundw
          case rel => exact ⟨i + 1, l ++ [s[i]], _, v4, by omega, by go_num, by simp; omega, ⟨.inr rfl, HR.out⟩, by rw [List.length_append, List.length_singleton]; exact HM4.out⟩
          case measure => simp [intOf]; omega
    · have HR : Hid (D = none) := by
        show _ = _
        rw [hI.out.2, List.drop_of_length_le (by simp; omega)]; rfl
      go_wp2_with fail
      go_ret3
      exact ⟨by rw [HR.out]; rfl, HM.out.below⟩
end Go.Proofs.YtcpcheengfgpaaaGreatDoor.lex
namespace Go.Tre
open Go.RowKit
def spB (c : UInt8) : Bool := (9 ≤ c.toNat && c.toNat ≤ 13) || c.toNat == 32
/-- the words of a text; cur: the one that is under way -/
def fieldsS : List UInt8 → List UInt8 → List (List UInt8)
  | cur, [] => if cur = [] then [] else [cur]
  | cur, c :: r => if spB c = true then (if cur = [] then fieldsS [] r else cur :: fieldsS [] r) else fieldsS (cur ++ [c]) r
/-- the library's table of blanks -/
def SpaceAt (w : World) : Prop := ∀ c : UInt8, w.cell? ⟨4, c.toNat, none⟩ = some (.int .u8 (if spB c = true then 1 else 0))
theorem SpaceAt.below {w w' : World} (h : SpaceAt w) (hb : Below w.heap.size w w') : SpaceAt w' := fun c => cell_below hb (h c)
theorem drop_take_snoc (s : ByteArray) (st i : Nat) (h1 : st ≤ i) (h2 : i < s.size) : (s.data.toList.drop st).take (i + 1 - st) = (s.data.toList.drop st).take (i - st) ++ [s[i]] := by
  rw [show i + 1 - st = (i - st) + 1 by omega, List.take_succ_eq_append_getElem (by simp; omega)]
  congr 2
  rw [List.getElem_drop]
  simp only [show st + (i - st) = i by omega]
  rfl
theorem extract_take (s : ByteArray) (st i : Nat) (h2 : i ≤ s.size) : (s.extract st i).data.toList = (s.data.toList.drop st).take (i - st) := by
  rw [ByteArray.data_extract, Array.toList_extract, List.extract_eq_take_drop]
end Go.Tre
namespace Go.Proofs.YtcpcheengfgpaaaGreatDoor.lex
open Go.RowKit Go.Tre Go.Shelf
attribute [local go_sem] Oper.semAt_some
set_option maxRecDepth 100000 in
set_option maxHeartbeats 4000000 in
theorem fields_in (F : Fence) (n : Nat) (hf : F.fn 81) (hro : F.round = none) (hn : 1 ≤ n) (l Bs n₀ : Nat) (s : ByteArray) (hs : s.size ≤ 4194304) (has : ∀ c ∈ s.data.toList, c.toNat < 128) (J Jx : List ByteArray → World → Prop)
    (hY : ∀ pre x W, J pre W → pre.length < (fieldsS [] s.data.toList).length → YieldAt F (n - 1) Tryz.prog l #[.string x] W fun e W' =>
      (e = .returned (.bool true) ∧ J (pre ++ [x]) W' ∧ Below n₀ W W') ∨ (e = .returned (.bool false) ∧ Jx (pre ++ [x]) W'))
    (W : World) (hBn : Bs < n₀) (hgn : 4 < n₀) (hBs : W.cell? ⟨Bs, 0, none⟩ = some (.string s)) (hsp : SpaceAt W) (h0 : J [] W) :
    CallsIn F n Tryz.prog 81 #[.func (.yield l) #[] #[], .pointer (some ⟨Bs, 0, none⟩)] W fun e W' => (∃ v, e = .returned v) ∧
      ((∃ ys : List ByteArray, ys.map (·.data.toList) = fieldsS [] s.data.toList ∧ J ys W') ∨ (∃ pre : List ByteArray, (∃ r, pre.map (·.data.toList) ++ r = fieldsS [] s.data.toList) ∧ Jx pre W')) := by
  have HY := Tre.hid hY
  have HAS := Tre.hid has
  have HBS := Tre.hid hBs
  have HSP := Tre.hid hsp
  have HJ := Tre.hid h0
  clear hY has hBs hsp h0
  refine callsIn_of_wp Tryz.func81 rfl hf ?_ hro
  simp only [Tryz.ntmps81, List.size_toArray, List.length_cons, List.length_nil, Nat.reduceAdd, Nat.reduceSub, Array.replicate_succ, Array.replicate_zero, List.push_toArray, List.append_toArray, List.nil_append, List.cons_append]
  gi_wp2
  gi_loopw [3, 4] (fun v3 v4 wr => ∃ (i : Nat) (cur : List UInt8) (pre : List ByteArray), i ≤ s.size ∧ v4 = .int .i64 i ∧ Hid ((cur = [] ∧ v3 = .int .i64 (-1)) ∨ (∃ st : Nat, st < i ∧ v3 = .int .i64 st ∧ cur = (s.data.toList.drop st).take (i - st))) ∧
      Hid (pre.map (·.data.toList) ++ fieldsS cur (s.data.toList.drop i) = fieldsS [] s.data.toList) ∧ Hid (J pre wr) ∧ Hid (Below n₀ W wr))
    (fun _ v4 _ => s.size - (intOf v4).toNat)
  case atStart => exact ⟨0, [], [], Nat.zero_le _, rfl, .inl ⟨rfl, rfl⟩, rfl, HJ.out, Below.refl _ _⟩
  case round =>
    obtain ⟨i, cur, pre, hi, rfl, hst, hF, HJr, HB⟩ := hrel
    have b0 : wr.cell? ⟨Bs, 0, none⟩ = some (.string s) := (HB.out.cell (p := ⟨Bs, 0, none⟩) hBn).trans HBS.out
    by_cases hlt : i < s.size
    · have hd := drop_at s i hlt
      have HD := Tre.hid hd
      clear hd
      have h128 := HAS.out s[i] (List.getElem_mem (by simpa using hlt))
      have t0 : wr.cell? ⟨4, s[i].toNat, none⟩ = some (.int .u8 (if spB s[i] = true then 1 else 0)) := (HB.out.cell (p := ⟨4, s[i].toNat, none⟩) hgn).trans (HSP.out s[i])
      by_cases hsp : spB s[i] = true
      · rw [if_pos hsp] at t0
        rcases hst.out with ⟨rfl, rfl⟩ | ⟨st, hsi, rfl, rfl⟩
        · have HF2 : Hid (pre.map (·.data.toList) ++ fieldsS [] (s.data.toList.drop (i + 1)) = fieldsS [] s.data.toList) := by
            show _ = _
            rw [← hF.out, HD.out, fieldsS, if_pos hsp, if_pos rfl]
          clear hsp hst
          gi_wp2
          go_roundw
          case rel => exact ⟨i + 1, [], pre, by omega, by go_num, .inl ⟨rfl, rfl⟩, HF2.out, HJr.out, HB.out⟩
          case measure => simp [intOf]; omega
        · have hne : (s.data.toList.drop st).take (i - st) ≠ [] := by
            intro h
            have := congrArg List.length h
            simp at this
            omega
          have HF2 : Hid ((pre ++ [s.extract st i]).map (·.data.toList) ++ fieldsS [] (s.data.toList.drop (i + 1)) = fieldsS [] s.data.toList) := by
            show _ = _
            rw [← hF.out, HD.out, fieldsS, if_pos hsp, if_neg hne, List.map_append, List.map_singleton, extract_take s st i (by omega)]; simp
          have hlen : pre.length < (fieldsS [] s.data.toList).length := by
            rw [← HF2.out]; simp
          obtain ⟨fn, tmps, assign, body, hy, hR⟩ := HY.out pre (s.extract st i) wr HJr.out hlen
          have i0 : st ≤ i := by omega
          have i1 : i ≤ s.size := by omega
          clear hsp hst hne hlen
          gi_wp2
          refine hR.mono ?_
          rintro e W3 (⟨rfl, hJ3, hk3⟩ | ⟨rfl, hJx3⟩)
          · have HJ3 := Tre.hid hJ3
            have HB3 := Tre.hid (HB.out.trans hk3)
            clear hJ3 hk3
            gi_wp2
            go_roundw
            case rel => exact ⟨i + 1, [], pre ++ [s.extract st i], by omega, by go_num, .inl ⟨rfl, rfl⟩, HF2.out, HJ3.out, HB3.out⟩
            case measure => simp [intOf]; omega
          · have HJ3 := Tre.hid hJx3
            clear hJx3
            gi_wp2
            refine bodyPost_ret (results_none rfl _ _ _) rfl ?_
            exact ⟨⟨_, rfl⟩, .inr ⟨pre ++ [s.extract st i], ⟨_, HF2.out⟩, HJ3.out⟩⟩
      · rw [if_neg hsp] at t0
        rcases hst.out with ⟨rfl, rfl⟩ | ⟨st, hsi, rfl, rfl⟩
        · have HF2 : Hid (pre.map (·.data.toList) ++ fieldsS ((s.data.toList.drop i).take (i + 1 - i)) (s.data.toList.drop (i + 1)) = fieldsS [] s.data.toList) := by
            show _ = _
            rw [← hF.out, HD.out, fieldsS, if_neg hsp, show i + 1 - i = 1 by omega]; rfl
          clear hsp hst
          gi_wp2
          go_roundw
          case rel => exact ⟨i + 1, _, pre, by omega, by go_num, .inr ⟨i, by omega, rfl, rfl⟩, HF2.out, HJr.out, HB.out⟩
          case measure => simp [intOf]; omega
        · have HF2 : Hid (pre.map (·.data.toList) ++ fieldsS ((s.data.toList.drop st).take (i + 1 - st)) (s.data.toList.drop (i + 1)) = fieldsS [] s.data.toList) := by
            show _ = _
            rw [← hF.out, HD.out, fieldsS, if_neg hsp, drop_take_snoc s st i (by omega) hlt]
          have i0 : (0 : Int) ≤ (st : Int) := by omega
          clear hsp hst
          gi_wp2
          go_roundw
          case rel => exact ⟨i + 1, _, pre, by omega, by go_num, .inr ⟨st, by omega, rfl, rfl⟩, HF2.out, HJr.out, HB.out⟩
          case measure => simp [intOf]; omega
    · have hF' := hF.out
      rw [List.drop_of_length_le (by simp; omega)] at hF'
      rcases hst.out with ⟨rfl, rfl⟩ | ⟨st, hsi, rfl, rfl⟩
      · rw [fieldsS, if_pos rfl, List.append_nil] at hF'
        have HF2 := Tre.hid hF'
        clear hF' hst hF
        gi_wp2
        go_end0
        exact ⟨⟨_, rfl⟩, .inl ⟨pre, HF2.out, HJr.out⟩⟩
      · have hne : (s.data.toList.drop st).take (i - st) ≠ [] := by
          intro h
          have := congrArg List.length h
          simp at this
          omega
        have hii : i = s.size := by omega
        rw [fieldsS, if_neg hne] at hF'
        have HF2 : Hid ((pre ++ [s.extract st s.size]).map (·.data.toList) = fieldsS [] s.data.toList) := by
          show _ = _
          rw [← hF', List.map_append, List.map_singleton, extract_take s st s.size (by omega), hii]
        have hlen : pre.length < (fieldsS [] s.data.toList).length := by
          rw [← HF2.out]; simp
        obtain ⟨fn, tmps, assign, body, hy, hR⟩ := HY.out pre (s.extract st s.size) wr HJr.out hlen
        have i0 : st ≤ s.size := by omega
        have i1 : (0 : Int) ≤ (st : Int) := by omega
        clear hst hne hlen hF' hF hii
        gi_wp2
        refine hR.mono ?_
        rintro e W3 (⟨rfl, hJ3, hk3⟩ | ⟨rfl, hJx3⟩)
        · have HJ3 := Tre.hid hJ3
          clear hJ3 hk3
          gi_wp2
          go_end0
          exact ⟨⟨_, rfl⟩, .inl ⟨pre ++ [s.extract st s.size], HF2.out, HJ3.out⟩⟩
        · have HJ3 := Tre.hid hJx3
          clear hJx3
          gi_wp2
          go_end0
          exact ⟨⟨_, rfl⟩, .inr ⟨pre ++ [s.extract st s.size], ⟨[], by rw [List.append_nil]; exact HF2.out⟩, HJ3.out⟩⟩
end Go.Proofs.YtcpcheengfgpaaaGreatDoor.lex
namespace Go.Proofs.YtcpcheengfgpaaaGreatDoor.errs
open Go.RowKit Go.Tre
theorem row_one (w : World) (u : Value) (t : TypeId) : Row (w.alloc (.cells #[u] t)) 1 (some ⟨w.heap.size, 0, none⟩) 1 [u] :=
  ⟨rfl, fun j x hx => by
    cases j with
    | zero => cases hx; exact ⟨_, 0, rfl, by simp⟩
    | succ j => simp at hx⟩
theorem infoErr : (Tryz.prog.info? 24).map (fun i => (i.zero, i.size, i.bytes)) = some (some .nilIface, 1, 16) := by kernel_rfl
set_option maxRecDepth 100000 in
set_option maxHeartbeats 4000000 in
theorem join2 (b o c : Nat) (t1 t2 : TypeId) (v1 v2 : Value) (w : World) (h0 : w.cell? ⟨b, o, none⟩ = some (.iface t1 v1)) (h1 : w.cell? ⟨b, o + 1, none⟩ = some (.iface t2 v2)) (hc : 2 ≤ c) :
    Calls Tryz.prog 55 #[.slice (some ⟨b, o, none⟩) 2 c] w fun e w' => ∃ q v, e = .returned (.iface 155 (.pointer (some ⟨q, 0, none⟩))) ∧
      Mem w w' [cellsR q 157 #[v], rowR 24 1 v 2 [.iface t1 v1, .iface t2 v2]] := by
  obtain ⟨ie, E1, E2, E3, E4⟩ := info_parts infoErr
  obtain ⟨wm, hmk, hmo, hmg⟩ := run_make_own (P := Tryz.prog) w 0 133 24 ie _ 1 Tryz.underlying133 E1 E2 E3 .i64 .i64 2 (by rw [E4]; omega) (by unfold maxLen; omega) (Nat.zero_le _)
  have M0 : Mem w wm [rowR 24 1 (.slice (some ⟨w.heap.size, 0, none⟩) 0 2) 0 []] := (Mem.nil w).add hmg (rowR 24 1 _ 0 []) hmo (fun b hb => by have : some w.heap.size = some b := hb; cases this; exact Nat.le_refl _)
  have HM0 := Tre.hid M0
  change (Instr.makeSlice 133 (.int .i64 0) (.int .i64 2)).run Tryz.prog w = _ at hmk
  have e0 := cell_below M0.below h0
  have e1 := cell_below M0.below h1
  clear M0 hmo hmg
  go_enter Tryz.func55, Tryz.ntmps55
  go_wp2_with fail
  refine wp_loop_rounds 3 ?_
  rw [rounds_succ]
  go_wp2_with fail
  rw [rounds_succ]
  go_wp2_with fail
  rw [rounds_succ]
  have M1 := HM0.out.allocR #[.slice (some ⟨w.heap.size, 0, none⟩) 0 2] 157
  have HM1 := Tre.hid M1
  have d0 := cell_below M1.below h0
  have d1 := cell_below M1.below h1
  obtain q0 := M1.cell 0 rfl 0 rfl
  clear M1
  go_wp2_with fail
  refine wp_loop_rounds 3 ?_
  rw [rounds_succ]
  have MA := Tre.hid (HM1.out.allocR #[.iface t1 v1] 24)
  have r1 := row_one (wm.alloc (.cells #[.slice (some ⟨w.heap.size, 0, none⟩) 0 2] 157)) (.iface t1 v1) 24
  rw [World.size_alloc] at r1
  have HR1 := Tre.hid r1
  clear r1
  go_wp2_with (at_builtin; refine wpList_append_row _ rfl _ _ 133 rfl 24 ie _ 1 16 Tryz.underlying133 E1 E2 E3 E4 rfl (by omega) (.slice (some ⟨w.heap.size, 0, none⟩) 0 2) 0 [] rfl (MA.out.row 2 rfl) (some ⟨wm.heap.size + 1, 0, none⟩) 1 1 [.iface t1 v1] rfl HR1.out (by simp [Value.oneCell']) (by unfold maxLen; omega) (by omega) ?_; intro v3 w3 hown3 hgrow3 hat3; have M3 := MA.out.grow 2 rfl hgrow3 hown3 hat3; obtain ⟨a3, c3, rfl, _⟩ := M3.val 2 rfl; have q3 := M3.cell 1 rfl 0 rfl; have f3 := M3.free 1 rfl 0; have HM3 := Tre.hid M3; clear M3 hown3 hgrow3 hat3)
  rw [rounds_succ]
  have M4 := HM3.out.setCell 1 rfl 0 (.slice a3 1 c3)
  generalize w3.setCell ⟨wm.heap.size, 0, none⟩ (.slice a3 1 c3) = w4 at M4 ⊢
  have q4 := M4.cell 1 rfl 0 rfl
  have M4' := M4.del 0
  have d4 := cell_below M4.below h1
  have MA4 := Tre.hid (M4'.allocR #[.iface t2 v2] 24)
  have HR4 := Tre.hid (row_one w4 (.iface t2 v2) 24)
  clear M4 M4' q3 f3
  go_wp2_with (at_builtin; refine wpList_append_row _ rfl _ _ 133 rfl 24 ie _ 1 16 Tryz.underlying133 E1 E2 E3 E4 rfl (by omega) (.slice a3 1 c3) 1 [.iface t1 v1] rfl (MA4.out.row 2 rfl) (some ⟨w4.heap.size, 0, none⟩) 1 1 [.iface t2 v2] rfl HR4.out (by simp [Value.oneCell']) (by unfold maxLen; omega) (by omega) ?_; intro v5 w5 hown5 hgrow5 hat5; have M5 := MA4.out.grow 2 rfl hgrow5 hown5 hat5; obtain ⟨a5, c5, rfl, _⟩ := M5.val 2 rfl; have q5 := M5.cell 1 rfl 0 rfl; have f5 := M5.free 1 rfl 0; have HM5 := Tre.hid M5; clear M5 hown5 hgrow5 hat5)
  rw [rounds_succ]
  have HM6 := Tre.hid ((HM5.out.setCell 1 rfl 0 (.slice a5 2 c5)).del 0)
  generalize w5.setCell ⟨wm.heap.size, 0, none⟩ (.slice a5 2 c5) = w6 at HM6 ⊢
  clear q5 f5
  go_wp2_with fail
  go_ret
  exact ⟨_, _, rfl, HM6.out⟩
end Go.Proofs.YtcpcheengfgpaaaGreatDoor.errs
namespace Go.Tre
open Go.RowKit
theorem calls_marks {P : Program} {f : FuncId} {fn : Func} {c : Code} {args : Array Value} {w : World} {R : Ending → World → Prop} (hf : P.funcs[f]? = some fn) (hb : fn.body = some c)
    (h : c.wp P (bodyPostM Fence.wide 3 P fn R) { tmps := args ++ Array.replicate (fn.ntmps - args.size) undef, defers := [] } w) : Calls P f args w R :=
  (callsIn_wide (n := 3)).1 (callsIn_of_wp_marks hf hb trivial (wpIn_wide.2 h) rfl)
theorem bodyPostM_ret {F : Fence} {n : Nat} {P : Program} {fn : Func} {R : Ending → World → Prop} {a : Act} {w : World} {v : Value} (hr : (results fn a.tmps).run P w = .ok v w) (hd : a.defers = []) (hR : R (.returned v) w) : bodyPostM F n P fn R .ret a w := by
  show LeavesInM F n P fn a.tmps R a.defers .returning w
  rw [hd]
  exact ⟨v, hr, hR⟩
/-- a drawn region, whose ways all come to one frame -/
theorem region_mid {P : Program} {id : Nat} {ops : Array Oper} {b : Bool} {Q : Exit → Act → World → Prop} {a : Act} {w : World} (A' : Act) (R : World → Prop)
    (h1 : (Code.region id ops b).wp P (fun e a' w' => e = .normal ∧ a' = A' ∧ R w') a w) (h2 : ∀ w', R w' → Q .normal A' w') : (Code.region id ops b).wp P Q a w :=
  Code.wp_mono (fun e a' w' h => by obtain ⟨rfl, rfl, h⟩ := h; exact h2 _ h) h1
abbrev tokV (kind at_ n : Int) (x : ByteArray) : Array Value := #[.int .i64 kind, .int .i64 at_, .int .i64 n, .string x]
end Go.Tre
namespace Go.Proofs.YtcpcheengfgpaaaGreatDoor.lex
open Go.RowKit Go.Tre
/-- what next holds: the text that is left, the error, the number, the token, the lexer -/
abbrev nextL (S T : Nat) (kind at_ n : Int) (y : ByteArray) (m : Int) (v : Value) (x : ByteArray) (b : Nat) (s : ByteArray) (k : Nat) (rs : List Res) : List Res :=
  cellsR S 9 #[.string x] :: cellsR (T + 1 + 1) 24 #[v] :: cellsR (T + 1) 3 #[.int .i64 m] :: cellsR T 34 (tokV kind at_ n y) :: lexR b s k :: rs
theorem next_results (tmps : Array Value) (T : Nat) (kind at_ n m : Int) (y : ByteArray) (v : Value) (w : World) (h2 : tmps[2]? = some (.pointer (some ⟨T, 0, none⟩))) (h3 : tmps[3]? = some (.pointer (some ⟨T + 1, 0, none⟩))) (h4 : tmps[4]? = some (.pointer (some ⟨T + 1 + 1, 0, none⟩)))
    (c0 : w.heap[T]? = some (.cells (tokV kind at_ n y) 34 (0, 0))) (c1 : w.heap[T + 1]? = some (.cells #[.int .i64 m] 3 (0, 0))) (c2 : w.heap[T + 1 + 1]? = some (.cells #[v] 24 (0, 0))) :
    (results Tryz.f32 tmps).run Tryz.prog w = .ok (.tuple #[.agg (tokV kind at_ n y), .int .i64 m, v]) w := by
  have d0 : w.cell? ⟨T, 0, none⟩ = some (.int .i64 kind) := by simp [World.cell?, c0]
  have d1 : w.cell? ⟨T, 1, none⟩ = some (.int .i64 at_) := by simp [World.cell?, c0]
  have d2 : w.cell? ⟨T, 2, none⟩ = some (.int .i64 n) := by simp [World.cell?, c0]
  have d3 : w.cell? ⟨T, 3, none⟩ = some (.string y) := by simp [World.cell?, c0]
  have d4 : w.cell? ⟨T + 1, 0, none⟩ = some (.int .i64 m) := by simp [World.cell?, c1]
  have d5 : w.cell? ⟨T + 1 + 1, 0, none⟩ = some v := by simp [World.cell?, c2]
  simp [results, Tryz.results32, go_sem, h2, h3, h4, d0, d1, d2, d3, d4, d5]
def NextPost (w0 : World) (rs : List Res) (b : Nat) (s : ByteArray) (k : Nat) (D : Option (Tok × Nat)) (e : Ending) (w' : World) : Prop :=
  (∃ (t : Tok) (n : Nat) (y : ByteArray), D = some (t, n) ∧ y.data.toList = t.s ∧ e = .returned (.tuple #[.agg (tokV t.kind k t.n y), .int .i64 n, .nilIface]) ∧ Mem w0 w' (lexR b s k :: rs)) ∨
  (D = none ∧ ∃ (ka kb kc : Int) (y : ByteArray) (mv v : Value) (bs : List Nat), e = .returned (.tuple #[.agg (tokV ka kb kc y), mv, v]) ∧ Mem w0 w' (errR bs v k 5 :: lexR b s k :: rs))
end Go.Proofs.YtcpcheengfgpaaaGreatDoor.lex
namespace Go.Tre
open Go.RowKit
/-- what is held, all of it in blocks below B -/
structure MemB (B : Nat) (w0 w : World) (rs : List Res) : Prop where
  mem : Mem w0 w rs
  low : ∀ r ∈ rs, ∀ b, r.own b → b < B
  base : w0.heap.size ≤ B
theorem MemB.grown {B : Nat} {w0 w w' : World} {rs : List Res} {row : Option Nat} (h : MemB B w0 w rs) (hg : w.grownBy w' row) (hr : ∀ r, row = some r → B ≤ r) : MemB B w0 w' rs := by
  have key : ∀ r ∈ rs, ∀ b, r.own b → w'.heap[b]? = w.heap[b]? := fun r hr' b hb => by
    have h1 := h.low r hr' b hb
    refine hg.block b (r.has _ (h.mem.all r hr').1 b hb) (fun e => ?_)
    have := hr b e.symm
    omega
  refine ⟨⟨h.mem.below.grown hg h.mem.size (fun k e => Nat.le_trans h.base (hr k e)), fun r hr' => ⟨r.stable _ _ (h.mem.all r hr').1 (key r hr'), (h.mem.all r hr').2⟩, h.mem.sep⟩, h.low, h.base⟩
theorem MemB.low_same {B : Nat} {w0 w : World} {rs rs' : List Res} (h : MemB B w0 w rs) (e : rs.map (·.own) = rs'.map (·.own)) {r : Res} (hr : r ∈ rs') {b : Nat} (hb : r.own b) : b < B := by
  have h1 : r.own ∈ rs'.map (·.own) := List.mem_map_of_mem hr
  rw [← e] at h1
  obtain ⟨r', hr', e'⟩ := List.mem_map.1 h1
  exact h.low r' hr' b (by rw [e']; exact hb)
theorem MemB.own {β : Type} (B : Nat) (w0 : World) (rs : List Res) : OwnFrom B (fun (_ : β) W => MemB B w0 W rs) := fun _ _ _ _ h hg hr => h.grown hg (fun r e => (hr r e).1)
theorem MemB.of {w0 w : World} {rs : List Res} (h : Mem w0 w rs) : MemB w.heap.size w0 w rs := ⟨h, fun r hr b hb => r.has _ (h.all r hr).1 b hb, h.size⟩
/-- an object that is no cells -/
def objR (D : Nat) (o : Obj) : Res where
  own b := b = D
  P w := w.heap[D]? = some o
  stable w w' h hs := (hs D rfl).trans h
  has w h b hb := by subst hb; exact (Array.getElem?_eq_some_iff.1 h).1
theorem Mem.putObj {w0 w : World} {rs : List Res} {D : Nat} {o : Obj} (h : Mem w0 w rs) (i : Nat) (hi : rs[i]? = some (objR D o)) (o' : Obj) : Mem w0 (w.putObj D o') (rs.set i (objR D o')) :=
  h.set_row i hi (grownBy_putObj' w D o') (fun k e => by cases e; rfl) _ (World.putObj_heap_same (Array.getElem?_eq_some_iff.1 (show w.heap[D]? = some o from h.at_ i hi)).1) (fun b hb => .inl hb)
theorem MemB.withObj {B D : Nat} {w0 w : World} {rs : List Res} {o : Obj} (h : MemB B w0 w rs) (hD : B ≤ D) (ho : w.heap[D]? = some o) : Mem w0 w (objR D o :: rs) :=
  ⟨h.mem.below, fun r hr => by
    rcases List.mem_cons.1 hr with rfl | hr
    · exact ⟨ho, fun b hb => by have e : b = D := hb; have := h.base; omega⟩
    · exact h.mem.all r hr, List.pairwise_cons.2 ⟨fun r hr b hb hb' => by have e : b = D := hb; have := h.low r hr b hb'; omega, h.mem.sep⟩⟩
theorem bodyPostM_ret1 {F : Fence} {n : Nat} {P : Program} {fn : Func} {R : Ending → World → Prop} {a : Act} {w : World} {v : Value} {D : Nat} (hd : a.defers = [{ target := .collected D, args := #[] }]) (hk : w.heap[D]? = some (.deferred (some [])))
    (hr : (results fn a.tmps).run P (w.putObj D (.deferred none)) = .ok v (w.putObj D (.deferred none))) (hR : R (.returned v) (w.putObj D (.deferred none))) : bodyPostM F n P fn R .ret a w := by
  show LeavesInM F n P fn a.tmps R a.defers .returning w
  rw [hd]
  exact ⟨by simp, .inl ⟨D, _, rfl, run_takeDeferred hk, ⟨v, hr, hR⟩⟩⟩
theorem SpaceAt.lt_size {w0 w : World} (h : SpaceAt w0) (hs : w0.heap.size ≤ w.heap.size) : 4 < w.heap.size :=
  Nat.lt_of_lt_of_le (World.block_lt_of_cell? w0 _ (h 0)) hs
end Go.Tre
namespace Go.Proofs.YtcpcheengfgpaaaGreatDoor.lex
open Go.RowKit Go.Tre Go.Shelf
theorem fieldsSeq (s : ByteArray) (w : World) : Calls Tryz.prog 57 #[.string s] w fun e w' => e = .returned (.func (.func 81) #[] #[.pointer (some ⟨w.heap.size, 0, none⟩)]) ∧ w' = w.alloc (.cells #[.string s] 9) := by
  go_enter Tryz.func57, Tryz.ntmps57
  go_wp2
  go_ret
  exact ⟨rfl, rfl⟩
theorem fields_stops (n : Nat) (hn : 1 ≤ n) (Bs : Nat) (s : ByteArray) (hs : s.size ≤ 4194304) (has : ∀ c ∈ s.data.toList, c.toNat < 128) (w : World) (hB : Bs < w.heap.size) (hg : 4 < w.heap.size) (hc : w.cell? ⟨Bs, 0, none⟩ = some (.string s)) (hsp : SpaceAt w) :
    SeqStopsK Fence.wide n Tryz.prog 81 #[.pointer (some ⟨Bs, 0, none⟩)] (fun x : ByteArray => #[Value.string x]) (Below w.heap.size) (fun ys => ys.map (·.data.toList) = fieldsS [] s.data.toList) (fun pre => ∃ r, pre.map (·.data.toList) ++ r = fieldsS [] s.data.toList) (fieldsS [] s.data.toList).length w := fun l J Jx W hW _ _ hY h0 => by
  refine (fields_in Fence.wide n trivial rfl hn l Bs w.heap.size s hs has J Jx hY W hB hg (cell_below hW hc) (hsp.below hW) h0).mono ?_
  rintro e W' ⟨he, h⟩
  exact ⟨he, h⟩
end Go.Proofs.YtcpcheengfgpaaaGreatDoor.lex
