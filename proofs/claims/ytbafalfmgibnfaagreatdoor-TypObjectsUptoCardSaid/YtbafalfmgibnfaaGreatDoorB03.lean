/- lex.(*lexer).skip: blanks and notes. strings.Builder: copyCheck, WriteString, String, at a builder of the call's own. append onto a row of the call's own, the source whatever it is (nil, empty or not). strings.Builder among the resources of a call: WriteByte, String. lex.quoted: what a text behind a quote tells. -/
import Derived.Test.YtbafalfmgibnfaaGreatDoorB02
import Derived.Deep.LoopGhost
import Derived.Test.YtbafalfmgibnfaaGreatDoorB01
import Derived.Test.YtbafalfmgibnfaaGreatDoorShelf
import Derived.Lib.Builder
import Derived.Lib.AppendStr
import Derived.WalkSpells
import Derived.Shelf.Strings.Builder1
import Derived.Maps.AppendAt
import Derived.Test.YtbafalfmgibnfaaGreatDoorRows
import Derived.WalkArith
set_option linter.unusedVariables false
namespace Go.Proofs.YtbafalfmgibnfaaGreatDoor.lex
open Go.RowKit Go.Tre
def SkipPost (w0 : World) (rs : List Res) (b : Nat) (s : ByteArray) (D : Option (List UInt8)) (e : Ending) (w' : World) : Prop :=
 (∃ k' : Nat, k' ≤ s.size ∧ D = some (s.data.toList.drop k') ∧ e = .returned .nilIface ∧ Mem w0 w' (lexR b s k' :: rs)) ∨
 (D = none ∧ ∃ v bs, ∃ k' : Nat, k' ≤ s.size ∧ e = .returned v ∧ Mem w0 w' (errR bs v k' 5 :: lexR b s k' :: rs))
theorem errNew {w0 w : World} {rs : List Res} {k : Nat} (h : Mem w0 w rs) : Mem w0 (w.alloc (.cells #[.int .i64 (k : Int), .int .i64 5] 66)) (errR [w.heap.size] (.iface 62 (.pointer (some ⟨w.heap.size, 0, none⟩))) k 5 :: rs) :=
 (h.allocR #[.int .i64 (k : Int), .int .i64 5] 66).as_ 0 rfl _ (fun hp => .inl ⟨_, rfl, rfl, hp⟩) (fun b hb => List.mem_singleton.1 hb)

set_option maxRecDepth 100000 in
set_option maxHeartbeats 8000000 in
theorem skip (w0 : World) (rs : List Res) (b : Nat) (s : ByteArray) (k0 : Nat) (w : World) (h : Mem w0 w (lexR b s k0 :: rs)) (hk0 : k0 ≤ s.size) (hs : s.size ≤ 4194304) (hm : MaxAt w0) :
  Calls Tryz.prog 31 #[.pointer (some ⟨b, 0, none⟩)] w (SkipPost w0 rs b s (skipS (s.data.toList.drop k0))) := by
 have HM0 := Tre.hid h
 have HMX := Tre.hid hm
 obtain ⟨D, hD⟩ : ∃ D, Hid (skipS (s.data.toList.drop k0) = D) := ⟨_, rfl⟩
 rw [hD.out]
 clear h hm
 go_enter Tryz.func31, Tryz.ntmps31
 go_wp2_with fail
 go_loopg [3] (s.size - k0) (fun gk v3 wr => ∃ (u3 : Value) (k : Nat), v3 = u3 ∧ Hid (skipS (s.data.toList.drop k) = D ∧ gk = s.size - k) ∧ k ≤ s.size ∧ Hid (Mem w0 wr (lexR b s k :: rs)))
 case atStart => exact ⟨_, k0, rfl, ⟨hD.out, rfl⟩, hk0, HM0.out⟩
 case round =>
  obtain ⟨u3, k, rfl, hI, hk, HM⟩ := hrel
  obtain ⟨x, hx⟩ : ∃ x : ByteArray, Hid (x.data.toList = s.data.toList.drop k) := ⟨s.extract k s.size, extract_list s k⟩
  obtain ⟨d, HD⟩ : ∃ d : ByteArray, Hid (d.data.toList = x.data.toList.dropWhile Tre.blank) := ⟨⟨(x.data.toList.dropWhile Tre.blank).toArray⟩, by show _ = _; simp⟩
  have HX := hx
  have hxs : x.size = s.size - k := by
   have := congrArg List.length hx.out
   simpa using this
  have hds : d.size ≤ x.size := by
   have h1 := congrArg List.length HD.out
   have h2 := (List.dropWhile_sublist (l := x.data.toList) Tre.blank).length_le
   have h3 : d.size = d.data.toList.length := rfl
   have h4 : x.size = x.data.toList.length := rfl
   omega
  have hdk : d.size + k ≤ s.size := by omega
  have HDL : Hid (d.data.toList = s.data.toList.drop (s.size - d.size)) := by
   show _ = _
   have h1 := dropWhile_drop Tre.blank x.data.toList
   rw [← HD.out, HX.out, List.drop_drop] at h1
   have h2 : (s.data.toList.drop k).length - d.data.toList.length + k = s.size - d.size := by
    have h4 : (s.data.toList.drop k).length = s.size - k := by simp
    have h3 : d.size = d.data.toList.length := rfl
    omega
   rw [Nat.add_comm, h2] at h1
   exact h1.symm
  have HWR : Hid (IntKind.i64.wrap ((s.size : Int) - (d.size : Int)) = (s.size : Int) - (d.size : Int)) := IntWalk.i64_in _ (by omega)
  clear hxs hds hx
  go_wp2_with fail
  have cS : Cond (fun w' => w'.cell? ⟨b, 0, none⟩ = some (.string s)) := ⟨⟩
  refine cS.keep [13] ?_ (fun hH0 => ?_)
  ·exact (lexAt HM.out 0 rfl).text
  have H0 := Tre.hid HM.out.drew
  generalize hq : wr.drew = wq0 at H0 hH0 ⊢
  clear hq
  refine lPq 0 (some 6) (v := ?_) rfl ?_ (keep_of hH0) ?_
  rotate_left
  ·intro w; go_simp <;> with_reducible rfl
  try simp only [Act.put, zqf, zqg, zqh]
  refine lPq 1 (some 7) (v := ?_) rfl ?_ (keep_of hH0) ?_
  rotate_left
  ·intro w; go_simp <;> with_reducible rfl
  try simp only [Act.put, zqf, zqg, zqh]
  refine lPq 2 (some 8) (v := ?_) rfl ?_ (keep_of hH0) ?_
  rotate_left
  ·intro w; go_simp <;> with_reducible rfl
  try simp only [Act.put, zqf, zqg, zqh]
  refine lPq 3 (some 9) (v := ?_) rfl ?_ (keep_of hH0) ?_
  rotate_left
  ·intro w; go_simp <;> with_reducible rfl
  try simp only [Act.put, zqf, zqg, zqh]
  refine lPq 6 (some 12) (v := ?_) rfl ?_ (keep_of hH0) ?_
  rotate_left
  ·intro w; go_simp <;> with_reducible rfl
  try simp only [Act.put, zqf, zqg, zqh]
  refine lTq 4 (some 10) (v := ?_) rfl ?_ hH0 ?_
  rotate_left
  ·intro w hSw; (try dsimp only at hSw); go_simp <;> with_reducible rfl
  try simp only [Act.put, zqf, zqg, zqh]
  refine lPq 5 (some 11) (v := ?_) rfl ?_ (keep_of hH0) ?_
  rotate_left
  ·intro w; go_simp <;> with_reducible rfl
  try simp only [Act.put, zqf, zqg, zqh]
  refine lOne 7 (by kernel_rfl) (LStep.op (fun K hK => ?_))
  go_simp
  refine (rest_is b s k x wq0 (lexAt H0.out 0 rfl) hk (by omega) HX.out).mono ?_
  rintro e wq1 ⟨rfl, mq⟩
  have H1 := Tre.hid (H0.out.quiet mq)
  clear mq
  (try dsimp only)
  refine hK.out _ _ ?_ (fun hH1 => ?_)
  ·exact (lexAt H1.out 0 rfl).text
  clear hK K hH0
  try simp only [Act.put, zqf, zqg, zqh]
  refine lOne 8 (by kernel_rfl) (LStep.op (fun K hK => ?_))
  go_simp
  refine (trimBlank x d wq1 HD.out).mono ?_
  rintro e wq2 ⟨rfl, mq⟩
  have H2 := Tre.hid (H1.out.quiet mq)
  clear mq
  (try dsimp only)
  refine hK.out _ _ ?_ (fun hH2 => ?_)
  ·exact (lexAt H2.out 0 rfl).text
  clear hK K hH1
  try simp only [Act.put, zqf, zqg, zqh]
  refine lPq 9 (some 15) (v := ?_) rfl ?_ (keep_of hH2) ?_
  rotate_left
  ·intro w; go_simp <;> with_reducible rfl
  try simp only [Act.put, zqf, zqg, zqh]
  refine lPq 10 (some 16) (v := ?_) rfl ?_ (keep_of hH2) ?_
  rotate_left
  ·intro w; go_simp <;> with_reducible rfl
  try simp only [Act.put, zqf, zqg, zqh]
  refine lPq 11 (some 17) (v := ?_) rfl ?_ (keep_of hH2) ?_
  rotate_left
  ·intro w; go_simp <;> with_reducible rfl
  try simp only [Act.put, zqf, zqg, zqh]
  refine lPq 12 (some 18) (v := ?_) rfl ?_ (keep_of hH2) ?_
  rotate_left
  ·intro w; go_simp <;> with_reducible rfl
  try simp only [Act.put, zqf, zqg, zqh]
  refine lOne 13 (by kernel_rfl) (LFall.op (by kernel_rfl) (fun K hK => ?_))
  have f2 := H2.out.free 0 rfl 1
  have q2 := (lexAt H2.out 0 rfl).place
  have H3 := Tre.hid (H2.out.setCell 0 rfl 1 (.int .i64 ((s.size : Int) - (d.size : Int))))
  go_simp
  simp only [HWR.out]
  generalize hw : wq2.setCell ⟨b, 1, none⟩ (.int .i64 ((s.size : Int) - (d.size : Int))) = wq3 at H3 ⊢
  clear hw f2 q2
  refine hK.out _ _ ?_
  clear hK K hH2
  try simp only [Act.put, zqf, zqg, zqh]
  refine lDone (by kernel_rfl) ?_
  obtain ⟨k1, hk1⟩ : ∃ k1 : Nat, Hid (k1 = s.size - d.size) := ⟨_, rfl⟩
  have hkk : k1 ≤ s.size := by have := hk1.out; omega
  have H4 : Hid (Mem w0 wq3 (lexR b s k1 :: rs)) := by
   have := H3.out
   have e : ((s.size : Int) - (d.size : Int)) = (k1 : Int) := by have := hk1.out; omega
   rw [e] at this
   exact this
  have HDK : Hid (d.data.toList = s.data.toList.drop k1) := by show _ = _; rw [hk1.out]; exact HDL.out
  clear H3
  go_wp2_with fail
  refine (rest_is b s k1 d _ (lexAt H4.out 0 rfl) hkk (by omega) HDK.out).mono ?_
  rintro e w4 ⟨rfl, mq⟩
  have H5 := Tre.hid (H4.out.quiet mq)
  clear mq H4
  obtain ⟨n, HN⟩ : ∃ n : ByteArray, Hid (n.data.toList = Lib.trimPrefix d.data.toList [40, 42]) := ⟨⟨(Lib.trimPrefix d.data.toList [40, 42]).toArray⟩, by show _ = _; simp⟩
  by_cases hn : Lib.hasPrefix d.data.toList [40, 42] = true
  ·have HNN := Tre.hid hn
   obtain ⟨r, hr⟩ : ∃ r, Hid (d.data.toList = 40 :: 42 :: r) := by
    obtain ⟨t, ht⟩ := List.isPrefixOf_iff_prefix.1 hn
    exact ⟨t, ht.symm⟩
   have HNR : Hid (n.data.toList = r) := by
    show _ = _
    rw [HN.out]; unfold Lib.trimPrefix; rw [if_pos HNN.out, hr.out]; rfl
   have hns : n.size + 2 = d.size := by
    have h1 := congrArg List.length HNR.out
    have h2 := congrArg List.length hr.out
    have h3 : n.size = n.data.toList.length := rfl
    have h4 : d.size = d.data.toList.length := rfl
    simp only [List.length_cons] at h2
    omega
   have hnl : n.size < 4294967281 := by omega
   have HSK : Hid (D = (noteEnd r).bind skipS) := by
    show _ = _
    rw [← hI.out.1]
    apply skipS_note
    rw [← HX.out, ← HD.out, hr.out]
   have HNS := Tre.hid hns
   clear hn hns
   go_wp2_with fail
   refine (cutNote d n true _ HNN.out HN.out).mono ?_
   rintro e w' ⟨rfl, rfl⟩
   cases hne : noteEnd r with
   | none =>
    have hix := noteEnd_none hne
    rw [← HNR.out] at hix
    have HIX := Tre.hid hix
    have HDN : Hid (D = none) := by show _ = _; rw [HSK.out, hne]; rfl
    clear hix hne
    go_wp2_with fail
    refine (indexEnd n (-1) _ hnl (HMX.out.below H5.out.below) HIX.out).mono ?_
    rintro e w' ⟨rfl, rfl⟩
    go_wp2_with fail
    refine (fail b s k1 _ (lexAt H5.out 0 rfl)).mono ?_
    rintro e w' ⟨rfl, rfl⟩
    have H6 := Tre.hid (errNew (k := k1) H5.out)
    go_wp2_with (fail)
    go_ret
    exact .inr ⟨HDN.out, _, _, k1, hkk, rfl, H6.out⟩
   | some r' =>
    obtain ⟨i, hi1, hi2, hi3⟩ := noteEnd_some hne
    rw [← HNR.out] at hi1
    have hin : i + 2 ≤ n.size := by
     have h3 : n.size = n.data.toList.length := rfl
     rw [h3, HNR.out]; exact hi3
    have HIX := Tre.hid hi1
    have HDN : Hid (D = skipS r') := by show _ = _; rw [HSK.out, hne]; rfl
    have HKE : Hid (s.data.toList.drop (k1 + (i + 4)) = r') := by
     show _ = _
     rw [← List.drop_drop, ← HDK.out, hr.out]
     exact hi2
    have hk2 : k1 + (i + 4) ≤ s.size := by have := HNS.out; have := hk1.out; omega
    have i1 : (0 : Int) ≤ (i : Int) := by omega
    have i2 : (i : Int) ≤ 8388608 := by omega
    clear hi1 hi2 hi3 hne
    go_wp2_with fail
    refine (indexEnd n i _ hnl (HMX.out.below H5.out.below) HIX.out).mono ?_
    rintro e w' ⟨rfl, rfl⟩
    obtain ⟨q0, q1⟩ := H5.out.two 0 rfl
    have f1 := H5.out.free 0 rfl 1
    go_wp2_with fail
    have H6 := Tre.hid (H5.out.setCell 0 rfl 1 (.int .i64 ((k1 : Int) + ((i : Int) + 4))))
    go_roundg (s.size - (k1 + (i + 4)))
    case measure => have h1 := hI.out.2; have := hk1.out; rw [h1]; omega
    case rel =>
     refine ⟨_, k1 + (i + 4), rfl, ⟨?_, rfl⟩, hk2, ?_⟩
     ·rw [HKE.out, HDN.out]
     ·have := H6.out
      rw [show ((k1 : Int) + ((i : Int) + 4)) = ((k1 + (i + 4) : Nat) : Int) by omega] at this
      exact this
  ·have hn' : Lib.hasPrefix d.data.toList [40, 42] = false := by simpa using hn
   have HNN := Tre.hid hn'
   have HSK : Hid (D = some (s.data.toList.drop k1)) := by
    show _ = _
    rw [← hI.out.1, skipS_rest, ← HX.out, ← HD.out, HDK.out]
    intro r hr
    rw [← HX.out, ← HD.out] at hr
    apply hn
    rw [hr]
    exact List.isPrefixOf_iff_prefix.2 ⟨r, rfl⟩
   clear hn hn'
   go_wp2_with fail
   refine (cutNote d n false _ HNN.out HN.out).mono ?_
   rintro e w' ⟨rfl, rfl⟩
   go_wp2_with fail
   go_ret
   exact .inl ⟨k1, hkk, HSK.out, rfl, H5.out⟩
end Go.Proofs.YtbafalfmgibnfaaGreatDoor.lex
namespace Go.Tre
open Go.RowKit
theorem bytes_app (l : List UInt8) (s : ByteArray) : Lib.byteCells l ++ Lib.strCells s = Lib.byteCells (l ++ s.data.toList) := by
 simp [Lib.byteCells, Lib.strCells]
end Go.Tre
namespace Go.Proofs.YtbafalfmgibnfaaGreatDoor.gr
open Go.RowKit Go.Maps Go.Tre
theorem sizeBuilder : (Tryz.prog.info? 55).map (·.size) = some 2 := by kernel_rfl
theorem liesBuilder : liesAt Tryz.prog Tryz.prog.depth 55 (2 / Tryz.prog.cellsOf 55) 0 55 1 = true := by kernel_rfl
theorem infoU8 : (Tryz.prog.info? 5).map (fun i => (i.zero, i.size, i.bytes)) = some (some (.int .u8 0), 1, 1) := by kernel_rfl

set_option maxHeartbeats 1000000 in
set_option maxRecDepth 100000 in
theorem copyCheck_used (b : Nat) (w : World) (h0 : w.cell? ⟨b, 0, none⟩ = some (.pointer (some ⟨b, 0, none⟩))) :
  Calls Tryz.prog 46 #[.pointer (some ⟨b, 0, none⟩)] w fun e w' => e = .returned (.tuple #[]) ∧ w' = w := by
 obtain ⟨j, hj, _⟩ := Option.map_eq_some_iff.1 sizeBuilder
 go_enter Tryz.func46, Tryz.ntmps46
 go_wp2
 rw [Lib.run_neq_ptr_same w _ Tryz.underlying52 hj]
 go_wp2
 go_end0
 exact ⟨rfl, rfl⟩

set_option maxHeartbeats 1000000 in
set_option maxRecDepth 100000 in
theorem copyCheck_fresh (b : Nat) (w : World) (h0 : w.cell? ⟨b, 0, none⟩ = some (.pointer none)) (hsh : w.shape? b = some (55, 2)) (hfz : w.frozen? ⟨b, 0, none⟩ = false) :
  Calls Tryz.prog 46 #[.pointer (some ⟨b, 0, none⟩)] w fun e w' => e = .returned (.tuple #[]) ∧ w' = w.setCell ⟨b, 0, none⟩ (.pointer (some ⟨b, 0, none⟩)) := by
 obtain ⟨j, hj, hjs⟩ := Option.map_eq_some_iff.1 sizeBuilder
 go_enter Tryz.func46, Tryz.ntmps46
 go_wp2
 rw [Lib.run_to_unsafe w ⟨b, 0, none⟩ Tryz.underlying52 Tryz.underlying95 hj (by rw [hjs]; decide) hsh (Nat.zero_lt_succ 1)]
 simp only [Result.andThen]
 rw [Oper.upon_value]
 go_wp2
 rw [run_callFunc_extern Tryz.func66 (by kernel_rfl) (by kernel_rfl) (by kernel_rfl) (e := Extern.AbiNoEscape.same) (by kernel_rfl)]
 rw [Lib.run_noEscape]
 simp only [Result.andThen]
 rw [Oper.upon_value]
 go_wp2
 rw [Lib.run_from_unsafe w ⟨b, 0, none⟩ Tryz.underlying95 Tryz.underlying52 hj hsh liesBuilder]
 simp only [Result.andThen]
 rw [Oper.upon_value]
 go_wp2
 go_end0
 exact ⟨rfl, rfl⟩

theorem copyCheck (B b : Nat) (bs : List Value) (w : World) (h : Lib.IsBuilder 55 5 B b bs w) :
  Calls Tryz.prog 46 #[.pointer (some ⟨b, 0, none⟩)] w fun e w' => e = .returned (.tuple #[]) ∧ (Lib.BuilderAt 55 5 B b (.pointer (some ⟨b, 0, none⟩)) bs w' ∧ Below B w w') := by
 rcases h with h | h
 ·refine (copyCheck_fresh b w h.cell0 h.shape h.frozen0).mono ?_
  rintro e w' ⟨rfl, rfl⟩
  exact ⟨rfl, h.used _, (Below.refl B w).setCell (p := ⟨b, 0, none⟩) h.1 _⟩
 ·refine (copyCheck_used b w h.cell0).mono ?_
  rintro e w' ⟨rfl, rfl⟩
  exact ⟨rfl, h, Below.refl B _⟩

end Go.Proofs.YtbafalfmgibnfaaGreatDoor.gr
namespace Go.Tre
open Go.RowKit Go.Maps
section
variable {P : Program} (w : World)
theorem run_append_row (t ty e : TypeId) (i : TypeInfo) (z : Value) (size bytes : Nat) (ht : P.underlying t = some (.slice e)) (hi : P.info? e = some i) (hz : i.zero = some z)
  (hsize : i.size = size) (hby : i.bytes = bytes) (hzs : z.cells.size = size) (hsz : 0 < size)
  (v : Value) (n : Nat) (xs : List Value) (hown : w.ownsRow 0 e size v n xs)
  (a : Option Addr) (m c : Nat) (news : List Value) (hr : Row w size a m news) (h1 : ∀ u ∈ news, u.oneCell' = true)
  (h63 : n + m ≤ maxLen) (hbytes : (n + m) * bytes ≤ 140737488355328) :
  ∃ v' w', (Builtin.append_ #[t, t] ty #[v, .slice a m c]).run P w = .ok v' w' ∧ w'.ownsRow 0 e size v' (n + m) (xs ++ news) ∧ w.grownBy w' v.ownBlock ∧ (v'.ownBlock = v.ownBlock ∨ v'.ownBlock = some w.heap.size) := by
 cases a with
 | none =>
  have h0 : news = [] := by
   cases news with
   | nil => rfl
   | cons x r => obtain ⟨_, _, e, _⟩ := hr.at_ 0 x rfl; cases e
  have hm : m = 0 := by
   have := hr.len
   rw [h0, List.length_nil] at this
   rcases Nat.mul_eq_zero.1 this.symm with h | h <;> omega
  subst h0 hm
  refine ⟨v, w, ?_, by simpa using hown, ⟨rfl, rfl, rfl, Nat.le_refl _, fun _ _ _ => rfl⟩, .inl rfl⟩
  rcases hown.2 with ⟨rfl, rfl⟩ | ⟨g, cap, cur, rfl, _, _, hnc, _⟩
  ·simp [Builtin.append_, run_underlying ht, sizeOf, typeInfo, hi, Builtin.lenOf, Builtin.firstCells]
  ·simp [Builtin.append_, run_underlying ht, sizeOf, typeInfo, hi, Builtin.lenOf, Builtin.firstCells, hnc, storeCells]
 | some ad =>
  obtain ⟨v', w', hrun, h2, h3, _, h5⟩ := run_append_own_at (P := P) w 0 t ty e i z size bytes ht hi hz hsize hby hzs hsz v n xs hown ad m c news hr.len (fun j u hu => by
   obtain ⟨b, off, e', hc⟩ := hr.at_ j u hu
   cases e'
   have : (⟨b, off, none⟩ : Addr).add j = ⟨b, off + j, none⟩ := by unfold Addr.add; by_cases h : j = 0 <;> simp [h]
   rw [this]; exact hc) h1 h63 hbytes (Nat.zero_le _)
  exact ⟨v', w', hrun, h2, h3, h5⟩
theorem wp_append_row {o : Oper} {a : Act} {K : Act → World → Prop} {Q : Exit → Act → World → Prop} (s x : Operand) (t : TypeId)
  (ho : o.op = .call { callee := .builtin .append, args := #[s, x], argTypes := #[t, t] })
  (e : TypeId) (i : TypeInfo) (z : Value) (size bytes : Nat) (ht : P.underlying t = some (.slice e)) (hi : P.info? e = some i) (hz : i.zero = some z)
  (hsize : i.size = size) (hby : i.bytes = bytes) (hzs : z.cells.size = size) (hsz : 0 < size)
  (v : Value) (n : Nat) (xs : List Value) (hs : a.eval s = v) (hown : w.ownsRow 0 e size v n xs)
  (ad : Option Addr) (m c : Nat) (news : List Value) (hx : a.eval x = .slice ad m c) (hr : Row w size ad m news) (h1 : ∀ u ∈ news, u.oneCell' = true)
  (h63 : n + m ≤ maxLen) (hbytes : (n + m) * bytes ≤ 140737488355328)
  (h : ∀ v' w', w'.ownsRow 0 e size v' (n + m) (xs ++ news) → w.grownBy w' v.ownBlock → (v'.ownBlock = v.ownBlock ∨ v'.ownBlock = some w.heap.size) → K (a.put o.dst v') w') : o.wp P a w K Q := by
 obtain ⟨v', w', hr, h2, h3, h4⟩ := run_append_row (P := P) w t o.type e i z size bytes ht hi hz hsize hby hzs hsz v n xs hown ad m c news hr h1 h63 hbytes
 unfold Oper.wp execOp
 simp only [ho, resolve, invoke, builtin, Sem.run_bind, Sem.run_pure, Result.andThen_ok, List.map_toArray, List.map_cons, List.map_nil, hs, hx, hr]
 exact h v' w' h2 h3 h4
theorem wpList_append_row {ops : Array Oper} {rest : List Oper} {o : Oper} {a : Act} {Q : Exit → Act → World → Prop} (hgd : o.guard = none) (s x : Operand) (t : TypeId)
  (ho : o.op = .call { callee := .builtin .append, args := #[s, x], argTypes := #[t, t] })
  (e : TypeId) (i : TypeInfo) (z : Value) (size bytes : Nat) (ht : P.underlying t = some (.slice e)) (hi : P.info? e = some i) (hz : i.zero = some z)
  (hsize : i.size = size) (hby : i.bytes = bytes) (hzs : z.cells.size = size) (hsz : 0 < size)
  (v : Value) (n : Nat) (xs : List Value) (hs : a.eval s = v) (hown : w.ownsRow 0 e size v n xs)
  (ad : Option Addr) (m c : Nat) (news : List Value) (hx : a.eval x = .slice ad m c) (hr : Row w size ad m news) (h1 : ∀ u ∈ news, u.oneCell' = true)
  (h63 : n + m ≤ maxLen) (hbytes : (n + m) * bytes ≤ 140737488355328)
  (h : ∀ v' w', w'.ownsRow 0 e size v' (n + m) (xs ++ news) → w.grownBy w' v.ownBlock → (v'.ownBlock = v.ownBlock ∨ v'.ownBlock = some w.heap.size) → wpList P ops Q rest (a.put o.dst v') w') :
  wpList P ops Q (o :: rest) a w := by
 refine wpList_plain hgd fun K hK => ?_
 exact wp_append_row w s x t ho e i z size bytes ht hi hz hsize hby hzs hsz v n xs hs hown ad m c news hx hr h1 h63 hbytes (fun v' w' h2 h3 h4 => hK _ _ (h v' w' h2 h3 h4))
end
end Go.Tre
namespace Go.Tre
open Go.RowKit
theorem row_one (w : World) (u : Value) (t : TypeId) : Row (w.alloc (.cells #[u] t)) 1 (some ⟨w.heap.size, 0, none⟩) 1 [u] :=
 ⟨rfl, fun j x hx => by
  cases j with
  | zero => cases hx; exact ⟨_, 0, rfl, by simp⟩
  | succ j => simp at hx⟩
theorem isBuilder_of {w0 w : World} {rs : List Res} {T e : TypeId} {b : Nat} {p v : Value} {bs : List Value} {n : Nat} (h : Mem w0 w (cellsR b T #[p, v] :: rowR e 1 v n bs :: rs)) (hn : n = bs.length) (hp : p = .pointer none ∨ p = .pointer (some ⟨b, 0, none⟩)) : Lib.IsBuilder T e w0.heap.size b bs w := by
 have h1 := h.heap 0 rfl
 have h2 := h.row 1 rfl
 have h3 := h.lo 0 rfl b rfl
 have h5 : v.ownBlock ≠ some b := fun e' => (List.pairwise_cons.1 h.sep).1 (rowR e 1 v n bs) (by simp) b rfl e'
 have h6 : w.ownsRow w0.heap.size e 1 v bs.length bs := by
  subst hn
  refine ⟨h2.1, ?_⟩
  rcases h2.2 with hh | ⟨g, cap, cur, rfl, _, rest⟩
  ·exact .inl hh
  ·exact .inr ⟨g, cap, cur, rfl, h.lo 1 rfl g rfl, rest⟩
 rcases hp with rfl | rfl
 ·exact .inl ⟨h3, v, h1, h6, h5⟩
 ·exact .inr ⟨h3, v, h1, h6, h5⟩
end Go.Tre
namespace Go.Proofs.YtbafalfmgibnfaaGreatDoor.gr
open Go.RowKit Go.Maps Go.Tre
set_option maxHeartbeats 1000000 in
set_option maxRecDepth 100000 in
theorem writeByte (w0 : World) (rs : List Res) (b : Nat) (p v : Value) (l : List UInt8) (c : UInt8) (w : World) (h : Mem w0 w (cellsR b 55 #[p, v] :: rowR 5 1 v l.length (Lib.byteCells l) :: rs)) (hp : p = .pointer none ∨ p = .pointer (some ⟨b, 0, none⟩)) (hlen : l.length + 1 ≤ 140737488355328) :
  Calls Tryz.prog 28 #[.pointer (some ⟨b, 0, none⟩), .int .u8 c.toNat] w fun e w' => e = .returned .nilIface ∧ ∃ v', Mem w0 w' (cellsR b 55 #[.pointer (some ⟨b, 0, none⟩), v'] :: rowR 5 1 v' (l.length + 1) (Lib.byteCells (l ++ [c])) :: rs) := by
 obtain ⟨i0, hi, hz0, hz1, hz2⟩ := info_parts infoU8
 have CC : Calls Tryz.prog 46 #[.pointer (some ⟨b, 0, none⟩)] w fun e w' => e = .returned (.tuple #[]) ∧ Mem w0 w' (cellsR b 55 #[.pointer (some ⟨b, 0, none⟩), v] :: rowR 5 1 v l.length (Lib.byteCells l) :: rs) := by
  rcases hp with rfl | rfl
  ·refine (copyCheck_fresh b w (h.cell 0 rfl 0 rfl) (by simp [World.shape?, h.heap 0 rfl]) (h.free 0 rfl 0)).mono ?_
   rintro e w' ⟨rfl, rfl⟩
   exact ⟨rfl, h.setCell 0 rfl 0 _⟩
  ·refine (copyCheck_used b w (h.cell 0 rfl 0 rfl)).mono ?_
   rintro e w' ⟨rfl, rfl⟩
   exact ⟨rfl, h⟩
 have HCC := Tre.hid CC
 have Z1 := Tre.hid hz0
 have Z2 := Tre.hid hz1
 have Z3 := Tre.hid hz2
 clear h hp CC hz0 hz1 hz2
 go_enter Tryz.func28, Tryz.ntmps28
 go_wp2_with fail
 refine HCC.out.mono ?_
 rintro e w1 ⟨rfl, M1⟩
 have q1 := M1.cell 0 rfl 1 rfl
 have HA := Tre.hid (M1.allocR #[.int .u8 c.toNat] 5)
 have HR := Tre.hid (row_one w1 (.int .u8 c.toNat) 5)
 clear M1 HCC
 obtain ⟨a0, c0, rfl, _⟩ := HA.out.val 2 rfl
 go_wp2_with (at_builtin; refine wpList_append_row _ rfl _ _ 53 rfl 5 i0 _ 1 1 Tryz.underlying53 hi Z1.out Z2.out Z3.out rfl (by omega) (.slice a0 l.length c0) l.length (Lib.byteCells l) rfl (HA.out.row 2 rfl) (some ⟨w1.heap.size, 0, none⟩) 1 1 [.int .u8 c.toNat] rfl HR.out (by simp [Value.oneCell']) (by unfold maxLen; omega) (by omega) ?_; intro v3 w3 hown3 hgrow3 hat3; have M3 := HA.out.grow 2 rfl hgrow3 hown3 hat3; obtain ⟨a3, c3, rfl, _⟩ := M3.val 2 rfl; have q3 := M3.cell 1 rfl 1 rfl; have f3 := M3.free 1 rfl 1; have HM3 := Tre.hid M3; clear M3 hown3 hgrow3 hat3)
 have HM4 := Tre.hid ((HM3.out.setCell 1 rfl 1 (.slice a3 (l.length + 1) c3)).del 0)
 generalize w3.setCell ⟨b, 1, none⟩ (.slice a3 (l.length + 1) c3) = w4 at HM4 ⊢
 clear q3 f3
 go_wp2_with fail
 go_ret
 refine ⟨rfl, .slice a3 (l.length + 1) c3, ?_⟩
 rw [Lib.byteCells_append]
 exact HM4.out
theorem builderTextM (w0 : World) (rs : List Res) (b : Nat) (p v : Value) (l : List UInt8) (x : ByteArray) (w : World) (h : Mem w0 w (cellsR b 55 #[p, v] :: rowR 5 1 v l.length (Lib.byteCells l) :: rs)) (hp : p = .pointer none ∨ p = .pointer (some ⟨b, 0, none⟩)) (hx : x.data.toList = l) :
  Calls Tryz.prog 17 #[.pointer (some ⟨b, 0, none⟩)] w fun e w' => e = .returned (.string x) ∧ Below w0.heap.size w0 w' := by
 have hB := isBuilder_of h (by simp [Lib.byteCells]) hp
 refine (Tryz.Builder_String_any w0.heap.size b l w hB h.size).mono ?_
 rintro e w' ⟨rfl, hb⟩
 refine ⟨?_, h.below.trans hb⟩
 rw [show x = ⟨l.toArray⟩ from ByteArray.ext (by rw [← hx])]
end Go.Proofs.YtbafalfmgibnfaaGreatDoor.gr
namespace Go.Tre
open Go.RowKit Go.Maps
def u8V (c : UInt8) : Value := .int .u8 c.toNat
theorem u8V_inj (a b : UInt8) (h : u8V a = u8V b) : a = b := by
 unfold u8V at h
 have h1 : (a.toNat : Int) = (b.toNat : Int) := by injection h
 exact UInt8.toNat_inj.1 (by omega)
def toldM : UInt8 → Option UInt8 := upd (upd (upd (fun _ => none) 92 92) 34 34) 110 10
theorem toldM_is (d : UInt8) : toldM d = if d = 92 ∨ d = 34 then some d else if d = 110 then some 10 else none := by
 unfold toldM upd
 by_cases h1 : d = 110
 ·subst h1; decide
 ·by_cases h2 : d = 34
  ·subst h2; decide
  ·by_cases h3 : d = 92
   ·subst h3; decide
   ·simp [h1, h2, h3]
def quotedV (o : Option (List UInt8 × Nat)) : Value := match o with
 | some p => .tuple #[.string ⟨p.1.toArray⟩, .int .i64 p.2, .bool true]
 | none => .tuple #[.string ⟨#[]⟩, .int .i64 0, .bool false]
def QuotedPost (w : World) (D : Option (List UInt8 × Nat)) (e : Ending) (w' : World) : Prop := e = .returned (quotedV D) ∧ Below w.heap.size w w'
theorem quotedS_esc {d : UInt8} {r : List UInt8} : quotedS (92 :: d :: r) = (toldM d).bind fun y => (quotedS r).map fun p => (y :: p.1, p.2 + 2) := by
 conv => lhs; unfold quotedS
 rw [if_neg (by decide), if_pos rfl, toldM_is]
 simp only
 split
 ·rfl
 ·split
  ·rfl
  ·rfl
theorem toldM_pos {d y : UInt8} (h : toldM d = some y) : 0 < y.toNat := by
 rw [toldM_is] at h
 split at h
 ·rename_i h1
  cases h
  rcases h1 with rfl | rfl <;> decide
 ·split at h
  ·cases h; decide
  ·cases h
theorem map_map2 (o : Option (List UInt8 × Nat)) (l : List UInt8) (y : UInt8) (i k : Nat) :
  ((o.map fun p => (y :: p.1, p.2 + k)).map fun q => (l ++ q.1, i + q.2)) = o.map fun q => ((l ++ [y]) ++ q.1, i + k + q.2) := by
 cases o with
 | none => rfl
 | some q => simp; omega
theorem quotedS_end (r : List UInt8) : quotedS (34 :: r) = some ([], 1) := by unfold quotedS; rw [if_pos rfl]
theorem quotedS_one {c : UInt8} {r : List UInt8} (h1 : c ≠ 34) (h2 : c ≠ 92) : quotedS (c :: r) = (quotedS r).map fun p => (c :: p.1, p.2 + 1) := by
 conv => lhs; unfold quotedS
 rw [if_neg h1, if_neg h2]
end Go.Tre
namespace Go.Proofs.YtbafalfmgibnfaaGreatDoor.lex
open Go.RowKit Go.Maps Go.Tre
open Go.Proofs.YtbafalfmgibnfaaGreatDoor.gr (writeByte builderTextM)
theorem wf8 (c : UInt8) : (Lit.int .u8 (c.toNat : Int)).wf = true := by
 have := c.toNat_lt
 exact WalkArith.wf_u8 ⟨by omega, by omega⟩
set_option maxRecDepth 100000 in
set_option maxHeartbeats 8000000 in
theorem quoted (s : ByteArray) (w : World) (hs : s.size ≤ 4194304) :
  Calls Tryz.prog 53 #[.string s] w (QuotedPost w (quotedS s.data.toList)) := by
 obtain ⟨D, hD⟩ : ∃ D, Hid (quotedS s.data.toList = D) := ⟨_, rfl⟩
 rw [hD.out]
 have hmm := @run_makeMap Tryz.prog
 have KK := int_keyed (P := Tryz.prog) Tryz.underlying5
 have M0 := ((Mem.nil w).allocR #[.pointer none, .slice none 0 0] 55).allocMap Tryz.prog 5 u8V u8V
 simp only [World.size_alloc] at M0
 have HM0 := Tre.hid M0
 clear M0
 go_enter Tryz.func53, Tryz.ntmps53
 go_wp2_with (first
  | (refine wpList_store rfl _ _ _ 159 (.inr rfl) 5 KK u8V_inj Tryz.underlying159 rfl (HM0.out.map 0 rfl) 92 rfl (keyOf_int_mk Tryz.underlying5 (wf8 92)) 92 rfl ?_; intro w1 hm1 hg1; have HM1 := Tre.hid (HM0.out.put 0 rfl hg1 hm1); clear hm1 hg1)
  | (refine wpList_store rfl _ _ _ 159 (.inr rfl) 5 KK u8V_inj Tryz.underlying159 rfl (HM1.out.map 0 rfl) 34 rfl (keyOf_int_mk Tryz.underlying5 (wf8 34)) 34 rfl ?_; intro w2 hm2 hg2; have HM2 := Tre.hid (HM1.out.put 0 rfl hg2 hm2); clear hm2 hg2)
  | (refine wpList_store rfl _ _ _ 159 (.inr rfl) 5 KK u8V_inj Tryz.underlying159 rfl (HM2.out.map 0 rfl) 110 rfl (keyOf_int_mk Tryz.underlying5 (wf8 110)) 10 rfl ?_; intro w3 hm3 hg3; have HM3 := Tre.hid (HM2.out.put 0 rfl hg3 hm3); clear hm3 hg3))
 obtain ⟨N, HN⟩ : ∃ N, Hid (Mem w w3 [cellsR w.heap.size 55 #[.pointer none, .slice none 0 0], rowR 5 1 (.slice none 0 0) 0 [], mapR Tryz.prog 5 u8V u8V (w.heap.size + 1) N toldM]) := ⟨_, (((HM3.out.addNil 5 1).front 2 rfl).front 1 rfl).front 1 rfl⟩
 clear HM0 HM1 HM2 HM3
 go_loopw [7] (fun v7 wr => ∃ (i : Nat) (l : List UInt8) (p v : Value), i ≤ s.size ∧ v7 = .int .i64 i ∧ l.length ≤ i ∧ Hid ((p = .pointer none ∨ p = .pointer (some ⟨w.heap.size, 0, none⟩)) ∧ D = (quotedS (s.data.toList.drop i)).map fun q => (l ++ q.1, i + q.2)) ∧
   Hid (Mem w wr [cellsR w.heap.size 55 #[p, v], rowR 5 1 v l.length (Lib.byteCells l), mapR Tryz.prog 5 u8V u8V (w.heap.size + 1) N toldM])) (fun v7 _ => s.size - (intOf v7).toNat)
 case atStart => exact ⟨0, [], _, _, Nat.zero_le _, rfl, Nat.le_refl _, ⟨.inl rfl, by rw [← hD.out]; simp⟩, HN.out⟩
 case round =>
  obtain ⟨i, l, p, v, hi, rfl, hl, hI, HM⟩ := hrel
  by_cases hlt : i < s.size
  ·have hd := drop_at s i hlt
   have HD := Tre.hid hd
   clear hd
   have h255 := s[i].toNat_lt
   by_cases h34 : s[i] = 34
   ·have HR : Hid (D = some (l, i + 1)) := by
     show _ = _
     rw [hI.out.2, HD.out, h34, quotedS_end]; simp
    have e1 : ((s[i].toNat : Int) == 34) = true := by rw [h34]; rfl
    clear h34
    go_wp2_with fail
    refine (builderTextM w _ w.heap.size p v l ⟨l.toArray⟩ wr HM.out hI.out.1 (by simp)).mono ?_
    rintro e w4 ⟨rfl, hb⟩
    have HB := Tre.hid hb
    clear hb
    go_wp2_with fail
    go_ret3
    refine ⟨?_, HB.out⟩
    rw [HR.out]
    rfl
   ·have e1 : ((s[i].toNat : Int) == 34) = false := by
     rw [beq_eq_false_iff_ne]
     intro h
     exact h34 (UInt8.toNat_inj.1 (by rw [show s[i].toNat = 34 from by omega]; rfl))
    by_cases h92 : s[i] = 92
    ·have e2 : ((s[i].toNat : Int) == 92) = true := by rw [h92]; rfl
     by_cases hsz : i + 1 < s.size
     ·have e3 : ((i : Int) + 1 == (s.size : Int)) = false := by rw [beq_eq_false_iff_ne]; omega
      have hd1 := drop_at s (i + 1) hsz
      have HD1 := Tre.hid hd1
      clear hd1
      have h256 := s[i + 1].toNat_lt
      cases ht : toldM s[i + 1] with
      | none =>
       have HR : Hid (D = none) := by
        show _ = _
        rw [hI.out.2, HD.out, h92, HD1.out, quotedS_esc, ht]; rfl
       have hlk := (HM.out.map 2 rfl).run_look KK u8V_inj Tryz.underlying159 (Tryz.zeroValue5 wr) (keyOf_int_mk Tryz.underlying5 (wf8 s[i + 1]))
       rw [ht] at hlk
       simp only [u8V, Option.map_none, Option.getD_none] at hlk
       clear ht h92 h34
       go_wp2_with fail
       go_ret3
       exact ⟨by rw [HR.out]; rfl, HM.out.below⟩
      | some y =>
       have HR : Hid (D = (quotedS (s.data.toList.drop (i + 2))).map fun q => ((l ++ [y]) ++ q.1, i + 2 + q.2)) := by
        show _ = _
        rw [hI.out.2, HD.out, h92, HD1.out, quotedS_esc, ht]
        exact map_map2 _ _ _ _ _
       have hy0 : ((y.toNat : Int) == 0) = false := by
        rw [beq_eq_false_iff_ne]
        have := toldM_pos ht
        omega
       have hlk := (HM.out.map 2 rfl).run_look KK u8V_inj Tryz.underlying159 (Tryz.zeroValue5 wr) (keyOf_int_mk Tryz.underlying5 (wf8 s[i + 1]))
       rw [ht] at hlk
       simp only [u8V, zqd, Option.getD_some] at hlk
       clear ht h92 h34
       go_wp2_with fail
       refine (writeByte w _ w.heap.size p v l y wr HM.out hI.out.1 (by omega)).mono ?_
       rintro e w4 ⟨rfl, v4, M4⟩
       have HM4 := Tre.hid M4
       clear M4 hlk
       go_wp2_with fail
       go_roundw
       case rel => exact ⟨i + 2, l ++ [y], _, v4, by omega, congrArg (Value.int .i64) (by omega), by simp; omega, ⟨.inr rfl, HR.out⟩, by rw [List.length_append, List.length_singleton]; exact HM4.out⟩
       case measure => simp [intOf]; omega
     ·have hz : i + 1 = s.size := by omega
      have HR : Hid (D = none) := by
       show _ = _
       rw [hI.out.2, HD.out, h92, List.drop_of_length_le (by simp; omega)]
       rfl
      have e3 : ((i : Int) + 1 == (s.size : Int)) = true := by rw [beq_iff_eq]; omega
      clear hz h92 h34
      go_wp2_with fail
      go_ret3
      exact ⟨by rw [HR.out]; rfl, HM.out.below⟩
    ·have e2 : ((s[i].toNat : Int) == 92) = false := by
      rw [beq_eq_false_iff_ne]
      intro h
      exact h92 (UInt8.toNat_inj.1 (by rw [show s[i].toNat = 92 from by omega]; rfl))
     have HR : Hid (D = (quotedS (s.data.toList.drop (i + 1))).map fun q => ((l ++ [s[i]]) ++ q.1, i + 1 + q.2)) := by
      show _ = _
      rw [hI.out.2, HD.out, quotedS_one h34 h92]
      exact map_map2 _ _ _ _ _
     clear h92 h34
     go_wp2_with fail
     refine (writeByte w _ w.heap.size p v l s[i] wr HM.out hI.out.1 (by omega)).mono ?_
     rintro e w4 ⟨rfl, v4, M4⟩
     have HM4 := Tre.hid M4
     clear M4
     go_wp2_with fail
     go_roundw
     case rel => exact ⟨i + 1, l ++ [s[i]], _, v4, by omega, by go_num, by simp; omega, ⟨.inr rfl, HR.out⟩, by rw [List.length_append, List.length_singleton]; exact HM4.out⟩
     case measure => simp [intOf]; omega
  ·have HR : Hid (D = none) := by
    show _ = _
    rw [hI.out.2, List.drop_of_length_le (by simp; omega)]; rfl
   go_wp2_with fail
   go_ret3
   exact ⟨by rw [HR.out]; rfl, HM.out.below⟩
end Go.Proofs.YtbafalfmgibnfaaGreatDoor.lex
