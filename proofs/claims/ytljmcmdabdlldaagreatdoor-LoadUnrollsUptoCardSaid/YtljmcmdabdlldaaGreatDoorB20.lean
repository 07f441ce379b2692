/- tree.ownType. tree.walkType, verdict, CheckType. A map whose keys are pointers, that a call makes: its block stands for a partial function over addresses; the addresses' blocks are plain. A type's parts in the memory, as a table: where each of them lies. -/
import Derived.Test.YtljmcmdabdlldaaGreatDoorB16
import Derived.Test.YtljmcmdabdlldaaGreatDoorB19
import Derived.Test.YtljmcmdabdlldaaGreatDoorB05
import Derived.LaidEql
import Derived.Test.YtljmcmdabdlldaaGreatDoorB06
set_option linter.unusedVariables false
namespace Go.Tre
theorem basics_is (s : List UInt8) : (basicsB.any fun x => decide ((⟨s.toArray⟩ : ByteArray) = x)) = basics.contains s := by
 cases hb : basics.contains s
 ·rw [← Bool.not_eq_true, List.any_eq_true]
  rintro ⟨x, hx, he⟩
  have he' : (⟨s.toArray⟩ : ByteArray) = x := of_decide_eq_true he
  subst he'
  rw [← Bool.not_eq_true, List.contains_iff_mem] at hb
  refine hb ?_
  simp only [basicsB, List.mem_cons, List.not_mem_nil, or_false, ByteArray.mk.injEq] at hx
  unfold basics
  simp only [List.mem_cons, List.not_mem_nil, or_false]
  rcases hx with e | e | e | e
  ·exact .inl (by have := congrArg Array.toList e; simpa using this)
  ·exact .inr (.inl (by have := congrArg Array.toList e; simpa using this))
  ·exact .inr (.inr (.inl (by have := congrArg Array.toList e; simpa using this)))
  ·exact .inr (.inr (.inr (by have := congrArg Array.toList e; simpa using this)))
 ·exact basics_any hb
open Go.RowKit in
theorem size_alloc_cell {w0 w : World} {rs : List Res} {o : Obj} {cs : Array Value} {e : TypeId} {n size : Nat} {xs : List Value} (M : Mem w0 ((w.alloc o).alloc (.cells cs e)) (rowR e size (.slice (some ⟨(w.alloc o).heap.size, 0, none⟩) n n) n xs :: rs)) {j : Nat} {u : Value} (hj : xs[j]? = some u) : ((w.alloc o).alloc (.cells cs e)).cell? ⟨w.heap.size + 1, j, none⟩ = some u := by
 rw [← World.size_alloc w o]
 exact M.cellAt 0 rfl j hj
end Go.Tre
namespace Go.Proofs.YtljmcmdabdlldaaGreatDoor.tree
open Go.RowKit Go.Maps Go.Tre lex gr typ
set_option maxRecDepth 100000 in
set_option maxHeartbeats 8000000 in
theorem own_any (k : Nat) (s : ByteArray) (aa : Option Addr) (n ca : Nat) (al : Option Addr) (cl : Nat) (labels : List (List UInt8)) (o : Bool) (w : World) (hl : StrsAt w al (byteStrs labels)) (hlw : ((byteStrs labels).map fun s => s.size + 1).sum ≤ 8388608) (hss : s.size ≤ 8388608) (hnn : n ≤ 8388608) (hm : MaxAt w) :
  Calls Tryz.prog 61 #[.agg #[.int .i64 k, .string s, .slice aa n ca, .slice al labels.length cl, .bool o]] w fun e w' => e = .returned (.bool (ownT k s.data.toList n labels o)) ∧ Below w.heap.size w w' := by
 have HM := Tre.hid ((Mem.nil w).allocR #[.int .i64 k, .string s, .slice aa n ca, .slice al labels.length cl, .bool o] 28)
 have HL := Tre.hid (hl.below HM.out.below)
 have HX := Tre.hid hm
 have hll : labels.length ≤ 8388608 := Nat.le_trans (by have := length_le_sum (fun s : ByteArray => s.size + 1) (fun x => by omega) (byteStrs labels); simpa [byteStrs] using this) hlw
 have HRT : Hid (∀ W, Below w.heap.size w W → Calls Tryz.prog 80 #[.slice al labels.length cl] W fun e w' => e = .returned (.bool (rising (byteStrs labels))) ∧ W = w') := fun W hb => by
  have h := risingT al cl (byteStrs labels) W (hl.below hb) hlw (hm.below hb)
  rw [show (byteStrs labels).length = labels.length from List.length_map ..] at h
  exact h
 clear hl hm hlw
 by_cases h3 : k = 3
 ·have ek : ((k : Int) == 3) = true := by rw [h3]; rfl
  have eo : (0 : Int) ≤ labels.length := by omega
  by_cases hs : s.size = 0
  ·have e0 := emp1 hs
   have hs' : s.data.toList = [] := toList_empty.2 hs
   by_cases hn : labels.length = n
   ·have en : ((labels.length : Int) == (n : Int)) = true := by rw [hn]; exact beq_self_eq_true _
    have H : Hid (ownT k s.data.toList n labels o = rising (byteStrs labels)) := by show _ = _; unfold ownT; simp [h3, hs', hn]
    clear h3 hs hs' hn
    go_enter Tryz.func61, Tryz.ntmps61
    go_wp2_with fail
    refine (HRT.out _ HM.out.below).mono ?_
    rintro e w' ⟨rfl, rfl⟩
    go_wp2_with fail
    go_ret
    exact ⟨ret_bool H.out.symm, HM.out.below⟩
   ·have en : ((labels.length : Int) == (n : Int)) = false := beq_eq_false_iff_ne.2 (by omega)
    have H : Hid (ownT k s.data.toList n labels o = false) := by show _ = _; unfold ownT; simp [h3, hn]
    clear h3 hs hs' hn
    go_enter Tryz.func61, Tryz.ntmps61
    go_wp2_with fail
    go_ret
    exact ⟨ret_bool H.out.symm, HM.out.below⟩
  ·have e0 := emp0 hs
   have hs' : ¬ s.data.toList = [] := fun e => hs (toList_empty.1 e)
   have H : Hid (ownT k s.data.toList n labels o = false) := by show _ = _; unfold ownT; simp [h3, hs']
   clear h3 hs hs'
   go_enter Tryz.func61, Tryz.ntmps61
   go_wp2_with fail
   go_ret
   exact ⟨ret_bool H.out.symm, HM.out.below⟩
 ·have ek : ((k : Int) == 3) = false := beq_eq_false_iff_ne.2 (by omega)
  by_cases hl0 : 0 < labels.length
  ·have el : (0 : Int) < labels.length := by omega
   have eln : ¬ labels = [] := fun e => by rw [e] at hl0; exact absurd hl0 (by decide)
   have elm : (labels = []) = False := eq_false eln
   have H : Hid (ownT k s.data.toList n labels o = false) := by show _ = _; unfold ownT; simp [h3, hl0]
   clear h3 hl0
   go_enter Tryz.func61, Tryz.ntmps61
   go_wp2_with fail
   go_ret
   exact ⟨ret_bool H.out.symm, HM.out.below⟩
  ·obtain rfl : labels = [] := List.eq_nil_of_length_eq_zero (by omega)
   clear hl0 HRT
   cases o
   ·by_cases h1 : k = 1
    ·have e1 : ((k : Int) == 1) = true := by rw [h1]; rfl
     obtain ⟨wd, hwd⟩ : ∃ wd, (isName s || isKey s) = wd := ⟨_, rfl⟩
     have hwb : wordB s.data.toList = wd := hwd
     cases wd
     ·have H : Hid (ownT k s.data.toList n [] false = false) := by show _ = _; unfold ownT; simp [h1, hwb]
      clear h1 h3
      go_enter Tryz.func61, Tryz.ntmps61
      go_wp2_with fail
      refine (wordT s _ _ (by omega) (HX.out.below HM.out.below) hwd).mono ?_
      rintro e w' ⟨rfl, rfl⟩
      go_wp2_with fail
      go_ret
      exact ⟨ret_bool H.out.symm, HM.out.below⟩
     ·by_cases hn : n = 0
      ·have en : ((n : Int) == 0) = true := by rw [hn]; rfl
       have H : Hid (ownT k s.data.toList n [] false = true) := by show _ = _; unfold ownT; simp [h1, hwb, hn]
       clear h1 hn h3
       go_enter Tryz.func61, Tryz.ntmps61
       go_wp2_with fail
       refine (wordT s _ _ (by omega) (HX.out.below HM.out.below) hwd).mono ?_
       rintro e w' ⟨rfl, rfl⟩
       go_wp2_with fail
       go_ret
       exact ⟨ret_bool H.out.symm, HM.out.below⟩
      ·have en : ((n : Int) == 0) = false := beq_eq_false_iff_ne.2 (by omega)
       have H : Hid (ownT k s.data.toList n [] false = false) := by show _ = _; unfold ownT; simp [h1, hwb, hn]
       clear h1 hn h3
       go_enter Tryz.func61, Tryz.ntmps61
       go_wp2_with fail
       refine (wordT s _ _ (by omega) (HX.out.below HM.out.below) hwd).mono ?_
       rintro e w' ⟨rfl, rfl⟩
       go_wp2_with fail
       go_ret
       exact ⟨ret_bool H.out.symm, HM.out.below⟩
    ·have e1 : ((k : Int) == 1) = false := beq_eq_false_iff_ne.2 (by omega)
     by_cases h4 : k = 4
     ·have e4 : ((k : Int) == 4) = true := by rw [h4]; rfl
      obtain ⟨wd, hwd⟩ : ∃ wd, (isName s || isKey s) = wd := ⟨_, rfl⟩
      have hwb : wordB s.data.toList = wd := hwd
      cases wd
      ·have H : Hid (ownT k s.data.toList n [] false = false) := by show _ = _; unfold ownT; simp [h4, hwb]
       clear h4 h3
       go_enter Tryz.func61, Tryz.ntmps61
       go_wp2_with fail
       refine (wordT s _ _ (by omega) (HX.out.below HM.out.below) hwd).mono ?_
       rintro e w' ⟨rfl, rfl⟩
       go_wp2_with fail
       go_ret
       exact ⟨ret_bool H.out.symm, HM.out.below⟩
      ·by_cases hn : n = 1
       ·have en : ((n : Int) == 1) = true := by rw [hn]; rfl
        have H : Hid (ownT k s.data.toList n [] false = true) := by show _ = _; unfold ownT; simp [h4, hwb, hn]
        clear h4 hn h3
        go_enter Tryz.func61, Tryz.ntmps61
        go_wp2_with fail
        refine (wordT s _ _ (by omega) (HX.out.below HM.out.below) hwd).mono ?_
        rintro e w' ⟨rfl, rfl⟩
        go_wp2_with fail
        go_ret
        exact ⟨ret_bool H.out.symm, HM.out.below⟩
       ·have en : ((n : Int) == 1) = false := beq_eq_false_iff_ne.2 (by omega)
        have H : Hid (ownT k s.data.toList n [] false = false) := by show _ = _; unfold ownT; simp [h4, hwb, hn]
        clear h4 hn h3
        go_enter Tryz.func61, Tryz.ntmps61
        go_wp2_with fail
        refine (wordT s _ _ (by omega) (HX.out.below HM.out.below) hwd).mono ?_
        rintro e w' ⟨rfl, rfl⟩
        go_wp2_with fail
        go_ret
        exact ⟨ret_bool H.out.symm, HM.out.below⟩
     ·have e4 : ((k : Int) == 4) = false := beq_eq_false_iff_ne.2 (by omega)
      by_cases h2 : k = 2
      ·have e2 : ((k : Int) == 2) = true := by rw [h2]; rfl
       by_cases ha : s.data.toList = [45, 62]
       ·have eaa : (s.toList == [45, 62]) = true := by rw [ByteArray.toList_eq, ha]; rfl
        have eab : (s.toList = [45, 62]) = True := by rw [ByteArray.toList_eq, ha]; simp

        by_cases hn : n = 2
        ·have en : ((n : Int) == 2) = true := by rw [hn]; rfl
         have H : Hid (ownT k s.data.toList n [] false = true) := by show _ = _; unfold ownT; simp [h2, hn, ha]
         clear h2 hn h3 h1 h4 ha
         go_enter Tryz.func61, Tryz.ntmps61
         go_wp2_with fail
         go_ret
         exact ⟨ret_bool H.out.symm, HM.out.below⟩
        ·have en : ((n : Int) == 2) = false := beq_eq_false_iff_ne.2 (by omega)
         have H : Hid (ownT k s.data.toList n [] false = false) := by show _ = _; unfold ownT; simp [h2, hn, ha]
         clear h2 hn h3 h1 h4 ha
         go_enter Tryz.func61, Tryz.ntmps61
         go_wp2_with fail
         go_ret
         exact ⟨ret_bool H.out.symm, HM.out.below⟩
       ·have eaa : (s.toList == [45, 62]) = false := by rw [ByteArray.toList_eq, beq_eq_false_iff_ne]; exact ha
        have eab : (s.toList = [45, 62]) = False := by rw [ByteArray.toList_eq, eq_iff_iff, iff_false]; exact ha

        by_cases hb : s.data.toList = [42]
        ·have eba : (s.toList == [42]) = true := by rw [ByteArray.toList_eq, hb]; rfl
         have ebb : (s.toList = [42]) = True := by rw [ByteArray.toList_eq, hb]; simp

         by_cases hn : n = 2
         ·have en : ((n : Int) == 2) = true := by rw [hn]; rfl
          have H : Hid (ownT k s.data.toList n [] false = true) := by show _ = _; unfold ownT; simp [h2, hn, hb]
          clear h2 hn h3 h1 h4 ha hb
          go_enter Tryz.func61, Tryz.ntmps61
          go_wp2_with fail
          go_ret
          exact ⟨ret_bool H.out.symm, HM.out.below⟩
         ·have en : ((n : Int) == 2) = false := beq_eq_false_iff_ne.2 (by omega)
          have H : Hid (ownT k s.data.toList n [] false = false) := by show _ = _; unfold ownT; simp [h2, hn, hb]
          clear h2 hn h3 h1 h4 ha hb
          go_enter Tryz.func61, Tryz.ntmps61
          go_wp2_with fail
          go_ret
          exact ⟨ret_bool H.out.symm, HM.out.below⟩
        ·have eba : (s.toList == [42]) = false := by rw [ByteArray.toList_eq, beq_eq_false_iff_ne]; exact hb
         have ebb : (s.toList = [42]) = False := by rw [ByteArray.toList_eq, eq_iff_iff, iff_false]; exact hb

         by_cases hn : n = 0
         ·have en : ((n : Int) == 0) = true := by rw [hn]; rfl
          have MR := HM.out.allocRow #[.string ⟨#[105, 110, 116]⟩, .string ⟨#[98, 111, 111, 108]⟩, .string ⟨#[115, 116, 114, 105, 110, 103]⟩, .string ⟨#[117, 110, 105, 116]⟩] 9 1 4 (by unfold maxLen; omega) rfl
          have HR := Tre.hid MR
          have HSA : Hid (StrsAt ((w.alloc (.cells #[.int .i64 k, .string s, .slice aa n ca, .slice al ([] : List (List UInt8)).length cl, .bool false] 28)).alloc (.cells #[.string ⟨#[105, 110, 116]⟩, .string ⟨#[98, 111, 111, 108]⟩, .string ⟨#[115, 116, 114, 105, 110, 103]⟩, .string ⟨#[117, 110, 105, 116]⟩] 9)) (some ⟨w.heap.size + 1, 0, none⟩) basicsB) := ⟨rfl, fun j u hj => ⟨_, 0, rfl, by rw [Nat.zero_add]; exact (size_alloc_cell MR hj)⟩⟩
          have y4 : ((w.alloc (.cells #[.int .i64 k, .string s, .slice aa n ca, .slice al ([] : List (List UInt8)).length cl, .bool false] 28)).alloc (.cells #[.string ⟨#[105, 110, 116]⟩, .string ⟨#[98, 111, 111, 108]⟩, .string ⟨#[115, 116, 114, 105, 110, 103]⟩, .string ⟨#[117, 110, 105, 116]⟩] 9)).cell? ⟨w.heap.size, 1, none⟩ = some (.string s) := MR.cell 1 rfl 1 rfl
          obtain ⟨bc, hbc⟩ : ∃ bc, basics.contains s.data.toList = bc := ⟨_, rfl⟩
          have HBS : Hid ((basicsB.any fun x => decide ((⟨s.data.toList.toArray⟩ : ByteArray) = x)) = bc) := (basics_is s.data.toList).trans hbc
          clear MR
          have H : Hid (ownT k s.data.toList n [] false = bc) := by show _ = _; rw [← hbc]; unfold ownT; simp [h2, hn, ha, hb]
          clear hbc h2 hn h3 h1 h4 ha hb
          go_enter Tryz.func61, Tryz.ntmps61
          go_wp2_with fail
          refine (typ.containsStrs _ 4 basicsB s _ HSA.out (by decide) _ HBS.out).mono ?_
          rintro e w' ⟨rfl, rfl⟩
          go_wp2_with fail
          go_ret
          exact ⟨ret_bool H.out.symm, HR.out.below⟩
         ·have en : ((n : Int) == 0) = false := beq_eq_false_iff_ne.2 (by omega)
          have H : Hid (ownT k s.data.toList n [] false = false) := by show _ = _; unfold ownT; simp [h2, hn, ha, hb]
          clear h2 hn h3 h1 h4 ha hb
          go_enter Tryz.func61, Tryz.ntmps61
          go_wp2_with fail
          go_ret
          exact ⟨ret_bool H.out.symm, HM.out.below⟩
      ·have e2 : ((k : Int) == 2) = false := beq_eq_false_iff_ne.2 (by omega)
       have H : Hid (ownT k s.data.toList n [] false = false) := by show _ = _; unfold ownT; simp [h1, h2, h3, h4]
       clear h1 h2 h3 h4
       go_enter Tryz.func61, Tryz.ntmps61
       go_wp2_with fail
       go_ret
       exact ⟨ret_bool H.out.symm, HM.out.below⟩
   ·have H : Hid (ownT k s.data.toList n [] true = false) := by show _ = _; unfold ownT; simp [h3]
    clear h3
    go_enter Tryz.func61, Tryz.ntmps61
    go_wp2_with fail
    go_ret
    exact ⟨ret_bool H.out.symm, HM.out.below⟩
end Go.Proofs.YtljmcmdabdlldaaGreatDoor.tree
namespace Go.Tre
open Go.RowKit
inductive TyRd (w : World) : Ty → Value → Prop
 | mk {k : Nat} {s : List UInt8} {args : List Ty} {labels : List (List UInt8)} {o : Bool} {aa : Option Addr} {ca : Nat} {al : Option Addr} {cl : Nat} (V : Nat → Array Value)
   (hlab : ∀ (i : Nat) (x : List UInt8), labels[i]? = some x → ∃ b off, al = some ⟨b, off, none⟩ ∧ w.cell? ⟨b, off + i, none⟩ = some (.string ⟨x.toArray⟩))
   (hcell : ∀ i : Nat, i < args.length → ∃ b off, aa = some ⟨b, off, none⟩ ∧ (V i).size = 5 ∧ ∀ (j : Nat) (u : Value), (V i)[j]? = some u → w.cell? ⟨b, off + i * 5 + j, none⟩ = some u)
   (hargs : ∀ (i : Nat) (t : Ty), args[i]? = some t → TyRd w t (.agg (V i))) :
   TyRd w (.mk k s args labels o) (.agg #[.int .i64 k, .string ⟨s.toArray⟩, .slice aa args.length ca, .slice al labels.length cl, .bool o])
theorem TyIn.rd {w : World} {O : Nat → Prop} {t : Ty} {v : Value} (h : TyIn w O t v) : TyRd w t v := by
 induction h with
 | mk V OO hc hl hlab hcell hsub hdis hargs ih =>
  refine .mk V (fun i x hx => ?_) (fun i hi => ?_) ih
  ·obtain ⟨b, off, e, _, hcc⟩ := hlab i x hx
   exact ⟨b, off, e, hcc⟩
  ·obtain ⟨b, off, e, _, _, _, hs, hcc⟩ := hcell i hi
   exact ⟨b, off, e, hs, hcc⟩
theorem TyRd.after {w w' : World} {t : Ty} {v : Value} (h : TyRd w t v) (hb : Below w.heap.size w w') : TyRd w' t v := by
 induction h with
 | mk V hlab hcell hargs ih =>
  refine .mk V (fun i x hx => ?_) (fun i hi => ?_) ih
  ·obtain ⟨b, off, e, hcc⟩ := hlab i x hx
   exact ⟨b, off, e, cell_below hb hcc⟩
  ·obtain ⟨b, off, e, hs, hcc⟩ := hcell i hi
   exact ⟨b, off, e, hs, fun j u hu => cell_below hb (hcc j u hu)⟩
theorem TyRd.agg {w : World} {t : Ty} {v : Value} (h : TyRd w t v) : ∃ aa ca al cl, v = .agg #[.int .i64 t.kind, .string ⟨t.s.toArray⟩, .slice aa t.args.length ca, .slice al t.labels.length cl, .bool t.opn] := by
 cases h with
 | mk V => exact ⟨_, _, _, _, rfl⟩
theorem strs_rd {w : World} {al : Option Addr} {labels : List (List UInt8)}
  (h : ∀ (i : Nat) (x : List UInt8), labels[i]? = some x → ∃ b off, al = some ⟨b, off, none⟩ ∧ w.cell? ⟨b, off + i, none⟩ = some (.string ⟨x.toArray⟩)) : StrsAt w al (byteStrs labels) := by
 refine ⟨by simp, fun j u hu => ?_⟩
 rw [List.getElem?_map] at hu
 obtain ⟨y, hy, rfl⟩ := Option.map_eq_some_iff.1 hu
 unfold byteStrs at hy
 rw [List.getElem?_map] at hy
 obtain ⟨x, hx, rfl⟩ := Option.map_eq_some_iff.1 hy
 obtain ⟨b, off, e, hc⟩ := h j x hx
 exact ⟨b, off, e, hc⟩
theorem strs_of {w : World} {O : Nat → Prop} {al : Option Addr} {labels : List (List UInt8)}
  (h : ∀ (i : Nat) (x : List UInt8), labels[i]? = some x → ∃ b off, al = some ⟨b, off, none⟩ ∧ O b ∧ w.cell? ⟨b, off + i, none⟩ = some (.string ⟨x.toArray⟩)) : StrsAt w al (byteStrs labels) := by
 refine ⟨by simp, fun j u hu => ?_⟩
 rw [List.getElem?_map] at hu
 obtain ⟨y, hy, rfl⟩ := Option.map_eq_some_iff.1 hu
 unfold byteStrs at hy
 rw [List.getElem?_map] at hy
 obtain ⟨x, hx, rfl⟩ := Option.map_eq_some_iff.1 hy
 obtain ⟨b, off, e, _, hc⟩ := h j x hx
 exact ⟨b, off, e, hc⟩
theorem byteStrs_sum (l : List (List UInt8)) : ((byteStrs l).map fun s => s.size + 1).sum = (l.map fun x => x.length + 1).sum := by
 unfold byteStrs
 rw [List.map_map]
 rfl
theorem TyIn.under {w w' : World} {O : Nat → Prop} {t : Ty} {v : Value} (h : TyIn w O t v) (hO : ∀ b, O b → b < w.heap.size) (hb : Below w.heap.size w w') : TyIn w' O t v := h.keep fun b hbo => hb.block b (hO b hbo)
theorem walkTs_step {args : List Ty} {j : Nat} {t : Ty} (h : args[j]? = some t) (d : Int) : walkTs (args.drop j) d = if walkT t < 0 then -1 else walkTs (args.drop (j + 1)) (max d (walkT t)) := by
 obtain ⟨hj, rfl⟩ := List.getElem?_eq_some_iff.1 h
 rw [List.drop_eq_getElem_cons hj, walkTs]
end Go.Tre
namespace Go.Proofs.YtljmcmdabdlldaaGreatDoor.tree
open Go.RowKit Go.Maps Go.Tre lex gr typ
set_option maxRecDepth 100000 in
set_option maxHeartbeats 8000000 in
theorem walk_any (N : Nat) : ∀ (t : Ty) (v : Value) (w : World), t.weight ≤ N → t.weight ≤ 4194304 → TyRd w t v → MaxAt w →
  Calls Tryz.prog 43 #[v] w fun e w' => e = .returned (.int .i64 (walkT t)) ∧ Below w.heap.size w w' := by
 induction N with
 | zero =>
  intro t v w h
  have := weight_pos t
  omega
 | succ N ih =>
  intro t v w hN hW hT hm
  cases hT with
  | @mk k s args labels o aa ca al cl V hlab hcell hargs =>
  rw [Ty.weight] at hN hW
  have IH := Tre.hid ih
  have HS := Tre.hid (strs_rd hlab)
  have HCE := Tre.hid hcell
  have HAR := Tre.hid hargs
  have hlw : ((byteStrs labels).map fun s => s.size + 1).sum ≤ 8388608 := by rw [byteStrs_sum]; omega
  have hal : args.length ≤ 4194304 := Nat.le_trans (weights_len args) (by omega)
  have hwN : weights args ≤ N := by omega
  have hwW : weights args ≤ 4194303 := by omega
  have hss : s.length ≤ 4194304 := by omega
  have M0 := (Mem.nil w).allocR #[.int .i64 k, .string ⟨s.toArray⟩, .slice aa args.length ca, .slice al labels.length cl, .bool o] 28
  have HM := Tre.hid M0
  have HX := Tre.hid hm
  have HOW := Tre.hid (own_any k ⟨s.toArray⟩ aa args.length ca al cl labels o _ ((HS.out).below M0.below) hlw (by show s.toArray.size ≤ _; simp; omega) (by omega) (hm.below M0.below))
  have HWT : Hid (walkT (.mk k s args labels o) = if ownT k s args.length labels o = true then (if walkTs args 0 < 0 then -1 else walkTs args 0 + 1) else -1) := by show _ = _; rw [walkT]
  have HWW := Tre.hid (walkTs_weight args 0)
  have HWD := Tre.hid (fun (i : Nat) (t : Ty) (h : args[i]? = some t) => weights_at h)
  clear ih hlab hcell hargs hm hN hW hlw M0
  generalize hWR : walkT (.mk k s args labels o) = R at *
  clear hWR
  have hown' : (⟨s.toArray⟩ : ByteArray).data.toList = s := rfl
  rw [hown'] at HOW
  clear hown'
  cases hown : ownT k s args.length labels o
  ·rw [hown] at HOW HWT
   have HR : Hid (R = -1) := HWT.out
   clear HWT hown
   go_enter Tryz.func43, Tryz.ntmps43
   go_wp2_with fail
   refine HOW.out.mono ?_
   rintro e w1 ⟨rfl, b1⟩
   have HM1 := Tre.hid (HM.out.quiet b1)
   go_wp2_with fail
   go_ret
   exact ⟨ret_int HR.out.symm, HM1.out.below⟩
  ·rw [hown] at HOW HWT
   have HR : Hid (R = if walkTs args 0 < 0 then -1 else walkTs args 0 + 1) := HWT.out
   clear HWT hown
   go_enter Tryz.func43, Tryz.ntmps43
   go_wp2_with fail
   refine HOW.out.mono ?_
   rintro e w1 ⟨rfl, b1⟩
   have M1 := HM.out.quiet b1
   have c2 : w1.cell? ⟨w.heap.size, 2, none⟩ = some (.slice aa args.length ca) := M1.cell 0 rfl 2 rfl
   have HM1 := Tre.hid M1
   clear M1 b1 HOW HM
   go_wp2_with fail
   go_loopw [3, 13] (fun d i wr => ∃ (j : Nat) (dd : Int), j ≤ args.length ∧ i = .int .i64 j ∧ d = .int .i64 dd ∧ 0 ≤ dd ∧ dd ≤ 4194303 ∧ Hid (walkTs args 0 = walkTs (args.drop j) dd) ∧ Hid (Below w.heap.size w wr)) (fun _ i _ => args.length - (intOf i).toNat)
   case atStart => exact ⟨0, 0, Nat.zero_le _, rfl, rfl, Int.le_refl _, by omega, by show _ = _; rw [List.drop_zero], HM1.out.below⟩
   case round =>
    obtain ⟨j, dd, hj, rfl, rfl, hd0, hd1, HWS, HB⟩ := hrel
    clear c2
    by_cases hlt : j < args.length
    ·obtain ⟨tj, htj⟩ : ∃ tj, args[j]? = some tj := ⟨_, List.getElem?_eq_getElem hlt⟩
     obtain ⟨b, off, rfl, h5, hcc⟩ := HCE.out j hlt
     have hTj := HAR.out j tj htj
     obtain ⟨aj, cj, alj, clj, ej⟩ := hTj.agg
     have eV : V j = #[.int .i64 tj.kind, .string ⟨tj.s.toArray⟩, .slice aj tj.args.length cj, .slice alj tj.labels.length clj, .bool tj.opn] := by injection ej
     have hcell : ∀ (q : Nat) (u : Value), (V j)[q]? = some u → wr.cell? ⟨b, off + j * 5 + q, none⟩ = some u := fun q u hu => cell_below HB.out (hcc q u hu)
     rw [eV] at hcell hTj
     have y0 : wr.cell? ⟨b, off + j * 5, none⟩ = some (.int .i64 tj.kind) := hcell 0 _ rfl
     have y1 := hcell 1 (.string ⟨tj.s.toArray⟩) rfl
     have y2 := hcell 2 (.slice aj tj.args.length cj) rfl
     have y3 := hcell 3 (.slice alj tj.labels.length clj) rfl
     have y4 := hcell 4 (.bool tj.opn) rfl
     have hwt := HWD.out j tj htj
     have hB2 : Below w.heap.size w (wr.alloc (.cells #[.int .i64 tj.kind, .string ⟨tj.s.toArray⟩, .slice aj tj.args.length cj, .slice alj tj.labels.length clj, .bool tj.opn] 28)) := HB.out.trans ((Below.refl wr.heap.size wr).alloc (Nat.le_refl _) _ |>.mono HB.out.size)
     have HCA := Tre.hid (IH.out tj _ _ (by omega) (by omega) (hTj.after hB2) (HX.out.below hB2))
     have HB2 := Tre.hid hB2
     have HST := Tre.hid (walkTs_step htj dd)
     have hwl := walkT_low tj
     have hwu := walkT_weight tj
     generalize hWJ : walkT tj = wj at *
     clear hWJ hcc hcell hTj ej eV h5 hB2 htj
     by_cases hneg : wj < 0
     ·have HRR : Hid (R = -1) := by
       show _ = _
       rw [HR.out, HWS.out, HST.out, if_pos hneg]; rfl
      go_wp2_with fail
      refine HCA.out.mono ?_
      rintro e w2 ⟨rfl, b2⟩
      have HB3 := Tre.hid (HB2.out.trans (b2.mono HB2.out.size))
      go_wp2_with fail
      go_ret
      exact ⟨ret_int HRR.out.symm, HB3.out⟩
     ·have HWS2 : Hid (walkTs args 0 = walkTs (args.drop (j + 1)) (max dd wj)) := by
       show _ = _
       rw [HWS.out, HST.out, if_neg hneg]
      have hmx0 : 0 ≤ max dd wj := by omega
      have hmx1 : max dd wj ≤ 4194303 := by omega
      go_wp2_with fail
      refine HCA.out.mono ?_
      rintro e w2 ⟨rfl, b2⟩
      have HB3 := Tre.hid (HB2.out.trans (b2.mono HB2.out.size))
      go_wp2_with fail
      go_roundw
      case rel => exact ⟨j + 1, max dd wj, by omega, by go_num, rfl, hmx0, hmx1, HWS2.out, HB3.out⟩
      case measure => simp [intOf]; omega
    ·have e : args.drop j = [] := List.drop_eq_nil_of_le (by omega)
     have HRR : Hid (R = dd + 1) := by
      show _ = _
      rw [HR.out, HWS.out, e, walkTs, if_neg (by omega)]
     have ewr : IntKind.i64.wrap (dd + 1) = dd + 1 := IntWalk.i64_in _ (by omega)
     clear e
     go_wp2_with fail
     go_ret
     exact ⟨ret_int HRR.out.symm, HB.out⟩
set_option maxHeartbeats 1000000 in
theorem verdict_any (d : Int) (w : World) : Calls Tryz.prog 42 #[.int .i64 d] w fun e w' => e = .returned (.int .i64 (verdictI d)) ∧ w = w' := by
 by_cases h0 : d < 0
 ·have H : Hid (verdictI d = 2) := by show _ = _; unfold verdictI; rw [if_pos h0]
  go_enter Tryz.func42, Tryz.ntmps42
  go_wp2_with fail
  go_ret
  exact ⟨ret_int H.out.symm, rfl⟩
 ·by_cases h1 : 200 < d
  ·have H : Hid (verdictI d = 4) := by show _ = _; unfold verdictI; rw [if_neg h0, if_pos h1]
   go_enter Tryz.func42, Tryz.ntmps42
   go_wp2_with fail
   go_ret
   exact ⟨ret_int H.out.symm, rfl⟩
  ·have H : Hid (verdictI d = 0) := by show _ = _; unfold verdictI; rw [if_neg h0, if_neg h1]
   go_enter Tryz.func42, Tryz.ntmps42
   go_wp2_with fail
   go_ret
   exact ⟨ret_int H.out.symm, rfl⟩
set_option maxRecDepth 100000 in
set_option maxHeartbeats 2000000 in
theorem check_rd (t : Ty) (v : Value) (w : World) (hW : t.weight ≤ 4194304) (hT : TyRd w t v) (hm : MaxAt w) :
  Calls Tryz.prog 20 #[v] w fun e w' => e = .returned (.int .i64 (verdictI (walkT t))) ∧ Below w.heap.size w w' := by
 obtain ⟨aa, ca, al, cl, rfl⟩ := hT.agg
 have M0 := (Mem.nil w).allocR #[.int .i64 t.kind, .string ⟨t.s.toArray⟩, .slice aa t.args.length ca, .slice al t.labels.length cl, .bool t.opn] 28
 have HW := Tre.hid (walk_any t.weight t _ _ (Nat.le_refl _) hW (hT.after M0.below) (hm.below M0.below))
 have HM := Tre.hid M0
 generalize walkT t = d at *
 clear hT hm hW M0
 go_enter Tryz.func20, Tryz.ntmps20
 go_wp2_with fail
 refine HW.out.mono ?_
 rintro e w1 ⟨rfl, b1⟩
 have HM1 := Tre.hid (HM.out.quiet b1)
 go_wp2_with fail
 refine (verdict_any d _).mono ?_
 rintro e w2 ⟨rfl, rfl⟩
 go_wp2_with fail
 go_ret
 exact ⟨rfl, HM1.out.below⟩
theorem check_type (t : Ty) (O : Nat → Prop) (v : Value) (w : World) (hW : t.weight ≤ 4194304) (hT : TyIn w O t v) (_ : ∀ b, O b → b < w.heap.size) (hm : MaxAt w) :
  Calls Tryz.prog 20 #[v] w fun e w' => e = .returned (.int .i64 (verdictI (walkT t))) ∧ Below w.heap.size w w' := check_rd t v w hW hT.rd hm
end Go.Proofs.YtljmcmdabdlldaaGreatDoor.tree
namespace Go.Tre
open Go.RowKit Go.Maps Go.MapKept Go.ChangeMaps
def PlainAt (w : World) (a : Addr) : Prop := ∃ cs T, w.heap[a.block]? = some (.cells cs T (0, 0))
theorem PlainAt.below {w w' : World} {a : Addr} (h : PlainAt w a) (hb : Below w.heap.size w w') : PlainAt w' a := by
 obtain ⟨cs, T, h⟩ := h
 exact ⟨cs, T, (hb.block _ (Array.getElem?_eq_some_iff.1 h).1).trans h⟩
def PMap (w : World) (b n : Nat) (m : Addr → Option Nat) : Prop :=
 ∃ es clock, w.heap[b]? = some (.map es clock) ∧ es.size = n ∧ Stamped es clock ∧
  (∀ e ∈ es.toList, ∃ (a : Addr) (x : Nat), e.key = .pointer (some a) ∧ e.val = .int .i64 (x : Int) ∧ m a = some x) ∧
  (∀ (a : Addr) (x : Nat), m a = some x → ∃ e ∈ es.toList, e.key = .pointer (some a) ∧ e.val = .int .i64 (x : Int))
theorem PMap.made (w : World) : PMap (w.alloc (.map #[] 0)) w.heap.size 0 (fun _ => none) :=
 ⟨#[], 0, (MapKept.heap_alloc w _).1, rfl, stamped_empty 0, by simp, by simp⟩
section
variable {P : Program} {w : World} {b n : Nat} {m : Addr → Option Nat} {t k e0 te : TypeId} {j0 : TypeInfo}
theorem run_equal_same (a : Addr) (hp : P.underlying k = some (.pointer te)) (hte : P.info? te = some j0) : (Op.equal k (.pointer (some a)) (.pointer (some a))).run P w = .ok true w := by
 have h : ∀ d : Nat, (Op.equalIn (d + 1) k (.pointer (some a)) (.pointer (some a))).run P w = .ok true w := fun d => by
  simp [Op.equalIn, run_underlying hp, sizeOf, typeInfo, hte, run_sameAddr_same]
 simp [Op.equal, Op.maxDepth, h 9999]
theorem run_equal_other {a c : Addr} (hp : P.underlying k = some (.pointer te)) (hte : P.info? te = some j0) (hsz : j0.size ≠ 0) (hne : a ≠ c) (ha : PlainAt w a) (hc : PlainAt w c) : (Op.equal k (.pointer (some a)) (.pointer (some c))).run P w = .ok false w := by
 obtain ⟨_, _, ha⟩ := ha
 obtain ⟨_, _, hc⟩ := hc
 have h : ∀ d : Nat, (Op.equalIn (d + 1) k (.pointer (some a)) (.pointer (some c))).run P w = .ok false w := fun d => by
  simp [Op.equalIn, run_underlying hp, sizeOf, typeInfo, hte, hsz, run_sameAddr_other w hne ha hc]
 simp [Op.equal, Op.maxDepth, h 9999]
theorem asking (hp : P.underlying k = some (.pointer te)) (hte : P.info? te = some j0) (hsz : j0.size ≠ 0) {a : Addr} (ha : PlainAt w a) : ∀ (es : List MapEntry) (i : Nat), (∀ e ∈ es, ∃ (c : Addr) (x : Nat), e.key = .pointer (some c) ∧ e.val = .int .i64 ((x : Nat) : Int) ∧ PlainAt w c) →
  ((Instr.findAsking k (.pointer (some a)) es i).run P w = .ok none w ∧ ∀ e ∈ es, e.key ≠ .pointer (some a)) ∨ ∃ j e, (Instr.findAsking k (.pointer (some a)) es i).run P w = .ok (some (i + j, e.val)) w ∧ es[j]? = some e ∧ e.key = .pointer (some a)
 | [], i, _ => .inl ⟨by simp [Instr.findAsking], by simp⟩
 | e :: es, i, h => by
  obtain ⟨c, x, hk, _, hc⟩ := h e (by simp)
  by_cases hac : a = c
  ·subst hac
   refine .inr ⟨0, e, ?_, rfl, hk⟩
   simp [Instr.findAsking, hk, run_equal_same a hp hte, Result.andThen]
  ·have hf := run_equal_other hp hte hsz hac ha hc
   have hne : e.key ≠ .pointer (some a) := by rw [hk]; intro e2; injection e2 with e2; injection e2 with e2; exact hac e2.symm
   rcases asking hp hte hsz ha es (i + 1) (fun e he => h e (by simp [he])) with ⟨h1, h2⟩ | ⟨j, e', h1, h2, h3⟩
   ·refine .inl ⟨by simp [Instr.findAsking, hk, hf, h1, Result.andThen], fun y hy => ?_⟩
    rcases List.mem_cons.1 hy with rfl | hy
    ·exact hne
    ·exact h2 y hy
   ·exact .inr ⟨j + 1, e', by simp [Instr.findAsking, hk, hf, h1, Result.andThen]; omega, by simpa using h2, h3⟩
theorem PMap.find (h : PMap w b n m) (hp : P.underlying k = some (.pointer te)) (hte : P.info? te = some j0) (hsz : j0.size ≠ 0) {a : Addr} (ha : PlainAt w a) (hm : ∀ (c : Addr) (x : Nat), m c = some x → PlainAt w c) :
  ∃ es clock, w.heap[b]? = some (.map es clock) ∧ es.size = n ∧ Stamped es clock ∧
  ((m a = none ∧ (Instr.findKey k (.pointer (some a)) es.toList).run P w = .ok none w ∧ ∀ e ∈ es.toList, e.key ≠ .pointer (some a)) ∨
   (∃ x j, m a = some x ∧ (Instr.findKey k (.pointer (some a)) es.toList).run P w = .ok (some (j, .int .i64 (x : Int))) w)) := by
 obtain ⟨es, clock, hb, hn, hst, h1, h2⟩ := h
 refine ⟨es, clock, hb, hn, hst, ?_⟩
 have hall : ∀ e ∈ es.toList, ∃ (c : Addr) (x : Nat), e.key = .pointer (some c) ∧ e.val = .int .i64 ((x : Nat) : Int) ∧ PlainAt w c := fun e he => by
  obtain ⟨c, x, e1, e2, e3⟩ := h1 e he
  exact ⟨c, x, e1, e2, hm c x e3⟩
 have hkey : (Instr.findKey k (.pointer (some a)) es.toList).run P w = (Instr.findAsking k (.pointer (some a)) es.toList 0).run P w := by
  cases hl : es.toList with
  | nil => simp [Instr.findKey, run_underlying hp, Instr.findNow, Instr.findAsking, Result.andThen]
  | cons e r =>
   obtain ⟨c, x, e1, _⟩ := h1 e (by rw [hl]; simp)
   simp [Instr.findKey, run_underlying hp, Instr.findNow, e1, Instr.sameNow, Result.andThen]
 rw [hkey]
 rcases asking hp hte hsz ha es.toList 0 hall with ⟨r1, r2⟩ | ⟨j, e, r1, r2, r3⟩
 ·refine .inl ⟨?_, r1, r2⟩
  cases hma : m a with
  | none => rfl
  | some x =>
   obtain ⟨e, he, e1, _⟩ := h2 a x hma
   exact (r2 e he e1).elim
 ·obtain ⟨c, x, e1, e2, e3⟩ := h1 e (List.mem_of_getElem? r2)
  rw [e1] at r3
  injection r3 with r3
  injection r3 with r3
  subst r3
  exact .inr ⟨x, 0 + j, e3, by rw [r1, e2]⟩
theorem check_ptr (w : World) (em : Bool) (a : Addr) (hp : P.underlying k = some (.pointer te)) : (Instr.checkKey em 10000 k (.pointer (some a))).run P w = .ok () w := by
 show (Instr.checkKey em (9999 + 1) k _).run P w = _
 unfold Instr.checkKey
 simp [run_underlying hp, Result.andThen]
theorem PMap.run_look_ok (h : PMap w b n m) (ht : P.underlying t = some (.map k e0)) (hp : P.underlying k = some (.pointer te)) (hte : P.info? te = some j0) (hsz : j0.size ≠ 0) (hz : (zeroValue e0).run P w = .ok (.int .i64 0) w) {a : Addr} (ha : PlainAt w a) (hm : ∀ (c : Addr) (x : Nat), m c = some x → PlainAt w c) :
  (Instr.lookup t (.map (some b)) (.pointer (some a)) true).run P w = .ok (match m a with | some x => .tuple #[.int .i64 (x : Int), .bool true] | none => .tuple #[.int .i64 0, .bool false]) w := by
 obtain ⟨es, clock, hb, _, _, ⟨hma, r1, _⟩ | ⟨x, j, hma, r1⟩⟩ := h.find hp hte hsz ha hm
 ·simp [Instr.lookup, run_underlying ht, MapKept.run_getObj_map hb, check_ptr w _ a hp, r1, hz, hma, Result.andThen]
 ·simp [Instr.lookup, run_underlying ht, MapKept.run_getObj_map hb, check_ptr w _ a hp, r1, hma, Result.andThen]
theorem PMap.run_store (h : PMap w b n m) (ht : P.underlying t = some (.map k e0)) (hp : P.underlying k = some (.pointer te)) (hte : P.info? te = some j0) (hsz : j0.size ≠ 0) {a : Addr} (ha : PlainAt w a) (hm : ∀ (c : Addr) (x : Nat), m c = some x → PlainAt w c) (hno : m a = none) (x : Nat) :
  ∃ w', (Instr.mapUpdate t (.map (some b)) (.pointer (some a)) (.int .i64 (x : Int))).run P w = .ok () w' ∧ PMap w' b (n + 1) (upd m a x) ∧ w.grownBy w' (some b) := by
 have h0 := h
 obtain ⟨es, clock, hb, hn, hst, h1, h2⟩ := h0
 obtain ⟨es', clock', hb', _, _, ⟨_, r1, r2⟩ | ⟨y, j, hma, _⟩⟩ := h.find hp hte hsz ha hm
 ·rw [hb] at hb'
  cases hb'
  refine ⟨setBlock w b (.map (es.push ⟨.pointer (some a), .int .i64 (x : Int), clock⟩) (clock + 1)), ?_, ⟨_, _, heap_setBlock_same hb _, by simp [hn], stamped_push hst r2, ?_, ?_⟩, ⟨rfl, rfl, rfl, by simp [setBlock], fun i _ hi => heap_setBlock_other hb _ (fun e => hi (by rw [e]))⟩⟩
  ·simp [Instr.mapUpdate, run_underlying ht, MapKept.run_getObj_map hb, check_ptr w false a hp, r1, MapKept.run_setObj_map _ hb, Result.andThen, setBlock]
  ·intro e he
   simp only [Array.toList_push, List.mem_append, List.mem_singleton] at he
   rcases he with he | rfl
   ·obtain ⟨c, y, e1, e2, e3⟩ := h1 e he
    have hne : c ≠ a := fun e4 => by subst e4; rw [hno] at e3; cases e3
    exact ⟨c, y, e1, e2, by simp [upd, hne, e3]⟩
   ·exact ⟨a, x, rfl, rfl, by simp [upd]⟩
  ·intro c y hc
   simp only [Array.toList_push, List.mem_append, List.mem_singleton]
   by_cases hne : c = a
   ·subst hne
    simp [upd] at hc
    subst hc
    exact ⟨_, .inr rfl, rfl, rfl⟩
   ·simp [upd, hne] at hc
    obtain ⟨e, he, e1, e2⟩ := h2 c y hc
    exact ⟨e, .inl he, e1, e2⟩
 ·rw [hno] at hma; cases hma
end
def pmapR (b n : Nat) (m : Addr → Option Nat) : Res where
 own b' := b' = b
 P w := PMap w b n m
 stable w w' h hs := by
  obtain ⟨es, clock, hb, r⟩ := h
  exact ⟨es, clock, (hs b rfl).trans hb, r⟩
 has w h b' hb := by
  subst hb
  obtain ⟨es, clock, hb, _⟩ := h
  exact (Array.getElem?_eq_some_iff.1 hb).1
section
variable {w0 w w' : World} {rs : List Res}
theorem Mem.allocPMap (h : Mem w0 w rs) : Mem w0 (w.alloc (.map #[] 0)) (pmapR w.heap.size 0 (fun _ => none) :: rs) :=
 h.add (World.grownBy_alloc w _ none) (pmapR _ _ _) (PMap.made w) (fun _ hb => Nat.le_of_eq hb.symm)
theorem Mem.pmap {b n : Nat} {m : Addr → Option Nat} (h : Mem w0 w rs) (i : Nat) (hi : rs[i]? = some (pmapR b n m)) : PMap w b n m := h.at_ i hi
theorem Mem.putP {b n n' : Nat} {m m' : Addr → Option Nat} (h : Mem w0 w rs) (i : Nat) (hi : rs[i]? = some (pmapR b n m)) (hg : w.grownBy w' (some b)) (hm : PMap w' b n' m') : Mem w0 w' (rs.set i (pmapR b n' m')) :=
 h.set_row i hi hg (fun k e => by cases e; rfl) _ hm (fun b' hb => .inl hb)
end
end Go.Tre
namespace Go.Tre
open Go.RowKit
def EntAt (w : World) (ad : Nat → Addr) (i : Nat) (e : Ent) : Prop :=
 ∃ b off aa ca al cl, ad i = ⟨b, off, none⟩ ∧ w.cell? ⟨b, off, none⟩ = some (.int .i64 e.kind) ∧ w.cell? ⟨b, off + 1, none⟩ = some (.string ⟨e.s.toArray⟩) ∧ w.cell? ⟨b, off + 2, none⟩ = some (.slice aa e.args.length ca) ∧
  w.cell? ⟨b, off + 3, none⟩ = some (.slice al e.labels.length cl) ∧ w.cell? ⟨b, off + 4, none⟩ = some (.bool e.opn) ∧ StrsAt w al (byteStrs e.labels) ∧ PlainAt w ⟨b, off, none⟩ ∧
  ∀ (j x : Nat), e.args[j]? = some x → ∃ b' off', aa = some ⟨b', off', none⟩ ∧ ad x = ⟨b', off' + j * 5, none⟩
theorem EntAt.below {w w' : World} {ad : Nat → Addr} {i : Nat} {e : Ent} (h : EntAt w ad i e) (hb : Below w.heap.size w w') : EntAt w' ad i e := by
 obtain ⟨b, off, aa, ca, al, cl, h0, h1, h2, h3, h4, h5, h6, hp, h7⟩ := h
 exact ⟨b, off, aa, ca, al, cl, h0, cell_below hb h1, cell_below hb h2, cell_below hb h3, cell_below hb h4, cell_below hb h5, h6.below hb, hp.below hb, h7⟩
structure EntsAt (w : World) (T : List Ent) (ad : Nat → Addr) : Prop where
 at_ : ∀ i e, T[i]? = some e → EntAt w ad i e
 inj : ∀ i j, i < T.length → j < T.length → ad i = ad j → i = j
theorem EntsAt.below {w w' : World} {T : List Ent} {ad : Nat → Addr} (h : EntsAt w T ad) (hb : Below w.heap.size w w') : EntsAt w' T ad := ⟨fun i e he => (h.at_ i e he).below hb, h.inj⟩
def pv (ad : Nat → Addr) (i : Nat) : Value := .pointer (some (ad i))
end Go.Tre
