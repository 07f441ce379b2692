/- canon.refine: its classes, one by one. Nodes of whatever memory, as values; slices of them that are copied. -/
import Derived.Test.YtaleodkbghogfaaGreatDoorB34
import Derived.Test.YtaleodkbghogfaaGreatDoorB05
import Derived.Test.YtaleodkbghogfaaGreatDoorB07
import Derived.Test.YtaleodkbghogfaaGreatDoorB26
set_option linter.unusedVariables false
namespace Go.Tre
open Go.RowKit Go.Maps
open Go.Lib (decDigits itoa)
open Go.Proofs.YtaleodkbghogfaaGreatDoor.gr (rk)
def firstM (K : Nat → List UInt8) (k : Nat) : ByteArray → Option Nat := fun s => if s.data.toList ∈ (List.range k).map K then some (((List.range k).map K).idxOf s.data.toList) else none
def mkB (l : List UInt8) : ByteArray := ⟨l.toArray⟩
theorem mkB_data (l : List UInt8) : (mkB l).data.toList = l := by simp [mkB]
theorem first_zero (K : Nat → List UInt8) : firstM K 0 = fun _ => none := by funext s; simp [firstM]
theorem first_new {K : Nat → List UInt8} {k : Nat} (h : K k ∉ (List.range k).map K) : firstM K k (mkB (K k)) = none ∧ upd (firstM K k) (mkB (K k)) k = firstM K (k + 1) ∧ ((List.range k).map K).idxOf (K k) = k := by
 refine ⟨by unfold firstM; rw [mkB_data, if_neg h], ?_, ?_⟩
 ·funext s
  unfold upd firstM
  rw [List.range_succ, List.map_append]
  by_cases hs : s = mkB (K k)
  ·subst hs
   rw [if_pos rfl, mkB_data, if_pos (by simp), List.idxOf_append, if_neg h]
   simp
  ·have hne : s.data.toList ≠ K k := fun e => hs (data_inj (by rw [mkB_data]; exact e))
   rw [if_neg hs]
   by_cases hm : s.data.toList ∈ (List.range k).map K
   ·rw [if_pos hm, if_pos (List.mem_append.2 (.inl hm)), List.idxOf_append, if_pos hm]
   ·rw [if_neg hm, if_neg (by rw [List.mem_append]; rintro (e | e); exact hm e; simp at e; exact hne e)]
 ·have := List.idxOf_eq_length h
  rw [this]; simp
theorem first_old {K : Nat → List UInt8} {k : Nat} (h : K k ∈ (List.range k).map K) : firstM K k (mkB (K k)) = some (((List.range k).map K).idxOf (K k)) ∧ firstM K k = firstM K (k + 1) := by
 refine ⟨by unfold firstM; rw [mkB_data, if_pos h], ?_⟩
 funext s
 unfold firstM
 rw [List.range_succ, List.map_append]
 by_cases hm : s.data.toList ∈ (List.range k).map K
 ·rw [if_pos hm, if_pos (List.mem_append.2 (.inl hm)), List.idxOf_append, if_pos hm]
 ·have hne : s.data.toList ≠ K k := fun e => hm (by rw [e]; exact h)
  rw [if_neg hm, if_neg (by rw [List.mem_append]; rintro (e | e); exact hm e; simp at e; exact hne e)]
def doneL (f : Nat → Nat) (n k : Nat) : List Value := (List.range n).map fun i => rk (if i < k then f i else 0)
theorem doneL_zero (f : Nat → Nat) (n : Nat) : doneL f n 0 = (List.replicate n 0).map rk := by
 unfold doneL
 apply List.ext_getElem <;> simp
theorem doneL_all (f : Nat → Nat) (n : Nat) : doneL f n n = ((List.range n).map f).map rk := by
 unfold doneL
 rw [List.map_map]
 apply List.map_congr_left
 intro i hi
 simp [List.mem_range.1 hi]
theorem doneL_set (f : Nat → Nat) {n k : Nat} (_h : k < n) : (doneL f n k).set k (rk (f k)) = doneL f n (k + 1) := by
 unfold doneL
 apply List.ext_getElem
 ·simp
 ·intro i h1 h2
  rw [List.getElem_set, List.getElem_map, List.getElem_map, List.getElem_range]
  by_cases e : k = i
  ·subst e; simp
  ·have : (i < k) = (i < k + 1) := by apply propext; omega
   rw [if_neg e]; simp only [this]
theorem doneL_len (f : Nat → Nat) (n k : Nat) : (doneL f n k).length = n := by simp [doneL]
theorem look_len {n : Tre.Node} {cl : Nat → Nat} (hc : ∀ a, cl a ≤ 8388608) (hk : n.kind = 1 ∨ n.kind = 2 ∨ n.kind = 3) : (lookL n cl).length ≤ 1 + 23 * n.weight := by
 rw [look_tail _ _ hk]
 have h1 := argText_len hc n.args
 have h2 := labText_len n.labels
 unfold tailL
 unfold argText at h1
 unfold labText at h2
 unfold Node.weight
 simp only [List.length_append, List.length_cons, ← Lib.size_eq] at *
 omega
end Go.Tre
namespace Go.Proofs.YtaleodkbghogfaaGreatDoor.gr
open Go.RowKit Go.Shelf Go.Maps Go.Tre lex
open Go.Lib (decDigits itoa)
theorem infoInt : (Tryz.prog.info? 3).map (fun i => (i.zero, i.size, i.bytes)) = some (some (.int .i64 0), 1, 8) := by kernel_rfl
theorem made_ints (w : World) (n : Nat) (hn : n ≤ 2097152) : ∃ wm, (Instr.makeSlice 30 (.int .i64 (n : Int)) (.int .i64 (n : Int))).run Tryz.prog w = .ok (.slice (some ⟨w.heap.size, 0, none⟩) n n) wm ∧
  ∀ (w0 : World) (rs : List Res), Mem w0 w rs → Mem w0 wm (rowR 3 1 (.slice (some ⟨w.heap.size, 0, none⟩) n n) n ((List.replicate n 0).map rk) :: rs) := by
 obtain ⟨ti, T1, T2, T3, T4⟩ := info_parts infoInt
 obtain ⟨wm, hmk, hmo, hmg⟩ := run_make_full (P := Tryz.prog) w 0 30 3 ti _ 1 Tryz.underlying30 T1 T2 T3 .i64 .i64 n (by rw [T4]; omega) (by unfold maxLen; omega) (Nat.zero_le _)
 refine ⟨wm, hmk, fun w0 rs M => ?_⟩
 have e9 : (madeCells (Value.int .i64 0).cells (n * 1)).toList = (List.replicate n 0).map rk := by
  rw [show (Value.int .i64 0).cells = #[Value.int .i64 0] from rfl, toList_madeCells_one, Nat.mul_one, List.map_replicate]; rfl
 rw [e9] at hmo
 exact M.add hmg (rowR 3 1 _ n _) hmo (fun b hb => by have : some w.heap.size = some b := hb; cases this; exact Nat.le_refl _)

set_option maxRecDepth 100000 in
set_option maxHeartbeats 8000000 in
theorem refine_any (a : Option Addr) (ca : Nat) (g : Tre.Graph) (ac : Option Addr) (cc : Nat) (L : List Nat) (w : World) (hg : NodesAt w a g.ns) (c0 : g.checkC = 0) (wg : g.weight ≤ 2097152) (hc : IntsAt w ac (L.map fun k : Nat => (k : Int))) (hlen : L.length = g.ns.length) (hL : ∀ y ∈ L, y ≤ 8388608) (ht : TabAt w) :
  Calls Tryz.prog 32 #[.agg #[.slice a g.ns.length ca, .int .i64 g.root], .slice ac L.length cc] w fun e w' =>
   ∃ v, e = .returned v ∧ Mem w w' [rowR 3 1 v g.ns.length ((g.refineL L).map rk)] := by
 have M0 := ((((Mem.nil w).allocR #[.slice a g.ns.length ca, .int .i64 g.root] 24).allocR #[.slice ac L.length cc] 30).allocMap Tryz.prog 9 Value.string en)
 have OG := Tre.hid (Graph.ok_of c0)
 have hgl := OG.out.len
 obtain ⟨wm, hmk, hmem⟩ := made_ints (((w.alloc (.cells #[.slice a g.ns.length ca, .int .i64 g.root] 24)).alloc (.cells #[.slice ac L.length cc] 30)).alloc (.map #[] 0)) g.ns.length (by omega)
 have M1 := hmem _ _ M0
 simp only [heapSize_alloc] at M1 hmk
 have HG := Tre.hid hg
 have HC := Tre.hid hc
 have HT := Tre.hid ht
 have HLEN := Tre.hid hlen
 have HL := Tre.hid hL
 have hmm := @run_makeMap Tryz.prog
 have HCL : Hid (∀ a, L.getD a 0 ≤ 8388608) := fun a => by
  rw [List.getD_eq_getElem?_getD]
  cases h : L[a]? with
  | none => simp
  | some y => exact hL y (List.mem_of_getElem? h)
 obtain ⟨cl, hcl⟩ : ∃ cl : Nat → Nat, Hid (cl = fun a => L.getD a 0) := ⟨_, rfl⟩
 have HR : Hid (g.refineL L = (List.range g.ns.length).map (g.refineC cl)) := by show _ = _; rw [hcl.out]; rfl
 have M1' : Mem w wm [rowR 3 1 (.slice (some ⟨w.heap.size + 1 + 1 + 1, 0, none⟩) g.ns.length g.ns.length) g.ns.length (doneL (g.refineC cl) g.ns.length 0), mapR Tryz.prog 9 Value.string en (w.heap.size + 1 + 1) 0 (firstM (g.keyL cl) 0), cellsR (w.heap.size + 1) 30 #[.slice ac L.length cc], cellsR w.heap.size 24 #[.slice a g.ns.length ca, .int .i64 g.root]] := by
  rw [doneL_zero, first_zero]; exact M1
 have HM1 := Tre.hid M1'
 obtain ⟨g0, g1⟩ := M1'.two 3 rfl
 clear hg hc ht c0 hlen hL M0 M1 M1' hmem
 go_enter Tryz.func32, Tryz.ntmps32
 go_wp2_with fail
 go_loopw [20] (fun v20 wr => ∃ k N : Nat, k ≤ g.ns.length ∧ v20 = .int .i64 k ∧ Hid (Mem w wr [rowR 3 1 (.slice (some ⟨w.heap.size + 1 + 1 + 1, 0, none⟩) g.ns.length g.ns.length) g.ns.length (doneL (g.refineC cl) g.ns.length k), mapR Tryz.prog 9 Value.string en (w.heap.size + 1 + 1) N (firstM (g.keyL cl) k), cellsR (w.heap.size + 1) 30 #[.slice ac L.length cc], cellsR w.heap.size 24 #[.slice a g.ns.length ca, .int .i64 g.root]]))
  (fun v20 _ => g.ns.length - (intOf v20).toNat)
 case atStart => exact ⟨0, 0, Nat.zero_le _, rfl, HM1.out⟩
 case round =>
  obtain ⟨k, N, hk, rfl, hM⟩ := hrel
  by_cases hlt : k < g.ns.length
  ·obtain ⟨b1, o1, rfl, nx⟩ := (HG.out.below hM.out.below).at_ k (g.nd k) (by rw [Graph.nd_eq hlt]; exact List.getElem?_eq_getElem hlt)
   have HW := Tre.hid (words_of (OG.out.may k hlt))
   have hkids := OG.out.kids_lt hlt
   have hargs := OG.out.kids_eq hlt
   have HKN : Hid (∀ z ∈ (g.nd k).args, ∃ y : Nat, z = (y : Int) ∧ y < L.length) := fun z hz => by
    rw [hargs] at hz
    obtain ⟨y, hy, rfl⟩ := List.mem_map.1 hz
    exact ⟨y, rfl, by rw [HLEN.out]; exact hkids y hy⟩
   have hXw : (g.nd k).weight ≤ g.weight := by rw [Graph.nd_eq hlt]; exact node_weight (List.getElem_mem hlt)
   have HKEY : Hid (g.keyL cl k = decDigits (L.getD k 0) ++ 58 :: ((if freeC (g.nd k) then 35 :: decDigits k else []) ++ lookL (g.nd k) (fun a => L.getD a 0))) := by show _ = _; rw [hcl.out]; rfl
   generalize hX : g.nd k = X at *
   obtain ⟨ax, cx, lx, dx, x0, x1, x2, x3, x4, xA, xL, _, _⟩ := nx
   have i1 : (0 : Int) ≤ (k : Int) := by omega
   have i2 : (k : Int) < (g.ns.length : Int) := by omega
   have i3 : (k : Int) < (L.length : Int) := by rw [HLEN.out]; omega
   have hkc := HCL.out k
   obtain ⟨b2, o2, rfl, hv⟩ := (HC.out.below hM.out.below).at_ k (.int .i64 ((L.getD k 0 : Nat) : Int)) (by
    have hkl : k < L.length := by rw [HLEN.out]; exact hlt
    rw [List.getElem?_map, List.getElem?_map, List.getElem?_eq_getElem hkl, List.getD_eq_getElem?_getD, List.getElem?_eq_getElem hkl]; rfl)
   have hdl := dec_len hkc
   have hdk := dec_len (n := k) (by omega)
   have HLKL := Tre.hid (look_len HCL.out HW.out.kind)
   have MA := hM.out.allocR #[.int .i64 X.kind, .string X.name, .slice ax X.args.length cx, .slice lx X.labels.length dx, .bool X.isOpen] 33
   have c3 : (wr.alloc (.cells #[.int .i64 X.kind, .string X.name, .slice ax X.args.length cx, .slice lx X.labels.length dx, .bool X.isOpen] 33)).cell? ⟨w.heap.size + 1, 0, none⟩ = some (.slice (some ⟨b2, o2, none⟩) L.length cc) := MA.cell 3 rfl 0 rfl
   have hv := cell_below ((Below.refl wr.heap.size wr).alloc (Nat.le_refl _) (.cells #[.int .i64 X.kind, .string X.name, .slice ax X.args.length cx, .slice lx X.labels.length dx, .bool X.isOpen] 33)) hv
   have HMA := Tre.hid MA
   have BA := Tre.hid (MA.below)
   have XA := Tre.hid (xA.below ((Below.refl wr.heap.size wr).alloc (Nat.le_refl _) (.cells #[.int .i64 X.kind, .string X.name, .slice ax X.args.length cx, .slice lx X.labels.length dx, .bool X.isOpen] 33)))
   have XL := Tre.hid (xL.below ((Below.refl wr.heap.size wr).alloc (Nat.le_refl _) (.cells #[.int .i64 X.kind, .string X.name, .slice ax X.args.length cx, .slice lx X.labels.length dx, .bool X.isOpen] 33)))
   have HXW := Tre.hid hXw
   have HKC := Tre.hid hkc
   clear hX hkids hargs xA xL MA hXw hkc
   generalize hV : L.getD k 0 = V at *
   have HV := Tre.hid hV
   clear hV
   go_wp2_with fail
   refine (itoa_any V _ HKC.out (HT.out.below BA.out)).mono ?_
   rintro e w3 ⟨rfl, b3⟩
   have M3 := HMA.out.quiet b3
   obtain ⟨y0, y1, y2, y3, y4⟩ := five M3 0 rfl
   have HM3 := Tre.hid M3
   have XA3 := Tre.hid (XA.out.below b3)
   have XL3 := Tre.hid (XL.out.below b3)
   clear b3 M3
   cases hfr : freeC X
   ·have HFR := Tre.hid hfr
    have hcat0 := trivial
    clear hfr
    go_wp2_with fail
    refine (isFree X ax lx cx dx _).mono ?_
    rintro e w4 ⟨rfl, b4⟩
    rw [HFR.out]
    have M4 := HM3.out.quiet b4
    obtain ⟨y0, y1, y2, y3, y4⟩ := five M4 0 rfl
    have z3 : w4.cell? ⟨w.heap.size + 1, 0, none⟩ = some (.slice (some ⟨b2, o2, none⟩) L.length cc) := M4.cell 3 rfl 0 rfl
    have HM4 := Tre.hid M4
    have XA4 := Tre.hid (XA3.out.below b4)
    have XL4 := Tre.hid (XL3.out.below b4)
    clear b4 M4
    go_wp2_with fail

    have hstl : ((((⟨(decDigits V).toArray⟩ : ByteArray) ++ ⟨#[58]⟩))).size ≤ 64 := by
     simp only [ByteArray.size_append, size_mk]
     simp only [List.length_cons, List.length_nil]
     omega
    have HST : Hid (((((⟨(decDigits V).toArray⟩ : ByteArray) ++ ⟨#[58]⟩))).data.toList = decDigits V ++ 58 :: (if false = true then 35 :: decDigits k else [])) := by
     show _ = _
     simp [ByteArray.data_append]
    generalize (((⟨(decDigits V).toArray⟩ : ByteArray) ++ ⟨#[58]⟩)) = st at *
    clear hcat0

    refine (look_any X ax lx cx dx (w.heap.size + 1) (some ⟨b2, o2, none⟩) cc L _ XA4.out XL4.out z3 (HC.out.below HM4.out.below) HKN.out HL.out (by have := HXW.out; omega) HW.out.kind (HT.out.below HM4.out.below)).mono ?_
    rintro e w5 ⟨rfl, b5⟩
    have HM5 := Tre.hid (HM4.out.quiet b5)
    have hlk := HLKL.out
    have HKX := HKEY.out
    clear b5
    generalize hgl2 : lookL X (fun a => L.getD a 0) = lk at *
    have HS : Hid (st ++ ⟨lk.toArray⟩ = mkB (g.keyL cl k)) := by
     show _ = _
     apply data_inj
     rw [mkB_data, HKX, ByteArray.data_append, Array.toList_append, HST.out, HFR.out]
     simp
    have hcat : ¬ (9223372036854775807 < st.size + lk.length) := by have := HXW.out; omega
    have hss : (st ++ ⟨lk.toArray⟩).size ≤ maxLen := by
     rw [ByteArray.size_append, size_mk lk]
     unfold maxLen
     omega
    have HSS := Tre.hid hss
    obtain ⟨u0, hu0⟩ : ∃ u0, Hid ((doneL (g.refineC cl) g.ns.length k)[k]? = some u0) := ⟨_, List.getElem?_eq_getElem (by rw [doneL_len]; exact hlt)⟩
    have q0 := HM5.out.cellAt 1 rfl k hu0.out
    clear hgl2 hlk HKX hss hstl
    by_cases hin : g.keyL cl k ∈ (List.range k).map (g.keyL cl)
    ·obtain ⟨f1, f2⟩ := first_old hin
     have hrc : ((List.range k).map (g.keyL cl)).idxOf (g.keyL cl k) = g.refineC cl k := rfl
     rw [hrc, ← HS.out] at f1
     have HF1 := Tre.hid f1
     have HF2 := Tre.hid f2
     have HD := Tre.hid (doneL_set (g.refineC cl) hlt)
     have q0f := HM5.out.freeAt 1 rfl k
     clear f1 f2 hrc hin
     generalize g.refineC cl k = r at *
     go_wp2_with (first
      | (refine wpList_look_some rfl _ _ 44 rfl 3 K inj Tryz.underlying44 (zi _) rfl (HM5.out.map 2 rfl) (st ++ ⟨lk.toArray⟩) rfl (ky _ HSS.out) r HF1.out ?_)
      | (refine wpList_look1_some rfl _ _ 44 rfl 3 K inj Tryz.underlying44 (zi _) rfl (HM5.out.map 2 rfl) (st ++ ⟨lk.toArray⟩) rfl (ky _ HSS.out) r HF1.out ?_))
     have HM6 := Tre.hid (HM5.out.setRow 1 rfl k (rk r))
     go_roundw
     case rel =>
      have h := HM6.out.del 0
      rw [HD.out, HF2.out] at h
      exact ⟨k + 1, N, by omega, by go_num, h⟩
     case measure => simp [intOf]; omega
    ·obtain ⟨f1, f2, f3⟩ := first_new hin
     have hrc : ((List.range k).map (g.keyL cl)).idxOf (g.keyL cl k) = g.refineC cl k := rfl
     rw [hrc] at f3
     rw [← HS.out] at f1 f2
     have f4 : upd (firstM (g.keyL cl) k) (st ++ ⟨lk.toArray⟩) k (st ++ ⟨lk.toArray⟩) = some k := upd_same _ _ _
     have HF1 := Tre.hid f1
     have HF2 := Tre.hid f2
     have HF4 := Tre.hid f4
     have HD := Tre.hid (doneL_set (g.refineC cl) hlt)
     rw [f3] at HD
     clear f1 f2 f3 f4 hrc hin
     go_wp2_with (first
      | (refine wpList_look_none rfl _ _ 44 rfl 3 K inj Tryz.underlying44 (zi _) rfl (HM5.out.map 2 rfl) (st ++ ⟨lk.toArray⟩) rfl (ky _ HSS.out) HF1.out ?_)
      | (refine wpList_store rfl _ _ _ 44 (.inl rfl) 3 K inj Tryz.underlying44 rfl (HM5.out.map 2 rfl) (st ++ ⟨lk.toArray⟩) rfl (ky _ HSS.out) k rfl ?_; intro w6 hm6 hg6; have HM6 := Tre.hid (HM5.out.put 2 rfl hg6 hm6); have q0 := HM6.out.cellAt 1 rfl k hu0.out; have q0f := HM6.out.freeAt 1 rfl k; clear hm6 hg6)
      | (refine wpList_look1_some rfl _ _ 44 rfl 3 K inj Tryz.underlying44 (zi _) rfl (HM6.out.map 2 rfl) (st ++ ⟨lk.toArray⟩) rfl (ky _ HSS.out) k HF4.out ?_))
     have HM7 := Tre.hid (HM6.out.setRow 1 rfl k (rk k))
     go_roundw
     case rel =>
      have h := HM7.out.del 0
      rw [HD.out, HF2.out] at h
      exact ⟨k + 1, _, by omega, by go_num, h⟩
     case measure => simp [intOf]; omega
   ·have HFR := Tre.hid hfr
    have hcat0 := trivial
    clear hfr
    go_wp2_with fail
    refine (isFree X ax lx cx dx _).mono ?_
    rintro e w4 ⟨rfl, b4⟩
    rw [HFR.out]
    have M4 := HM3.out.quiet b4
    obtain ⟨y0, y1, y2, y3, y4⟩ := five M4 0 rfl
    have z3 : w4.cell? ⟨w.heap.size + 1, 0, none⟩ = some (.slice (some ⟨b2, o2, none⟩) L.length cc) := M4.cell 3 rfl 0 rfl
    have HM4 := Tre.hid M4
    have XA4 := Tre.hid (XA3.out.below b4)
    have XL4 := Tre.hid (XL3.out.below b4)
    clear b4 M4
    go_wp2_with fail

    refine (itoa_any k _ (by omega) (HT.out.below HM4.out.below)).mono ?_
    rintro e w8 ⟨rfl, b8⟩
    have M8 := HM4.out.quiet b8
    obtain ⟨y0, y1, y2, y3, y4⟩ := five M8 0 rfl
    have z3 : w8.cell? ⟨w.heap.size + 1, 0, none⟩ = some (.slice (some ⟨b2, o2, none⟩) L.length cc) := M8.cell 3 rfl 0 rfl
    have HM4 := Tre.hid M8
    have XA4 := Tre.hid (XA4.out.below b8)
    have XL4 := Tre.hid (XL4.out.below b8)
    have hcat0 : ¬ (9223372036854775807 < (decDigits V).length + 1 + (1 + (decDigits k).length)) := by omega
    clear b8 M8
    go_wp2_with fail

    have hstl : ((((⟨(decDigits V).toArray⟩ : ByteArray) ++ ⟨#[58]⟩) ++ (⟨#[35]⟩ ++ ⟨(decDigits k).toArray⟩))).size ≤ 64 := by
     simp only [ByteArray.size_append, size_mk]
     simp only [List.length_cons, List.length_nil]
     omega
    have HST : Hid (((((⟨(decDigits V).toArray⟩ : ByteArray) ++ ⟨#[58]⟩) ++ (⟨#[35]⟩ ++ ⟨(decDigits k).toArray⟩))).data.toList = decDigits V ++ 58 :: (if true = true then 35 :: decDigits k else [])) := by
     show _ = _
     simp [ByteArray.data_append]
    generalize (((⟨(decDigits V).toArray⟩ : ByteArray) ++ ⟨#[58]⟩) ++ (⟨#[35]⟩ ++ ⟨(decDigits k).toArray⟩)) = st at *
    clear hcat0

    refine (look_any X ax lx cx dx (w.heap.size + 1) (some ⟨b2, o2, none⟩) cc L _ XA4.out XL4.out z3 (HC.out.below HM4.out.below) HKN.out HL.out (by have := HXW.out; omega) HW.out.kind (HT.out.below HM4.out.below)).mono ?_
    rintro e w5 ⟨rfl, b5⟩
    have HM5 := Tre.hid (HM4.out.quiet b5)
    have hlk := HLKL.out
    have HKX := HKEY.out
    clear b5
    generalize hgl2 : lookL X (fun a => L.getD a 0) = lk at *
    have HS : Hid (st ++ ⟨lk.toArray⟩ = mkB (g.keyL cl k)) := by
     show _ = _
     apply data_inj
     rw [mkB_data, HKX, ByteArray.data_append, Array.toList_append, HST.out, HFR.out]
     simp
    have hcat : ¬ (9223372036854775807 < st.size + lk.length) := by have := HXW.out; omega
    have hss : (st ++ ⟨lk.toArray⟩).size ≤ maxLen := by
     rw [ByteArray.size_append, size_mk lk]
     unfold maxLen
     omega
    have HSS := Tre.hid hss
    obtain ⟨u0, hu0⟩ : ∃ u0, Hid ((doneL (g.refineC cl) g.ns.length k)[k]? = some u0) := ⟨_, List.getElem?_eq_getElem (by rw [doneL_len]; exact hlt)⟩
    have q0 := HM5.out.cellAt 1 rfl k hu0.out
    clear hgl2 hlk HKX hss hstl
    by_cases hin : g.keyL cl k ∈ (List.range k).map (g.keyL cl)
    ·obtain ⟨f1, f2⟩ := first_old hin
     have hrc : ((List.range k).map (g.keyL cl)).idxOf (g.keyL cl k) = g.refineC cl k := rfl
     rw [hrc, ← HS.out] at f1
     have HF1 := Tre.hid f1
     have HF2 := Tre.hid f2
     have HD := Tre.hid (doneL_set (g.refineC cl) hlt)
     have q0f := HM5.out.freeAt 1 rfl k
     clear f1 f2 hrc hin
     generalize g.refineC cl k = r at *
     go_wp2_with (first
      | (refine wpList_look_some rfl _ _ 44 rfl 3 K inj Tryz.underlying44 (zi _) rfl (HM5.out.map 2 rfl) (st ++ ⟨lk.toArray⟩) rfl (ky _ HSS.out) r HF1.out ?_)
      | (refine wpList_look1_some rfl _ _ 44 rfl 3 K inj Tryz.underlying44 (zi _) rfl (HM5.out.map 2 rfl) (st ++ ⟨lk.toArray⟩) rfl (ky _ HSS.out) r HF1.out ?_))
     have HM6 := Tre.hid (HM5.out.setRow 1 rfl k (rk r))
     go_roundw
     case rel =>
      have h := HM6.out.del 0
      rw [HD.out, HF2.out] at h
      exact ⟨k + 1, N, by omega, by go_num, h⟩
     case measure => simp [intOf]; omega
    ·obtain ⟨f1, f2, f3⟩ := first_new hin
     have hrc : ((List.range k).map (g.keyL cl)).idxOf (g.keyL cl k) = g.refineC cl k := rfl
     rw [hrc] at f3
     rw [← HS.out] at f1 f2
     have f4 : upd (firstM (g.keyL cl) k) (st ++ ⟨lk.toArray⟩) k (st ++ ⟨lk.toArray⟩) = some k := upd_same _ _ _
     have HF1 := Tre.hid f1
     have HF2 := Tre.hid f2
     have HF4 := Tre.hid f4
     have HD := Tre.hid (doneL_set (g.refineC cl) hlt)
     rw [f3] at HD
     clear f1 f2 f3 f4 hrc hin
     go_wp2_with (first
      | (refine wpList_look_none rfl _ _ 44 rfl 3 K inj Tryz.underlying44 (zi _) rfl (HM5.out.map 2 rfl) (st ++ ⟨lk.toArray⟩) rfl (ky _ HSS.out) HF1.out ?_)
      | (refine wpList_store rfl _ _ _ 44 (.inl rfl) 3 K inj Tryz.underlying44 rfl (HM5.out.map 2 rfl) (st ++ ⟨lk.toArray⟩) rfl (ky _ HSS.out) k rfl ?_; intro w6 hm6 hg6; have HM6 := Tre.hid (HM5.out.put 2 rfl hg6 hm6); have q0 := HM6.out.cellAt 1 rfl k hu0.out; have q0f := HM6.out.freeAt 1 rfl k; clear hm6 hg6)
      | (refine wpList_look1_some rfl _ _ 44 rfl 3 K inj Tryz.underlying44 (zi _) rfl (HM6.out.map 2 rfl) (st ++ ⟨lk.toArray⟩) rfl (ky _ HSS.out) k HF4.out ?_))
     have HM7 := Tre.hid (HM6.out.setRow 1 rfl k (rk k))
     go_roundw
     case rel =>
      have h := HM7.out.del 0
      rw [HD.out, HF2.out] at h
      exact ⟨k + 1, _, by omega, by go_num, h⟩
     case measure => simp [intOf]; omega
  ·have e : k = g.ns.length := by omega
   have hM' := hM.out
   rw [e, doneL_all] at hM'
   have HM2 := Tre.hid hM'
   clear hM hM' e
   go_wp2_with fail
   go_ret
   refine ⟨_, rfl, ?_⟩
   have h := ((HM2.out.del 1).del 1).del 1
   rw [← HR.out] at h
   exact h
end Go.Proofs.YtaleodkbghogfaaGreatDoor.gr
namespace Go.Proofs.YtaleodkbghogfaaGreatDoor.gr
open Go.RowKit Go.Shelf Go.Maps Go.Tre lex
def NodeVal (w : World) (d : NodeV) : Prop :=
 ∃ aa ca al cl, d.va = .slice aa d.n.args.length ca ∧ d.vl = .slice al d.n.labels.length cl ∧ IntsAt w aa d.n.args ∧ StrsAt w al d.n.labels ∧ d.n.args.length ≤ ca ∧ d.n.labels.length ≤ cl
theorem NodeVal.below {w w' : World} {d : NodeV} (h : NodeVal w d) (b : Below w.heap.size w w') : NodeVal w' d := by
 obtain ⟨aa, ca, al, cl, h1, h2, h3, h4, h5, h6⟩ := h
 exact ⟨aa, ca, al, cl, h1, h2, h3.below b, h4.below b, h5, h6⟩
theorem NodeVal.kids {w : World} {d : NodeV} (h : ∀ r ∈ kids d, r.P w) : NodeVal w d := by
 obtain ⟨aa, ca, ea, la, ra⟩ := row_read (h _ (by simp [gr.kids]) : (rowR 3 1 d.va d.n.args.length (d.n.args.map (Value.int .i64))).P w)
 obtain ⟨al, cl, el, ll, rl⟩ := row_read (h _ (by simp [gr.kids]) : (rowR 9 1 d.vl d.n.labels.length (d.n.labels.map Value.string)).P w)
 exact ⟨aa, ca, al, cl, ea, el, ra, rl, la, ll⟩
theorem nodeAt_of {w : World} {b p : Nat} {d : NodeV} (hv : NodeVal w d) (hc : ∀ j, j < 5 → w.cell? ⟨b, p + j, none⟩ = d.cells[j]?) : NodeAt w b p d.n := by
 obtain ⟨aa, ca, al, cl, ea, el, ra, rl, la, ll⟩ := hv
 refine ⟨aa, ca, al, cl, (hc 0 (by omega)).trans rfl, (hc 1 (by omega)).trans rfl, ?_, ?_, (hc 4 (by omega)).trans rfl, ra, rl, la, ll⟩
 ·rw [← ea]; exact (hc 2 (by omega)).trans rfl
 ·rw [← el]; exact (hc 3 (by omega)).trans rfl
theorem nodesAt_of {w : World} {a : Option Addr} {c : Nat} {ds : List NodeV} (h : (nodesR (.slice a ds.length c) ds).P w) (hv : ∀ d ∈ ds, NodeVal w d) : NodesAt w a (ds.map NodeV.n) := by
 refine ⟨fun k n hn => ?_⟩
 rw [List.getElem?_map] at hn
 obtain ⟨d, hd, rfl⟩ := Option.map_eq_some_iff.1 hn
 obtain ⟨a', c', e, _, hrow⟩ := row_read (show w.ownsRow 0 _ 5 (.slice a _ c) _ _ from h)
 cases e
 obtain ⟨b, off, e0, _⟩ := hrow.at_ (k * 5 + 0) _ ((cells_at ds k 0 d hd (by omega)).trans rfl)
 refine ⟨b, off, e0, nodeAt_of (hv d (List.mem_of_getElem? hd)) (fun j hj => ?_)⟩
 have hl : j < d.cells.length := hj
 obtain ⟨b', off', e', c'⟩ := hrow.at_ (k * 5 + j) d.cells[j] ((cells_at ds k j d hd hj).trans (List.getElem?_eq_getElem hl))
 rw [e0] at e'
 cases e'
 rw [Nat.add_assoc, c', List.getElem?_eq_getElem hl]
theorem nodes_vals {w : World} {b off : Nat} {ns : List Tre.Node} (h : NodesAt w (some ⟨b, off, none⟩) ns) :
  ∃ ds : List NodeV, ds.map NodeV.n = ns ∧ (∀ j u, (ds.flatMap NodeV.cells)[j]? = some u → w.cell? ⟨b, off + j, none⟩ = some u) ∧ ∀ d ∈ ds, NodeVal w d := by
 have step : ∀ (k : Nat) (n : Tre.Node), ns[k]? = some n → ∃ d : NodeV, d.n = n ∧ NodeVal w d ∧ ∀ j, j < 5 → w.cell? ⟨b, off + k * 5 + j, none⟩ = d.cells[j]? := by
  intro k n hn
  obtain ⟨b', off', e, aa, ca, al, cl, h0, h1, h2, h3, h4, h5, h6, h7, h8⟩ := h.at_ k n hn
  cases e
  refine ⟨⟨n, .slice aa n.args.length ca, .slice al n.labels.length cl⟩, rfl, ⟨aa, ca, al, cl, rfl, rfl, h5, h6, h7, h8⟩, fun j hj => ?_⟩
  match j, hj with
  | 0, _ => exact h0
  | 1, _ => exact h1
  | 2, _ => exact h2
  | 3, _ => exact h3
  | 4, _ => exact h4
 have all : ∀ m, m ≤ ns.length → ∃ ds : List NodeV, ds.map NodeV.n = ns.take m ∧ (∀ k d, ds[k]? = some d → ∀ j, j < 5 → w.cell? ⟨b, off + k * 5 + j, none⟩ = d.cells[j]?) ∧ ∀ d ∈ ds, NodeVal w d := by
  intro m
  induction m with
  | zero => intro _; exact ⟨[], by simp, by simp, by simp⟩
  | succ m ih =>
   intro hm
   obtain ⟨ds, h1, h2, h3⟩ := ih (by omega)
   obtain ⟨d, e, hv, hc⟩ := step m ns[m] (List.getElem?_eq_getElem (by omega))
   have hl : ds.length = m := by have := congrArg List.length h1; simp at this; omega
   refine ⟨ds ++ [d], ?_, fun k d' hk j hj => ?_, fun d' hd' => ?_⟩
   ·rw [List.map_append, h1, List.take_add_one, List.getElem?_eq_getElem (by omega), List.map_singleton, e]; rfl
   ·by_cases hkl : k < ds.length
    ·rw [List.getElem?_append_left hkl] at hk
     exact h2 k d' hk j hj
    ·have hkm : k = m := by
      have := (List.getElem?_eq_some_iff.1 hk).1
      simp at this
      omega
     subst hkm
     rw [List.getElem?_append_right (by omega), hl, Nat.sub_self] at hk
     cases hk
     exact hc j hj
   ·rcases List.mem_append.1 hd' with h | h
    ·exact h3 d' h
    ·simp at h; subst h; exact hv
 obtain ⟨ds, h1, h2, h3⟩ := all ns.length (Nat.le_refl _)
 refine ⟨ds, by rw [h1, List.take_length], fun j u hu => ?_, h3⟩
 have hj := (List.getElem?_eq_some_iff.1 hu).1
 rw [cells_len] at hj
 have hk : j / 5 < ds.length := by omega
 have hd : ds[j / 5]? = some ds[j / 5] := List.getElem?_eq_getElem hk
 have e : j = j / 5 * 5 + j % 5 := by omega
 rw [e] at hu ⊢
 rw [cells_at ds (j / 5) (j % 5) _ hd (by omega)] at hu
 rw [← Nat.add_assoc]
 exact (h2 _ _ hd _ (by omega)).trans hu
theorem cells_one (ds : List NodeV) : (∀ d ∈ ds, ∃ w, NodeVal w d) → ∀ u ∈ ds.flatMap NodeV.cells, u.oneCell' = true := by
 intro h u hu
 obtain ⟨d, hd, hu⟩ := List.mem_flatMap.1 hu
 obtain ⟨w, aa, ca, al, cl, e1, e2, _⟩ := h d hd
 simp only [NodeV.cells, List.mem_cons, List.not_mem_nil, or_false] at hu
 rcases hu with rfl | rfl | rfl | rfl | rfl
 ·rfl
 ·rfl
 ·rw [e1]; rfl
 ·rw [e2]; rfl
 ·rfl
theorem add_plain (b off j : Nat) : (⟨b, off, none⟩ : Addr).add j = ⟨b, off + j, none⟩ := by
 unfold Addr.add
 by_cases h : j = 0 <;> simp [h]
end Go.Proofs.YtaleodkbghogfaaGreatDoor.gr
