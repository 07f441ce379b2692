/- canon.refine: its classes, one by one. graph.Trim. -/
import Derived.Test.YtlkfhbmjemjohaaDoorB18
import Derived.Test.YtlkfhbmjemjohaaDoorB06
import Derived.Test.YtlkfhbmjemjohaaDoorB08
import Derived.Test.YtlkfhbmjemjohaaDoorB09
namespace Go.Tre
open Go.RowKit Go.Maps
open Go.Lib (decDigits itoa)
open Go.Proofs.YtlkfhbmjemjohaaDoor.gr (rk)
/-- what has come first, after k of them -/
def firstM (K : Nat → List UInt8) (k : Nat) : ByteArray → Option Nat := fun s => if s.data.toList ∈ (List.range k).map K then some (((List.range k).map K).idxOf s.data.toList) else none
def mkB (l : List UInt8) : ByteArray := ⟨l.toArray⟩
theorem mkB_data (l : List UInt8) : (mkB l).data.toList = l := by simp [mkB]
theorem first_zero (K : Nat → List UInt8) : firstM K 0 = fun _ => none := by funext s; simp [firstM]
theorem first_new {K : Nat → List UInt8} {k : Nat} (h : K k ∉ (List.range k).map K) : firstM K k (mkB (K k)) = none ∧ upd (firstM K k) (mkB (K k)) k = firstM K (k + 1) ∧ ((List.range k).map K).idxOf (K k) = k := by
  refine ⟨by unfold firstM; rw [mkB_data, if_neg h], ?_, ?_⟩
  · funext s
    unfold upd firstM
    rw [List.range_succ, List.map_append]
    by_cases hs : s = mkB (K k)
    · subst hs
      rw [if_pos rfl, mkB_data, if_pos (by simp), List.idxOf_append, if_neg h]
      simp
    · have hne : s.data.toList ≠ K k := fun e => hs (data_inj (by rw [mkB_data]; exact e))
      rw [if_neg hs]
      by_cases hm : s.data.toList ∈ (List.range k).map K
      · rw [if_pos hm, if_pos (List.mem_append.2 (.inl hm)), List.idxOf_append, if_pos hm]
      · rw [if_neg hm, if_neg (by rw [List.mem_append]; rintro (e | e); exact hm e; simp at e; exact hne e)]
  · have := List.idxOf_eq_length h
    rw [this]; simp
theorem first_old {K : Nat → List UInt8} {k : Nat} (h : K k ∈ (List.range k).map K) : firstM K k (mkB (K k)) = some (((List.range k).map K).idxOf (K k)) ∧ firstM K k = firstM K (k + 1) := by
  refine ⟨by unfold firstM; rw [mkB_data, if_pos h], ?_⟩
  funext s
  unfold firstM
  rw [List.range_succ, List.map_append]
  by_cases hm : s.data.toList ∈ (List.range k).map K
  · rw [if_pos hm, if_pos (List.mem_append.2 (.inl hm)), List.idxOf_append, if_pos hm]
  · have hne : s.data.toList ≠ K k := fun e => hm (by rw [e]; exact h)
    rw [if_neg hm, if_neg (by rw [List.mem_append]; rintro (e | e); exact hm e; simp at e; exact hne e)]
/-- the classes, after k of them -/
def doneL (f : Nat → Nat) (n k : Nat) : List Value := (List.range n).map fun i => rk (if i < k then f i else 0)
theorem doneL_zero (f : Nat → Nat) (n : Nat) : doneL f n 0 = (List.replicate n 0).map rk := by
  unfold doneL
  apply List.ext_getElem <;> simp
theorem doneL_all (f : Nat → Nat) (n : Nat) : doneL f n n = ((List.range n).map f).map rk := by
  unfold doneL
  rw [List.map_map]
  apply List.map_congr_left
  intro i hi
  simp [List.mem_range.1 hi]
theorem doneL_set (f : Nat → Nat) {n k : Nat} (_h : k < n) : (doneL f n k).set k (rk (f k)) = doneL f n (k + 1) := by
  unfold doneL
  apply List.ext_getElem
  · simp
  · intro i h1 h2
    rw [List.getElem_set, List.getElem_map, List.getElem_map, List.getElem_range]
    by_cases e : k = i
    · subst e; simp
    · have : (i < k) = (i < k + 1) := by apply propext; omega
      rw [if_neg e]; simp only [this]
theorem doneL_len (f : Nat → Nat) (n k : Nat) : (doneL f n k).length = n := by simp [doneL]
theorem look_len {n : Tre.Node} {cl : Nat → Nat} (hc : ∀ a, cl a ≤ 8388608) (hk : n.kind = 1 ∨ n.kind = 2 ∨ n.kind = 3) : (lookL n cl).length ≤ 1 + 23 * n.weight := by
  rw [look_tail _ _ hk]
  have h1 := argText_len hc n.args
  have h2 := labText_len n.labels
  unfold tailL
  unfold argText at h1
  unfold labText at h2
  unfold Node.weight
  simp only [List.length_append, List.length_cons, ← Lib.size_eq] at *
  omega
end Go.Tre
namespace Go.Proofs.YtlkfhbmjemjohaaDoor.gr
open Go.RowKit Go.Shelf Go.Maps Go.Tre lex
open Go.Lib (decDigits itoa)
theorem infoInt : (Tryd.prog.info? 3).map (fun i => (i.zero, i.size, i.bytes)) = some (some (.int .i64 0), 1, 8) := by kernel_rfl
/-- make([]int, n) -/
theorem made_ints (w : World) (n : Nat) (hn : n ≤ 2097152) : ∃ wm, (Instr.makeSlice 25 (.int .i64 (n : Int)) (.int .i64 (n : Int))).run Tryd.prog w = .ok (.slice (some ⟨w.heap.size, 0, none⟩) n n) wm ∧
    ∀ (w0 : World) (rs : List Res), Mem w0 w rs → Mem w0 wm (rowR 3 1 (.slice (some ⟨w.heap.size, 0, none⟩) n n) n ((List.replicate n 0).map rk) :: rs) := by
  obtain ⟨ti, T1, T2, T3, T4⟩ := info_parts infoInt
  obtain ⟨wm, hmk, hmo, hmg⟩ := run_make_full (P := Tryd.prog) w 0 25 3 ti _ 1 Tryd.underlying25 T1 T2 T3 .i64 .i64 n (by rw [T4]; omega) (by unfold maxLen; omega) (Nat.zero_le _)
  refine ⟨wm, hmk, fun w0 rs M => ?_⟩
  have e9 : (madeCells (Value.int .i64 0).cells (n * 1)).toList = (List.replicate n 0).map rk := by
    rw [show (Value.int .i64 0).cells = #[Value.int .i64 0] from rfl, toList_madeCells_one, Nat.mul_one, List.map_replicate]; rfl
  rw [e9] at hmo
  exact M.add hmg (rowR 3 1 _ n _) hmo (fun b hb => by have : some w.heap.size = some b := hb; cases this; exact Nat.le_refl _)

set_option maxRecDepth 100000 in
set_option maxHeartbeats 8000000 in
theorem refine_any (a : Option Addr) (ca : Nat) (g : Tre.Graph) (ac : Option Addr) (cc : Nat) (L : List Nat) (w : World) (hg : NodesAt w a g.ns) (c0 : g.checkC = 0) (wg : g.weight ≤ 2097152) (hc : IntsAt w ac (L.map fun k : Nat => (k : Int))) (hlen : L.length = g.ns.length) (hL : ∀ y ∈ L, y ≤ 8388608) (ht : TabAt w) :
    Calls Tryd.prog 45 #[.agg #[.slice a g.ns.length ca, .int .i64 g.root], .slice ac L.length cc] w fun e w' =>
      ∃ v, e = .returned v ∧ Mem w w' [rowR 3 1 v g.ns.length ((g.refineL L).map rk)] := by
  have M0 := ((((Mem.nil w).allocR #[.slice a g.ns.length ca, .int .i64 g.root] 24).allocR #[.slice ac L.length cc] 25).allocMap Tryd.prog 9 Value.string en)
  have OG := Tre.hid (Graph.ok_of c0)
  have hgl := OG.out.len
  obtain ⟨wm, hmk, hmem⟩ := made_ints (((w.alloc (.cells #[.slice a g.ns.length ca, .int .i64 g.root] 24)).alloc (.cells #[.slice ac L.length cc] 25)).alloc (.map #[] 0)) g.ns.length (by omega)
  have M1 := hmem _ _ M0
  simp only [heapSize_alloc] at M1 hmk
  have HG := Tre.hid hg
  have HC := Tre.hid hc
  have HT := Tre.hid ht
  have HLEN := Tre.hid hlen
  have HL := Tre.hid hL
  have hmm := @run_makeMap Tryd.prog
  have HCL : Hid (∀ a, L.getD a 0 ≤ 8388608) := fun a => by
    rw [List.getD_eq_getElem?_getD]
    cases h : L[a]? with
    | none => simp
    | some y => exact hL y (List.mem_of_getElem? h)
  obtain ⟨cl, hcl⟩ : ∃ cl : Nat → Nat, Hid (cl = fun a => L.getD a 0) := ⟨_, rfl⟩
  have HR : Hid (g.refineL L = (List.range g.ns.length).map (g.refineC cl)) := by show _ = _; rw [hcl.out]; rfl
  have M1' : Mem w wm [rowR 3 1 (.slice (some ⟨w.heap.size + 1 + 1 + 1, 0, none⟩) g.ns.length g.ns.length) g.ns.length (doneL (g.refineC cl) g.ns.length 0), mapR Tryd.prog 9 Value.string en (w.heap.size + 1 + 1) 0 (firstM (g.keyL cl) 0), cellsR (w.heap.size + 1) 25 #[.slice ac L.length cc], cellsR w.heap.size 24 #[.slice a g.ns.length ca, .int .i64 g.root]] := by
    rw [doneL_zero, first_zero]; exact M1
  have HM1 := Tre.hid M1'
  obtain ⟨g0, g1⟩ := M1'.two 3 rfl
  clear hg hc ht c0 hlen hL M0 M1 M1' hmem
  go_enter Tryd.func45, Tryd.ntmps45
  go_wp2_with fail
  go_loopw [20] (fun v20 wr => ∃ k N : Nat, k ≤ g.ns.length ∧ v20 = .int .i64 k ∧ Hid (Mem w wr [rowR 3 1 (.slice (some ⟨w.heap.size + 1 + 1 + 1, 0, none⟩) g.ns.length g.ns.length) g.ns.length (doneL (g.refineC cl) g.ns.length k), mapR Tryd.prog 9 Value.string en (w.heap.size + 1 + 1) N (firstM (g.keyL cl) k), cellsR (w.heap.size + 1) 25 #[.slice ac L.length cc], cellsR w.heap.size 24 #[.slice a g.ns.length ca, .int .i64 g.root]]))
    (fun v20 _ => g.ns.length - (intOf v20).toNat)
  case atStart => exact ⟨0, 0, Nat.zero_le _, rfl, HM1.out⟩
  case round =>
    obtain ⟨k, N, hk, rfl, hM⟩ := hrel
    by_cases hlt : k < g.ns.length
    · obtain ⟨b1, o1, rfl, nx⟩ := (HG.out.below hM.out.below).at_ k (g.nd k) (by rw [Graph.nd_eq hlt]; exact List.getElem?_eq_getElem hlt)
      have HW := Tre.hid (words_of (OG.out.may k hlt))
      have hkids := OG.out.kids_lt hlt
      have hargs := OG.out.kids_eq hlt
      have HKN : Hid (∀ z ∈ (g.nd k).args, ∃ y : Nat, z = (y : Int) ∧ y < L.length) := fun z hz => by
        rw [hargs] at hz
        obtain ⟨y, hy, rfl⟩ := List.mem_map.1 hz
        exact ⟨y, rfl, by rw [HLEN.out]; exact hkids y hy⟩
      have hXw : (g.nd k).weight ≤ g.weight := by rw [Graph.nd_eq hlt]; exact node_weight (List.getElem_mem hlt)
      have HKEY : Hid (g.keyL cl k = decDigits (L.getD k 0) ++ 58 :: ((if freeC (g.nd k) then 35 :: decDigits k else []) ++ lookL (g.nd k) (fun a => L.getD a 0))) := by show _ = _; rw [hcl.out]; rfl
      generalize hX : g.nd k = X at *
      obtain ⟨ax, cx, lx, dx, x0, x1, x2, x3, x4, xA, xL, _, _⟩ := nx
      have i1 : (0 : Int) ≤ (k : Int) := by omega
      have i2 : (k : Int) < (g.ns.length : Int) := by omega
      have i3 : (k : Int) < (L.length : Int) := by rw [HLEN.out]; omega
      have hkc := HCL.out k
      obtain ⟨b2, o2, rfl, hv⟩ := (HC.out.below hM.out.below).at_ k (.int .i64 ((L.getD k 0 : Nat) : Int)) (by
        have hkl : k < L.length := by rw [HLEN.out]; exact hlt
        rw [List.getElem?_map, List.getElem?_map, List.getElem?_eq_getElem hkl, List.getD_eq_getElem?_getD, List.getElem?_eq_getElem hkl]; rfl)
      have hdl := dec_len hkc
      have hdk := dec_len (n := k) (by omega)
      have HLKL := Tre.hid (look_len HCL.out HW.out.kind)
      have MA := hM.out.allocR #[.int .i64 X.kind, .string X.name, .slice ax X.args.length cx, .slice lx X.labels.length dx, .bool X.isOpen] 39
      have c3 : (wr.alloc (.cells #[.int .i64 X.kind, .string X.name, .slice ax X.args.length cx, .slice lx X.labels.length dx, .bool X.isOpen] 39)).cell? ⟨w.heap.size + 1, 0, none⟩ = some (.slice (some ⟨b2, o2, none⟩) L.length cc) := MA.cell 3 rfl 0 rfl
      have hv := cell_below ((Below.refl wr.heap.size wr).alloc (Nat.le_refl _) (.cells #[.int .i64 X.kind, .string X.name, .slice ax X.args.length cx, .slice lx X.labels.length dx, .bool X.isOpen] 39)) hv
      have HMA := Tre.hid MA
      have BA := Tre.hid (MA.below)
      have XA := Tre.hid (xA.below ((Below.refl wr.heap.size wr).alloc (Nat.le_refl _) (.cells #[.int .i64 X.kind, .string X.name, .slice ax X.args.length cx, .slice lx X.labels.length dx, .bool X.isOpen] 39)))
      have XL := Tre.hid (xL.below ((Below.refl wr.heap.size wr).alloc (Nat.le_refl _) (.cells #[.int .i64 X.kind, .string X.name, .slice ax X.args.length cx, .slice lx X.labels.length dx, .bool X.isOpen] 39)))
      have HXW := Tre.hid hXw
      have HKC := Tre.hid hkc
      clear hX hkids hargs xA xL MA hXw hkc
      generalize hV : L.getD k 0 = V at *
      have HV := Tre.hid hV
      clear hV
      go_wp2_with fail
      refine (itoa_any V _ HKC.out (HT.out.below BA.out)).mono ?_
      rintro e w3 ⟨rfl, b3⟩
      have M3 := HMA.out.quiet b3
      obtain ⟨y0, y1, y2, y3, y4⟩ := five M3 0 rfl
      have HM3 := Tre.hid M3
      have XA3 := Tre.hid (XA.out.below b3)
      have XL3 := Tre.hid (XL.out.below b3)
      clear b3 M3
      cases hfr : freeC X
      · have HFR := Tre.hid hfr
        have hcat0 := trivial
        clear hfr
        go_wp2_with fail
        refine (isFree X ax lx cx dx _).mono ?_
        rintro e w4 ⟨rfl, b4⟩
        rw [HFR.out]
        have M4 := HM3.out.quiet b4
        obtain ⟨y0, y1, y2, y3, y4⟩ := five M4 0 rfl
        have z3 : w4.cell? ⟨w.heap.size + 1, 0, none⟩ = some (.slice (some ⟨b2, o2, none⟩) L.length cc) := M4.cell 3 rfl 0 rfl
        have HM4 := Tre.hid M4
        have XA4 := Tre.hid (XA3.out.below b4)
        have XL4 := Tre.hid (XL3.out.below b4)
        clear b4 M4
        go_wp2_with fail

        have hstl : ((((⟨(decDigits V).toArray⟩ : ByteArray) ++ ⟨#[58]⟩))).size ≤ 64 := by
          simp only [ByteArray.size_append, size_mk]
          simp only [List.length_cons, List.length_nil]
          omega
        have HST : Hid (((((⟨(decDigits V).toArray⟩ : ByteArray) ++ ⟨#[58]⟩))).data.toList = decDigits V ++ 58 :: (if false = true then 35 :: decDigits k else [])) := by
          show _ = _
          simp [ByteArray.data_append]
        generalize (((⟨(decDigits V).toArray⟩ : ByteArray) ++ ⟨#[58]⟩)) = st at *
        clear hcat0

        refine (look_any X ax lx cx dx (w.heap.size + 1) (some ⟨b2, o2, none⟩) cc L _ XA4.out XL4.out z3 (HC.out.below HM4.out.below) HKN.out HL.out (by have := HXW.out; omega) HW.out.kind (HT.out.below HM4.out.below)).mono ?_
        rintro e w5 ⟨rfl, b5⟩
        have HM5 := Tre.hid (HM4.out.quiet b5)
        have hlk := HLKL.out
        have HKX := HKEY.out
        clear b5
        generalize hgl2 : lookL X (fun a => L.getD a 0) = lk at *
        have HS : Hid (st ++ ⟨lk.toArray⟩ = mkB (g.keyL cl k)) := by
          show _ = _
          apply data_inj
          rw [mkB_data, HKX, ByteArray.data_append, Array.toList_append, HST.out, HFR.out]
          simp
        have hcat : ¬ (9223372036854775807 < st.size + lk.length) := by have := HXW.out; omega
        have hss : (st ++ ⟨lk.toArray⟩).size ≤ maxLen := by
          rw [ByteArray.size_append, size_mk lk]
          unfold maxLen
          omega
        have HSS := Tre.hid hss
        obtain ⟨u0, hu0⟩ : ∃ u0, Hid ((doneL (g.refineC cl) g.ns.length k)[k]? = some u0) := ⟨_, List.getElem?_eq_getElem (by rw [doneL_len]; exact hlt)⟩
        have q0 := HM5.out.cellAt 1 rfl k hu0.out
        clear hgl2 hlk HKX hss hstl
        by_cases hin : g.keyL cl k ∈ (List.range k).map (g.keyL cl)
        · obtain ⟨f1, f2⟩ := first_old hin
          have hrc : ((List.range k).map (g.keyL cl)).idxOf (g.keyL cl k) = g.refineC cl k := rfl
          rw [hrc, ← HS.out] at f1
          have HF1 := Tre.hid f1
          have HF2 := Tre.hid f2
          have HD := Tre.hid (doneL_set (g.refineC cl) hlt)
          have q0f := HM5.out.freeAt 1 rfl k
          clear f1 f2 hrc hin
          generalize g.refineC cl k = r at *
          go_wp2_with (first
            | (refine wpList_look_some rfl _ _ 75 rfl 3 K inj Tryd.underlying75 (zi _) rfl (HM5.out.map 2 rfl) (st ++ ⟨lk.toArray⟩) rfl (ky _ HSS.out) r HF1.out ?_)
            | (refine wpList_look1_some rfl _ _ 75 rfl 3 K inj Tryd.underlying75 (zi _) rfl (HM5.out.map 2 rfl) (st ++ ⟨lk.toArray⟩) rfl (ky _ HSS.out) r HF1.out ?_))
          have HM6 := Tre.hid (HM5.out.setRow 1 rfl k (rk r))
          go_roundw
          case rel =>
            have h := HM6.out.del 0
            rw [HD.out, HF2.out] at h
            exact ⟨k + 1, N, by omega, by go_num, h⟩
          case measure => simp [intOf]; omega
        · obtain ⟨f1, f2, f3⟩ := first_new hin
          have hrc : ((List.range k).map (g.keyL cl)).idxOf (g.keyL cl k) = g.refineC cl k := rfl
          rw [hrc] at f3
          rw [← HS.out] at f1 f2
          have f4 : upd (firstM (g.keyL cl) k) (st ++ ⟨lk.toArray⟩) k (st ++ ⟨lk.toArray⟩) = some k := upd_same _ _ _
          have HF1 := Tre.hid f1
          have HF2 := Tre.hid f2
          have HF4 := Tre.hid f4
          have HD := Tre.hid (doneL_set (g.refineC cl) hlt)
          rw [f3] at HD
          clear f1 f2 f3 f4 hrc hin
          go_wp2_with (first
            | (refine wpList_look_none rfl _ _ 75 rfl 3 K inj Tryd.underlying75 (zi _) rfl (HM5.out.map 2 rfl) (st ++ ⟨lk.toArray⟩) rfl (ky _ HSS.out) HF1.out ?_)
            | (refine wpList_store rfl _ _ _ 75 (.inl rfl) 3 K inj Tryd.underlying75 rfl (HM5.out.map 2 rfl) (st ++ ⟨lk.toArray⟩) rfl (ky _ HSS.out) k rfl ?_; intro w6 hm6 hg6; have HM6 := Tre.hid (HM5.out.put 2 rfl hg6 hm6); have q0 := HM6.out.cellAt 1 rfl k hu0.out; have q0f := HM6.out.freeAt 1 rfl k; clear hm6 hg6)
            | (refine wpList_look1_some rfl _ _ 75 rfl 3 K inj Tryd.underlying75 (zi _) rfl (HM6.out.map 2 rfl) (st ++ ⟨lk.toArray⟩) rfl (ky _ HSS.out) k HF4.out ?_))
          have HM7 := Tre.hid (HM6.out.setRow 1 rfl k (rk k))
          go_roundw
          case rel =>
            have h := HM7.out.del 0
            rw [HD.out, HF2.out] at h
            exact ⟨k + 1, _, by omega, by go_num, h⟩
          case measure => simp [intOf]; omega
      · have HFR := Tre.hid hfr
        have hcat0 := trivial
        clear hfr
        go_wp2_with fail
        refine (isFree X ax lx cx dx _).mono ?_
        rintro e w4 ⟨rfl, b4⟩
        rw [HFR.out]
        have M4 := HM3.out.quiet b4
        obtain ⟨y0, y1, y2, y3, y4⟩ := five M4 0 rfl
        have z3 : w4.cell? ⟨w.heap.size + 1, 0, none⟩ = some (.slice (some ⟨b2, o2, none⟩) L.length cc) := M4.cell 3 rfl 0 rfl
        have HM4 := Tre.hid M4
        have XA4 := Tre.hid (XA3.out.below b4)
        have XL4 := Tre.hid (XL3.out.below b4)
        clear b4 M4
        go_wp2_with fail

        refine (itoa_any k _ (by omega) (HT.out.below HM4.out.below)).mono ?_
        rintro e w8 ⟨rfl, b8⟩
        have M8 := HM4.out.quiet b8
        obtain ⟨y0, y1, y2, y3, y4⟩ := five M8 0 rfl
        have z3 : w8.cell? ⟨w.heap.size + 1, 0, none⟩ = some (.slice (some ⟨b2, o2, none⟩) L.length cc) := M8.cell 3 rfl 0 rfl
        have HM4 := Tre.hid M8
        have XA4 := Tre.hid (XA4.out.below b8)
        have XL4 := Tre.hid (XL4.out.below b8)
        have hcat0 : ¬ (9223372036854775807 < (decDigits V).length + 1 + (1 + (decDigits k).length)) := by omega
        clear b8 M8
        go_wp2_with fail

        have hstl : ((((⟨(decDigits V).toArray⟩ : ByteArray) ++ ⟨#[58]⟩) ++ (⟨#[35]⟩ ++ ⟨(decDigits k).toArray⟩))).size ≤ 64 := by
          simp only [ByteArray.size_append, size_mk]
          simp only [List.length_cons, List.length_nil]
          omega
        have HST : Hid (((((⟨(decDigits V).toArray⟩ : ByteArray) ++ ⟨#[58]⟩) ++ (⟨#[35]⟩ ++ ⟨(decDigits k).toArray⟩))).data.toList = decDigits V ++ 58 :: (if true = true then 35 :: decDigits k else [])) := by
          show _ = _
          simp [ByteArray.data_append]
        generalize (((⟨(decDigits V).toArray⟩ : ByteArray) ++ ⟨#[58]⟩) ++ (⟨#[35]⟩ ++ ⟨(decDigits k).toArray⟩)) = st at *
        clear hcat0

        refine (look_any X ax lx cx dx (w.heap.size + 1) (some ⟨b2, o2, none⟩) cc L _ XA4.out XL4.out z3 (HC.out.below HM4.out.below) HKN.out HL.out (by have := HXW.out; omega) HW.out.kind (HT.out.below HM4.out.below)).mono ?_
        rintro e w5 ⟨rfl, b5⟩
        have HM5 := Tre.hid (HM4.out.quiet b5)
        have hlk := HLKL.out
        have HKX := HKEY.out
        clear b5
        generalize hgl2 : lookL X (fun a => L.getD a 0) = lk at *
        have HS : Hid (st ++ ⟨lk.toArray⟩ = mkB (g.keyL cl k)) := by
          show _ = _
          apply data_inj
          rw [mkB_data, HKX, ByteArray.data_append, Array.toList_append, HST.out, HFR.out]
          simp
        have hcat : ¬ (9223372036854775807 < st.size + lk.length) := by have := HXW.out; omega
        have hss : (st ++ ⟨lk.toArray⟩).size ≤ maxLen := by
          rw [ByteArray.size_append, size_mk lk]
          unfold maxLen
          omega
        have HSS := Tre.hid hss
        obtain ⟨u0, hu0⟩ : ∃ u0, Hid ((doneL (g.refineC cl) g.ns.length k)[k]? = some u0) := ⟨_, List.getElem?_eq_getElem (by rw [doneL_len]; exact hlt)⟩
        have q0 := HM5.out.cellAt 1 rfl k hu0.out
        clear hgl2 hlk HKX hss hstl
        by_cases hin : g.keyL cl k ∈ (List.range k).map (g.keyL cl)
        · obtain ⟨f1, f2⟩ := first_old hin
          have hrc : ((List.range k).map (g.keyL cl)).idxOf (g.keyL cl k) = g.refineC cl k := rfl
          rw [hrc, ← HS.out] at f1
          have HF1 := Tre.hid f1
          have HF2 := Tre.hid f2
          have HD := Tre.hid (doneL_set (g.refineC cl) hlt)
          have q0f := HM5.out.freeAt 1 rfl k
          clear f1 f2 hrc hin
          generalize g.refineC cl k = r at *
          go_wp2_with (first
            | (refine wpList_look_some rfl _ _ 75 rfl 3 K inj Tryd.underlying75 (zi _) rfl (HM5.out.map 2 rfl) (st ++ ⟨lk.toArray⟩) rfl (ky _ HSS.out) r HF1.out ?_)
            | (refine wpList_look1_some rfl _ _ 75 rfl 3 K inj Tryd.underlying75 (zi _) rfl (HM5.out.map 2 rfl) (st ++ ⟨lk.toArray⟩) rfl (ky _ HSS.out) r HF1.out ?_))
          have HM6 := Tre.hid (HM5.out.setRow 1 rfl k (rk r))
          go_roundw
          case rel =>
            have h := HM6.out.del 0
            rw [HD.out, HF2.out] at h
            exact ⟨k + 1, N, by omega, by go_num, h⟩
          case measure => simp [intOf]; omega
        · obtain ⟨f1, f2, f3⟩ := first_new hin
          have hrc : ((List.range k).map (g.keyL cl)).idxOf (g.keyL cl k) = g.refineC cl k := rfl
          rw [hrc] at f3
          rw [← HS.out] at f1 f2
          have f4 : upd (firstM (g.keyL cl) k) (st ++ ⟨lk.toArray⟩) k (st ++ ⟨lk.toArray⟩) = some k := upd_same _ _ _
          have HF1 := Tre.hid f1
          have HF2 := Tre.hid f2
          have HF4 := Tre.hid f4
          have HD := Tre.hid (doneL_set (g.refineC cl) hlt)
          rw [f3] at HD
          clear f1 f2 f3 f4 hrc hin
          go_wp2_with (first
            | (refine wpList_look_none rfl _ _ 75 rfl 3 K inj Tryd.underlying75 (zi _) rfl (HM5.out.map 2 rfl) (st ++ ⟨lk.toArray⟩) rfl (ky _ HSS.out) HF1.out ?_)
            | (refine wpList_store rfl _ _ _ 75 (.inl rfl) 3 K inj Tryd.underlying75 rfl (HM5.out.map 2 rfl) (st ++ ⟨lk.toArray⟩) rfl (ky _ HSS.out) k rfl ?_; intro w6 hm6 hg6; have HM6 := Tre.hid (HM5.out.put 2 rfl hg6 hm6); have q0 := HM6.out.cellAt 1 rfl k hu0.out; have q0f := HM6.out.freeAt 1 rfl k; clear hm6 hg6)
            | (refine wpList_look1_some rfl _ _ 75 rfl 3 K inj Tryd.underlying75 (zi _) rfl (HM6.out.map 2 rfl) (st ++ ⟨lk.toArray⟩) rfl (ky _ HSS.out) k HF4.out ?_))
          have HM7 := Tre.hid (HM6.out.setRow 1 rfl k (rk k))
          go_roundw
          case rel =>
            have h := HM7.out.del 0
            rw [HD.out, HF2.out] at h
            exact ⟨k + 1, _, by omega, by go_num, h⟩
          case measure => simp [intOf]; omega
    · have e : k = g.ns.length := by omega
      have hM' := hM.out
      rw [e, doneL_all] at hM'
      have HM2 := Tre.hid hM'
      clear hM hM' e
      go_wp2_with fail
      go_ret
      refine ⟨_, rfl, ?_⟩
      have h := ((HM2.out.del 1).del 1).del 1
      rw [← HR.out] at h
      exact h
end Go.Proofs.YtlkfhbmjemjohaaDoor.gr
namespace Go.Proofs.YtlkfhbmjemjohaaDoor.gr
open Go.RowKit Go.Shelf Go.Maps Go.Tre lex

set_option maxRecDepth 100000 in
set_option maxHeartbeats 4000000 in
theorem trim_any (a : Option Addr) (ca : Nat) (g : Tre.Graph) (w : World) (hg : NodesAt w a g.ns) (wg : g.weight ≤ 2097152) (hm : MaxAt w) :
    Calls Tryd.prog 39 #[.agg #[.slice a g.ns.length ca, .int .i64 g.root]] w fun e w' =>
      ∃ v ds, e = .returned (.agg #[v, .int .i64 0]) ∧ ds.map NodeV.n = g.trim.ns ∧ Mem w w' [nodesR v ds, kidsR ds] := by
  have M0 : Mem w ((w.alloc (.cells #[.slice a g.ns.length ca, .int .i64 g.root] 24)).alloc (.cells #[.slice none 0 0, .int .i64 0] 24)) _ := ((Mem.nil w).allocR #[.slice a g.ns.length ca, .int .i64 g.root] 24).allocR #[.slice none 0 0, .int .i64 0] 24
  have z1 : (w.alloc (.cells #[.slice a g.ns.length ca, .int .i64 g.root] 24)).heap.size = w.heap.size + 1 := by simp
  rw [z1] at M0
  have HM := Tre.hid hm
  have HG := Tre.hid hg
  have HM0 := Tre.hid M0
  have hrl := g.reach_lt
  have HRL := Tre.hid hrl
  have HRK := Tre.hid (fun (a : Nat) (ha : a ∈ g.reachL) => g.reach_kids ha)
  have HND := Tre.hid g.reach_nodup
  have HOK := Tre.hid (fun (a : Nat) (ha : a ∈ g.reachL) => g.reach_ok ha)
  have hln : g.reachL.length ≤ 2097152 := Nat.le_trans g.reach_len wg
  have hgl : g.ns.length ≤ 2097152 := Nat.le_trans (length_le_sum _ (fun n => by unfold Tre.Node.weight; omega) g.ns) wg
  clear hg hm M0 hrl z1
  go_enter Tryd.func39, Tryd.ntmps39
  go_wp2_with fail
  refine (reach_any a ca g _ (HG.out.below HM0.out.below) wg (HM.out.below HM0.out.below)).mono ?_
  rintro e w1 ⟨vl, rfl, m1⟩
  have M1 := HM0.out.call m1
  obtain ⟨al, cl, rfl, hcl⟩ := M1.val 0 rfl
  have hmk : ∀ (n : Int) (w : World), (Instr.makeMap 33 (some (.int .i64 n))).run Tryd.prog w = .ok (.map (some w.heap.size)) (w.alloc (.map #[] 0)) := fun n w => by
    simp [Instr.makeMap, run_underlying Tryd.underlying33, asInt, asIntOf, newObj]; rfl
  have M2 := M1.allocMap Tryd.prog 3 en en
  have HM2 := Tre.hid M2
  obtain ⟨ii, I1, I2, I3, I4⟩ := info_parts infoN
  have J1 := Tre.hid I1
  have J2 := Tre.hid I2
  have J3 := Tre.hid I3
  have J4 := Tre.hid I4
  clear m1 M1 M2 I1 I2 I3 I4
  generalize hL : g.reachL = L at *
  have HL := Tre.hid hL
  clear hL
  go_wp2_with fail
  go_loopw [19] (fun v19 wr => ∃ k N : Nat, k ≤ L.length ∧ v19 = .int .i64 k ∧
      Hid (Mem w wr [mapR Tryd.prog 3 en en w1.heap.size N (idxMap L k), rowR 3 1 (.slice al L.length cl) L.length (L.map rk), cellsR (w.heap.size + 1) 24 #[.slice none 0 0, .int .i64 0], cellsR w.heap.size 24 #[.slice a g.ns.length ca, .int .i64 g.root]]))
    (fun v19 _ => L.length - (intOf v19).toNat)
  case atStart => exact ⟨0, 0, Nat.zero_le _, rfl, by have e : idxMap L 0 = fun _ => none := (by funext x; simp [idxMap]); rw [e]; exact HM2.out⟩
  case round =>
    obtain ⟨k, N, hk, rfl, hM⟩ := hrel
    by_cases hlt : k < L.length
    · obtain ⟨gl, rfl, hgl, hgl2, hcl'⟩ := hM.out.getRow 1 rfl k (u := rk L[k]) (by rw [List.getElem?_map, List.getElem?_eq_getElem hlt]; rfl)
      have hxl : L[k] < g.ns.length := HRL.out _ (List.getElem_mem hlt)
      have HS := Tre.hid (idxMap_succ HND.out hlt)
      generalize L[k] = x at *
      have hcl2 : wr.cell? ⟨gl, k, none⟩ = some (.int .i64 (x : Int)) := hcl'
      clear hcl'
      go_wp2_with (refine wpList_store rfl _ _ _ 33 (.inl rfl) 3 KI injN Tryd.underlying33 rfl (hM.out.map 0 rfl) x rfl (kn x (by omega)) k rfl ?_; intro w2 hm2 hg2; have M3 := hM.out.put 0 rfl hg2 hm2; have HM3 := Tre.hid M3; clear M3 hm2 hg2)
      go_roundw
      case rel => exact ⟨k + 1, _, by omega, by go_num, by have := HM3.out; rw [HS.out] at this; exact this⟩
      case measure => simp [intOf]; omega
    · have e : k = L.length := by omega
      have hM' := hM.out
      rw [e] at hM'
      have HM3 := Tre.hid hM'
      clear hM hM' e
      go_wp2_with fail
      obtain ⟨wo, rfl⟩ : ∃ wo : World, wo = wr := ⟨_, rfl⟩
      go_loopw [30] (fun v30 wr => ∃ (k : Nat) (vN : Value) (ds : List NodeV), k ≤ L.length ∧ v30 = .int .i64 k ∧ Hid (ds.map NodeV.n = (L.take k).map fun i => trimNode L (g.nd i)) ∧
          Hid (Mem w wr [nodesR vN ds, kidsR ds, mapR Tryd.prog 3 en en w1.heap.size N (idxMap L L.length), rowR 3 1 (.slice al L.length cl) L.length (L.map rk), cellsR (w.heap.size + 1) 24 #[vN, .int .i64 0], cellsR w.heap.size 24 #[.slice a g.ns.length ca, .int .i64 g.root]]))
        (fun v30 _ => L.length - (intOf v30).toNat)
      case atStart =>
        exact ⟨0, .slice none 0 0, [], Nat.zero_le _, rfl, rfl, HM3.out.addMany.addNil 39 5⟩
      case round =>
        obtain ⟨k, vN, ds, hk, rfl, hds, hM⟩ := hrel
        obtain ⟨aN, cN, rfl, _⟩ := hM.out.val 0 rfl
        by_cases hlt : k < L.length
        · have hmem := List.getElem_mem hlt
          obtain ⟨gl, rfl, hgl, hgl2, hcl'⟩ := hM.out.getRow 3 rfl k (u := rk L[k]) (by rw [List.getElem?_map, List.getElem?_eq_getElem hlt]; rfl)
          have hxl : L[k] < g.ns.length := HRL.out _ hmem
          have HTK : Hid (L.take (k + 1) = L.take k ++ [L[k]]) := by show _ = _; rw [List.take_add_one, List.getElem?_eq_getElem hlt]; rfl
          have hkk := HRK.out _ hmem
          have hax := (HOK.out _ hmem).kids_eq hxl
          have HAX := Tre.hid hax
          have HKK := Tre.hid hkk
          clear hax hkk
          generalize hx : L[k] = x at *
          have hcl2 : wr.cell? ⟨gl, k, none⟩ = some (.int .i64 (x : Int)) := hcl'
          obtain ⟨b1, o1, rfl, nx⟩ := (HG.out.below hM.out.below).at_ x (g.nd x) (by rw [Graph.nd_eq hxl]; exact List.getElem?_eq_getElem hxl)
          have hXw : (g.nd x).weight ≤ g.weight := by rw [Graph.nd_eq hxl]; exact node_weight (List.getElem_mem hxl)
          have hlab : (g.nd x).labels.length + (g.nd x).args.length ≤ 4194304 := by have h1 := args_len (g.nd x); have h2 := labels_len (g.nd x); omega
          generalize hX : g.nd x = X at *
          have HX := Tre.hid hX
          obtain ⟨ax, cx, lx, dx, x0, x1, x2, x3, x4, xA, xL, _, _⟩ := nx
          have c0 : wr.cell? ⟨w.heap.size, 0, none⟩ = some (.slice (some ⟨b1, o1, none⟩) g.ns.length ca) := hM.out.cell 5 rfl 0 rfl
          have MA := hM.out.allocR #[.int .i64 X.kind, .string X.name, .slice ax X.args.length cx, .slice lx X.labels.length dx, .bool X.isOpen] 39
          have HMA := Tre.hid MA
          have XA := Tre.hid (xA.below (Below.refl _ _))
          have XL := Tre.hid (xL.below (Below.refl _ _))
          have BA := Tre.hid ((Below.refl wr.heap.size wr).alloc (Nat.le_refl _) (.cells #[.int .i64 X.kind, .string X.name, .slice ax X.args.length cx, .slice lx X.labels.length dx, .bool X.isOpen] 39))
          clear hX hcl' hx xA xL hmem hXw MA
          go_wp2_with fail
          refine (cloneStrs lx dx X.labels _ (XL.out.below BA.out) (by omega)).mono ?_
          rintro e w2 ⟨vl2, rfl, m2⟩
          have M2 := HMA.out.call m2
          obtain ⟨al2, cl2, rfl, _⟩ := M2.val 0 rfl
          have n2 : w2.cell? ⟨wr.heap.size, 2, none⟩ = some (.slice ax X.args.length cx) := M2.cell 1 rfl 2 rfl
          have n3 : w2.cell? ⟨wr.heap.size, 3, none⟩ = some (.slice lx X.labels.length dx) := M2.cell 1 rfl 3 rfl
          have n3f := M2.free 1 rfl 3
          have M3 := M2.setCell 1 rfl 3 (.slice al2 X.labels.length cl2)
          have HM3 := Tre.hid M3
          have B2 : Below wr.heap.size wr w2 := BA.out.trans (m2.below.mono (by simp))
          have B3 : Below wr.heap.size wr (w2.setCell ⟨wr.heap.size, 3, none⟩ (.slice al2 X.labels.length cl2)) := B2.setCell (Nat.le_refl _) _
          have HB3 := Tre.hid B3
          clear m2 M2 M3 B2 B3
          go_wp2_with fail
          refine (cloneInts ax cx X.args _ (XA.out.below HB3.out) (by omega)).mono ?_
          rintro e w3 ⟨va3, rfl, m3⟩
          have M4 := HM3.out.call m3
          obtain ⟨aA, cA, rfl, _⟩ := M4.val 0 rfl
          have k2 : w3.cell? ⟨wr.heap.size, 2, none⟩ = some (.slice ax X.args.length cx) := M4.cell 2 rfl 2 rfl
          have k2f := M4.free 2 rfl 2
          have M5 := M4.setCell 2 rfl 2 (.slice aA X.args.length cA)
          have HM5 := Tre.hid M5
          clear M4 M5 m3 n2 n3 n3f
          go_wp2_with fail
          have k5 : Mem w (w3.setCell ⟨wr.heap.size, 2, none⟩ (.slice aA X.args.length cA)) [rowR 3 1 (.slice aA X.args.length cA) X.args.length ((half (placeOf L) X.args 0).map (Value.int .i64)), rowR 9 1 (.slice al2 X.labels.length cl2) X.labels.length (X.labels.map Value.string),
              cellsR wr.heap.size 39 #[.int .i64 X.kind, .string X.name, .slice aA X.args.length cA, .slice al2 X.labels.length cl2, .bool X.isOpen], nodesR (.slice aN ds.length cN) ds, kidsR ds, mapR Tryd.prog 3 en en w1.heap.size N (idxMap L L.length),
              rowR 3 1 (.slice (some ⟨gl, 0, none⟩) L.length cl) L.length (L.map rk), cellsR (w.heap.size + 1) 24 #[.slice aN ds.length cN, .int .i64 0], cellsR w.heap.size 24 #[.slice (some ⟨b1, o1, none⟩) g.ns.length ca, .int .i64 g.root]] := by
            rw [half_zero]; exact HM5.out
          have HK5 := Tre.hid k5
          clear k5
          obtain ⟨wp, rfl⟩ : ∃ wp : World, wp = wr := ⟨_, rfl⟩
          go_loopw [50] (fun v50 wi => ∃ j : Nat, j ≤ X.args.length ∧ v50 = .int .i64 j ∧
              Hid (Mem w wi [rowR 3 1 (.slice aA X.args.length cA) X.args.length ((half (placeOf L) X.args j).map (Value.int .i64)), rowR 9 1 (.slice al2 X.labels.length cl2) X.labels.length (X.labels.map Value.string),
              cellsR wp.heap.size 39 #[.int .i64 X.kind, .string X.name, .slice aA X.args.length cA, .slice al2 X.labels.length cl2, .bool X.isOpen], nodesR (.slice aN ds.length cN) ds, kidsR ds, mapR Tryd.prog 3 en en w1.heap.size N (idxMap L L.length),
              rowR 3 1 (.slice (some ⟨gl, 0, none⟩) L.length cl) L.length (L.map rk), cellsR (w.heap.size + 1) 24 #[.slice aN ds.length cN, .int .i64 0], cellsR w.heap.size 24 #[.slice (some ⟨b1, o1, none⟩) g.ns.length ca, .int .i64 g.root]]))
            (fun v50 _ => X.args.length - (intOf v50).toNat)
          case atStart => exact ⟨0, Nat.zero_le _, rfl, HK5.out⟩
          case round =>
            obtain ⟨j, hj, rfl, hI⟩ := hrel
            have n2 : wr.cell? ⟨wp.heap.size, 2, none⟩ = some (.slice aA X.args.length cA) := hI.out.cell 2 rfl 2 rfl
            by_cases hjl : j < X.args.length
            · obtain ⟨gA, rfl, hgA, hgA2, hA⟩ := hI.out.getRow 0 rfl j (u := .int .i64 X.args[j]) (by rw [List.getElem?_map, half_at _ _ hjl]; rfl)
              have hAf := hI.out.freeAt 0 rfl j
              have HSH := Tre.hid (half_set (placeOf L) X.args hjl)
              have hin : X.args[j].toNat ∈ L := HKK.out _ (by unfold Graph.kids; rw [HX.out]; exact List.mem_map.2 ⟨_, List.getElem_mem hjl, rfl⟩)
              have hlt2 := HRL.out _ hin
              have hnn : (0 : Int) ≤ X.args[j] := by
                have h9 : ∀ z ∈ X.args, (0 : Int) ≤ z := by
                  rw [HAX.out]
                  intro z hz
                  obtain ⟨q, _, e⟩ := List.mem_map.1 hz
                  omega
                exact h9 _ (List.getElem_mem hjl)
              have hpl : placeOf L X.args[j] = ((L.idxOf X.args[j].toNat : Nat) : Int) := rfl
              have HPL := Tre.hid hpl
              have HIM := Tre.hid (idxMap_all L hin)
              obtain ⟨y, hy⟩ : ∃ y : Nat, X.args[j] = (y : Int) := ⟨_, (Int.toNat_of_nonneg hnn).symm⟩
              rw [hy] at hA HSH HPL HIM hlt2
              rw [Int.toNat_natCast] at HIM HPL hlt2
              have hlx : L.idxOf y < 8388608 := by have := List.idxOf_le_length (a := y) (l := L); omega
              generalize hpy : L.idxOf y = py at *
              have i1 : (0 : Int) ≤ j := by omega
              have i2 : (j : Int) < X.args.length := by omega
              have mm := hI.out.map 5 rfl
              have MS := hI.out.setRow 0 rfl j (.int .i64 (py : Int))
              have HMS := Tre.hid MS
              clear MS hpy hpl hy hin
              go_wp2_with (refine wpList_look1_some rfl _ _ 33 rfl 3 KI injN Tryd.underlying33 (zi _) rfl mm y rfl (kn y (by omega)) py HIM.out ?_)
              go_roundw
              case rel =>
                refine ⟨j + 1, by omega, by go_num, ?_⟩
                have e : ((half (placeOf L) X.args j).map (Value.int .i64)).set j (.int .i64 (py : Int)) = (half (placeOf L) X.args (j + 1)).map (Value.int .i64) := by rw [← HSH.out, List.map_set, HPL.out]
                have := HMS.out
                rw [e] at this
                exact this
              case measure => simp [intOf]; omega
            · have e : j = X.args.length := by omega
              have hI' := hI.out
              rw [e, half_all] at hI'
              have MB := hI'.alloc (.cells #[.int .i64 X.kind, .string X.name, .slice aA X.args.length cA, .slice al2 X.labels.length cl2, .bool X.isOpen] 39)
              have HMB := Tre.hid MB
              have r0 : wr.cell? ⟨wp.heap.size, 0, none⟩ = some (.int .i64 X.kind) := hI.out.cell 2 rfl 0 rfl
              have r1 : wr.cell? ⟨wp.heap.size, 1, none⟩ = some (.string X.name) := hI.out.cell 2 rfl 1 rfl
              have r3 : wr.cell? ⟨wp.heap.size, 3, none⟩ = some (.slice al2 X.labels.length cl2) := hI.out.cell 2 rfl 3 rfl
              have r4 : wr.cell? ⟨wp.heap.size, 4, none⟩ = some (.bool X.isOpen) := hI.out.cell 2 rfl 4 rfl
              have r5 : wr.cell? ⟨w.heap.size + 1, 0, none⟩ = some (.slice aN ds.length cN) := hI.out.cell 7 rfl 0 rfl
              have hdl : ds.length = k := by have := congrArg List.length hds.out; simp at this; omega
              have hdl' : ds.length ≤ 2097152 := by omega
              have HDL := Tre.hid hdl
              clear hI hI' e MB hdl
              go_wp2_with (at_builtin; refine wpList_append_own_at _ rfl _ _ 22 rfl 0 39 ii _ 5 80 Tryd.underlying22 J1.out J2.out J3.out J4.out rfl (by omega) (.slice aN ds.length cN) ds.length (ds.flatMap NodeV.cells) rfl (HMB.out.row 3 rfl) ⟨wr.heap.size, 0, none⟩ 1 1 [.int .i64 X.kind, .string X.name, .slice aA X.args.length cA, .slice al2 X.labels.length cl2, .bool X.isOpen] rfl rfl (World.news_of_block (cs := #[.int .i64 X.kind, .string X.name, .slice aA X.args.length cA, .slice al2 X.labels.length cl2, .bool X.isOpen]) (t := 39) (fr := (0, 0)) (heap_alloc_new wr _)) (by simp [Value.oneCell']) (by unfold maxLen; omega) (by omega) (Nat.zero_le _) ?_; intro v' w4 hown4 hgrow4 hnil4 hat4; have M4 := HMB.out.grow 3 rfl hgrow4 hown4 hat4; obtain ⟨a4, c4, rfl, _⟩ := M4.val 3 rfl; have r6 : w4.cell? ⟨w.heap.size + 1, 0, none⟩ = some (.slice aN ds.length cN) := M4.cell 7 rfl 0 rfl; have r6f := M4.free 7 rfl 0; have M5 := M4.setCell 7 rfl 0 (.slice a4 (ds.length + 1) c4); have HM5 := Tre.hid M5; clear M4 M5 hown4 hgrow4 hnil4 hat4)
              go_roundw
              case rel =>
                have hk : kids ⟨trimNode L X, .slice aA X.args.length cA, .slice al2 X.labels.length cl2⟩ = [rowR 3 1 (.slice aA X.args.length cA) X.args.length ((X.args.map (placeOf L)).map (Value.int .i64)), rowR 9 1 (.slice al2 X.labels.length cl2) X.labels.length (X.labels.map Value.string)] := by
                  simp [kids, trimNode]
                refine ⟨k + 1, .slice a4 (ds.length + 1) c4, ds ++ [⟨trimNode L X, .slice aA X.args.length cA, .slice al2 X.labels.length cl2⟩], by omega, by go_num, ?_, ?_⟩
                · show _ = _
                  rw [List.map_append, hds.out, HTK.out, List.map_append, List.map_singleton, List.map_singleton, HX.out]
                · show Mem _ _ _
                  rw [nodesR_snoc, kidsR_snoc, hk]
                  exact HM5.out.push2
              case measure => simp [intOf]; omega
        · have e : L.take k = L := List.take_of_length_le (by omega)
          have hd := hds.out
          rw [e] at hd
          have HD := Tre.hid hd
          have q0 : wr.cell? ⟨w.heap.size + 1, 0, none⟩ = some (.slice aN ds.length cN) := hM.out.cell 4 rfl 0 rfl
          have q1 : wr.cell? ⟨w.heap.size + 1, 1, none⟩ = some (.int .i64 0) := hM.out.cell 4 rfl 1 rfl
          have q0f := hM.out.free 4 rfl 0
          have q1f := hM.out.free 4 rfl 1
          have M6 := (hM.out.setCell 4 rfl 0 (.slice aN ds.length cN)).setCell 4 rfl 1 (.int .i64 0)
          have HM6 := Tre.hid M6
          clear e hd hds M6
          go_wp2_with fail
          have z0 : ((wr.setCell ⟨w.heap.size + 1, 0, none⟩ (.slice aN ds.length cN)).setCell ⟨w.heap.size + 1, 1, none⟩ (.int .i64 0)).cell? ⟨w.heap.size + 1, 0, none⟩ = some (.slice aN ds.length cN) := HM6.out.cell 4 rfl 0 rfl
          have z1 : ((wr.setCell ⟨w.heap.size + 1, 0, none⟩ (.slice aN ds.length cN)).setCell ⟨w.heap.size + 1, 1, none⟩ (.int .i64 0)).cell? ⟨w.heap.size + 1, 1, none⟩ = some (.int .i64 0) := HM6.out.cell 4 rfl 1 rfl
          refine bodyPost_ret (v := .agg #[.slice aN ds.length cN, .int .i64 0]) (by simp [results, Tryd.results39, go_sem, z0, z1]) rfl ⟨_, ds, rfl, ?_, HM6.out.sub (by simp)⟩
          rw [HD.out]
          unfold Graph.trim
          rw [HL.out]
end Go.Proofs.YtlkfhbmjemjohaaDoor.gr
