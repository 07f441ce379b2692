/- solve: objects: two objects of the same labels. Labels that rise, plain. solve: the solver of a graph; both at two nodes that are alike. -/
import Derived.Test.YtlkfhbmjemjohaaGreatDoorB09
import Derived.Deep.LoopGhost
import Derived.Test.YtlkfhbmjemjohaaGreatDoorB01
import Derived.Sort.Walk0
set_option linter.unusedVariables false
namespace Go.Tre
open Go.RowKit Go.Maps Go.MapKept Go.ChangeMaps
theorem run_len_m {P : Program} {w : World} {b : Nat} {es : Array MapEntry} {clock : Nat} {t k e : TypeId} (h : w.heap[b]? = some (.map es clock)) (ht : P.underlying t = some (.map k e)) (ty : TypeId) : (Builtin.len_ #[t] ty #[.map (some b)]).run P w = .ok (.int .i64 (es.size : Int)) w := by
 simp [Builtin.len_, run_underlying ht, MapKept.run_getObj_map h, goInt, Result.andThen]
end Go.Tre
namespace Go.Proofs.YtlkfhbmjemjohaaGreatDoor.sol
open Go.RowKit Go.Shelf Go.Maps Go.MapKept Go.ChangeMaps Go.Tre lex gr
def pairK (X Y : Tre.Node) (k : Nat) : Nat × Nat := ((X.args.getD k 0).toNat, (Y.args.getD k 0).toNat)
structure Met (es : Array MapEntry) (X Y : Tre.Node) (left : List MapEntry) (new : List (Nat × Nat)) : Prop where
 cnt : new.length + left.length = X.labels.length
 all : ∀ e ∈ es.toList, e ∈ left ∨ ∃ k, k < X.labels.length ∧ e.key = .string (X.labels.getD k ByteArray.empty) ∧ pairK X Y k ∈ new
 of_ : ∀ p ∈ new, ∃ k, k < X.labels.length ∧ p = pairK X Y k
theorem Met.start {es : Array MapEntry} {X Y : Tre.Node} (h : es.size = X.labels.length) : Met es X Y es.toList [] :=
 ⟨by simp [h], fun e he => .inl he, fun p hp => by cases hp⟩
theorem Met.step {es : Array MapEntry} {X Y : Tre.Node} {left left' : List MapEntry} {new : List (Nat × Nat)} (h : Met es X Y left new) {e : MapEntry} (hp : left.Perm (e :: left')) {k : Nat} (hk : k < X.labels.length) (he : e.key = .string (X.labels.getD k ByteArray.empty)) :
  Met es X Y left' (new ++ [pairK X Y k]) := by
 refine ⟨?_, fun x hx => ?_, fun p hp => ?_⟩
 ·have h1 := h.cnt
  have h2 := hp.length_eq
  rw [List.length_cons] at h2
  rw [List.length_append, List.length_singleton]; omega
 ·rcases h.all x hx with h1 | ⟨j, hj, e1, e2⟩
  ·rcases List.mem_cons.1 (hp.mem_iff.1 h1) with rfl | h2
   ·exact .inr ⟨k, hk, he, List.mem_append.2 (.inr (by simp))⟩
   ·exact .inl h2
  ·exact .inr ⟨j, hj, e1, List.mem_append.2 (.inl e2)⟩
 ·rcases List.mem_append.1 hp with hp | hp
  ·exact h.of_ p hp
  ·rw [List.mem_singleton] at hp; exact ⟨k, hk, hp⟩
theorem Met.done {es : Array MapEntry} {X Y : Tre.Node} {new : List (Nat × Nat)} (h : Met es X Y [] new) (hn : X.labels.Nodup) (hes : ∀ k, k < X.labels.length → ∃ e ∈ es.toList, e.key = .string (X.labels.getD k ByteArray.empty)) : ∀ k, k < X.labels.length → pairK X Y k ∈ new := by
 intro k hk
 obtain ⟨e, he, e1⟩ := hes k hk
 rcases h.all e he with h1 | ⟨j, hj, e2, e3⟩
 ·cases h1
 ·rw [e1] at e2
  injection e2 with e2
  rw [List.getD_eq_getElem?_getD, List.getD_eq_getElem?_getD, List.getElem?_eq_getElem hk, List.getElem?_eq_getElem hj] at e2
  have : k = j := (List.getElem_inj hn).1 e2
  rw [this]; exact e3
set_option maxRecDepth 100000 in
set_option maxHeartbeats 8000000 in
theorem objects_ok (s : Nat) (nx ny : ByteArray) (o : Bool) (cs : List ClsV) (cX cY : ClsV) (hX : cX ∈ cs) (hY : cY ∈ cs) (kX : cX.n.kind = 3) (kY : cY.n.kind = 3) (hl : cY.n.labels = cX.n.labels) (hnd : cX.n.labels.Nodup) (laX : cX.n.labels.length = cX.n.args.length) (laY : cY.n.labels.length = cY.n.args.length)
  (hs : ∀ l ∈ cX.n.labels, l.size ≤ 4194304) (hlen : cX.n.labels.length ≤ 8388608) (vO vR vH : Value) (aW : Option Addr) (cW : Nat) (waits : List (Nat × Nat)) (w0 w : World) (rs : List Res) (hw : waits.length ≤ 1099511627776)
  (hM : Mem w0 w (cellsR s 64 #[vO, vR, vH, .slice aW waits.length cW] :: rowR 34 2 (.slice aW waits.length cW) waits.length (pairCells waits) :: mapsR cs :: rs)) :
  Calls Tryz.prog 62 #[.pointer (some ⟨s, 0, none⟩), .agg #[.int .i64 3, .string nx, .slice none 0 0, .map (some cX.bm), .bool o], .agg #[.int .i64 3, .string ny, .slice none 0 0, .map (some cY.bm), .bool o]] w
   fun e w' => e = .returned (.tuple #[.agg #[.int .i64 3, .string ny, .slice none 0 0, .map (some cY.bm), .bool o], .bool true]) ∧ ∃ (q new : List (Nat × Nat)) (a1 : Option Addr) (c1 : Nat), q = waits ++ new ∧ new.length = cX.n.labels.length ∧ (∀ p ∈ new, ∃ k, k < cX.n.labels.length ∧ p = pairK cX.n cY.n k) ∧ (∀ k, k < cX.n.labels.length → pairK cX.n cY.n k ∈ new) ∧
    Mem w0 w' (cellsR s 64 #[vO, vR, vH, .slice a1 q.length c1] :: rowR 34 2 (.slice a1 q.length c1) q.length (pairCells q) :: mapsR cs :: rs) := by
 have HL := Tre.hid hl
 have HND := Tre.hid hnd
 have HSZ := Tre.hid hs
 have HKY := Tre.hid kY
 have HY := Tre.hid hY
 obtain ⟨pi, I1, I2, I3, I4⟩ := info_parts infoP
 have P1 := Tre.hid I1
 have P2 := Tre.hid I2
 have P3 := Tre.hid I3
 have P4 := Tre.hid I4
 have M0 := ((hM.allocR #[.int .i64 3, .string nx, .slice none 0 0, .map (some cX.bm), .bool o] 72).allocR #[.int .i64 3, .string ny, .slice none 0 0, .map (some cY.bm), .bool o] 72).allocR #[.int .i64 0, .string ⟨#[]⟩, .slice none 0 0, .map none, .bool false] 72
 simp only [heapSize_alloc] at M0
 obtain ⟨es, clock, hown, M1, hbl, hst, hsz, hen, hes⟩ := mapsR_open hX kX hnd laX (M0.front 5 rfl)
 have hrange := run_range_map (P := Tryz.prog) _ 44 9 3 cX.bm es clock Tryz.underlying44 hbl
 simp only [heapSize_alloc] at hrange
 have HME := Tre.hid (Met.start (Y := cY.n) hsz)
 have HST := Tre.hid hst
 have HSE := Tre.hid hsz
 have HEN := Tre.hid hen
 have HES := Tre.hid hes
 have M2 := M1.rangeL (b := cX.bm) hst
 simp only [heapSize_alloc] at M2
 have HM0 := Tre.hid M2
 have hsz' : es.size ≤ 8388608 := by omega
 clear hX hY kX kY hl hnd laX laY hs hM M0 M1 M2 hst hsz hen hes I1 I2 I3 I4
 go_enter Tryz.func62, Tryz.ntmps62
 go_wp2_with fail
 generalize hz0 : w.heap.size + 1 + 1 + 1 = bR at *
 generalize hz1 : w.heap.size + 1 + 1 = bZ at *
 generalize hz2 : w.heap.size + 1 = bY at *
 generalize hz3 : w.heap.size = bX at *
 generalize hww : World.alloc _ (.mapIter (some cX.bm) clock #[] clock) = w1 at HM0 ⊢
 clear hrange hbl hz0 hz1 hz2 hz3 hww
 go_loopg [8] es.size (fun gk v8 wr => ∃ (u8 : Value) (left : List MapEntry) (q new : List (Nat × Nat)) (a1 : Option Addr) (c1 : Nat), v8 = u8 ∧ gk = left.length ∧ Hid (q = waits ++ new) ∧ Hid (Met es cX.n cY.n left new) ∧ Hid (Mem w0 wr (iterL bR cX.bm es clock left :: withR (mapsR cs) cX.bm es clock hown :: cellsR bZ 72 #[.int .i64 0, .string ⟨#[]⟩, .slice none 0 0, .map none, .bool false] :: cellsR bY 72 #[.int .i64 3, .string ny, .slice none 0 0, .map (some cY.bm), .bool o] :: cellsR bX 72 #[.int .i64 3, .string nx, .slice none 0 0, .map (some cX.bm), .bool o] ::
  cellsR s 64 #[vO, vR, vH, .slice a1 q.length c1] :: rowR 34 2 (.slice a1 q.length c1) q.length (pairCells q) :: rs)))
 case atStart => exact ⟨_, es.toList, waits, [], aW, cW, rfl, by simp, by show _ = _; simp, HME.out, HM0.out⟩
 case round =>
  clear HM0 HME
  obtain ⟨u8, left, q, new, a1, c1, rfl, hgk, HQ, HMT, HM⟩ := hrel
  have hql : q.length ≤ 2199023255552 := by have h := HQ.out; have h2 := HMT.out.cnt; rw [h, List.length_append]; omega
  go_wp2_with (refine wpList_next_left rfl _ rfl cX.bm bR clock es left rfl hown HM.out HST.out ?_ ?_)
  ·intro h0
   subst h0
   have HZ1 := withR_close HM.out.drop1
   obtain ⟨esY, clkY, hbY, hszY, _, _, _⟩ := (HZ1.at_ 0 rfl : (mapsR cs).P wr) cY HY.out HKY.out
   have hbX : wr.heap[cX.bm]? = some (.map es clock) := (HM.out.at_ 1 rfl : (withR (mapsR cs) cX.bm es clock hown).P wr).2
   have lX := fun ty => run_len_m (P := Tryz.prog) hbX Tryz.underlying44 ty
   have lY := fun ty => run_len_m (P := Tryz.prog) hbY Tryz.underlying44 ty
   rw [HSE.out] at lX
   rw [hszY, HL.out] at lY
   have HDN := Tre.hid (HMT.out.done HND.out (fun k hk => by obtain ⟨e, h1, h2, _⟩ := HES.out k hk; exact ⟨e, h1, h2⟩))
   have HOF := Tre.hid HMT.out.of_
   have HCN : Hid (new.length = cX.n.labels.length) := by have h := HMT.out.cnt; show _ = _; simpa using h
   have N1 : Hid (¬ bZ = bY) := (List.pairwise_cons.1 HZ1.drop1.sep).1 (cellsR bY 72 #[.int .i64 3, .string ny, .slice none 0 0, .map (some cY.bm), .bool o]) (by simp) bZ rfl
   obtain ⟨x0, x1, x2, x3, x4⟩ := five HZ1 3 rfl
   obtain ⟨y0, y1, y2, y3, y4⟩ := five HZ1 2 rfl
   obtain ⟨z0, z1, z2, z3, z4⟩ := five HZ1 1 rfl
   have f4 := HZ1.free 2 rfl 4
   have e0 := HZ1.free 1 rfl 0
   have e1 := HZ1.free 1 rfl 1
   have e2 := HZ1.free 1 rfl 2
   have e3 := HZ1.free 1 rfl 3
   have e4 := HZ1.free 1 rfl 4
   have HE := Tre.hid ((((((HZ1.setCell 2 rfl 4 (.bool o)).setCell 1 rfl 0 (.int .i64 3)).setCell 1 rfl 1 (.string ny)).setCell 1 rfl 2 (.slice none 0 0)).setCell 1 rfl 3 (.map (some cY.bm))).setCell 1 rfl 4 (.bool o))
   clear HM HZ1 HMT hbX hbY hszY hgk
   have n1 : ¬ bZ = bY := N1.out
   have n2 : ¬ bY = bZ := fun e => N1.out e.symm
   cases o
   ·go_wp2_with fail
    obtain ⟨z0, z1, z2, z3, z4⟩ := five HE.out 1 rfl
    refine bodyPost_ret (v := .tuple #[.agg #[.int .i64 3, .string ny, .slice none 0 0, .map (some cY.bm), .bool false], .bool true]) (by simp [results, Tryz.results62, go_sem, z0, z1, z2, z3, z4]) rfl ⟨rfl, q, new, a1, c1, HQ.out, HCN.out, HOF.out, HDN.out, ((((HE.out.del 1).del 1).del 1).front 2 rfl).front 2 rfl⟩
   ·go_wp2_with fail
    obtain ⟨z0, z1, z2, z3, z4⟩ := five HE.out 1 rfl
    refine bodyPost_ret (v := .tuple #[.agg #[.int .i64 3, .string ny, .slice none 0 0, .map (some cY.bm), .bool true], .bool true]) (by simp [results, Tryz.results62, go_sem, z0, z1, z2, z3, z4]) rfl ⟨rfl, q, new, a1, c1, HQ.out, HCN.out, HOF.out, HDN.out, ((((HE.out.del 1).del 1).del 1).front 2 rfl).front 2 rfl⟩
  ·intro e w2 left' hem hperm hM2 hen2
   obtain ⟨k, hk, e1, e2⟩ := HEN.out e (by first | exact hem | exact Array.mem_toList_iff.2 hem)
   have HMT2 := Tre.hid (HMT.out.step (Y := cY.n) hperm hk e1)
   have hlt : left'.length < gk := by rw [hgk, hperm.length_eq]; simp
   rw [e1, e2] at hen2
   rw [e1, e2]
   have hlab := HSZ.out (cX.n.labels.getD k ByteArray.empty) (by rw [List.getD_eq_getElem?_getD, List.getElem?_eq_getElem hk]; exact List.getElem_mem hk)
   have hF : fieldsK cY.n cY.n.labels.length (cX.n.labels.getD k ByteArray.empty) = some (cY.n.args.getD k 0).toNat := by
    have := fieldsK_at (n := cY.n) (by rw [HL.out]; exact HND.out) (Nat.le_refl _) (show k < cY.n.labels.length by rw [HL.out]; exact hk)
    rw [HL.out] at this ⊢
    exact this
   have hMY : MapIs Tryz.prog 9 Value.string en w2 cY.bm cY.n.labels.length (fieldsK cY.n cY.n.labels.length) := (hM2.at_ 1 rfl : (withR (mapsR cs) cX.bm es clock hown).P w2).1 cY HY.out HKY.out
   have HPK : Hid (pairK cX.n cY.n k = ((cX.n.args.getD k 0).toNat, (cY.n.args.getD k 0).toNat)) := rfl
   generalize cX.n.labels.getD k ByteArray.empty = l at *
   generalize (cX.n.args.getD k 0).toNat = a at *
   generalize (cY.n.args.getD k 0).toNat = b at *
   have hen' : (Instr.entry (.pointer (some ⟨bR, 0, none⟩))).run Tryz.prog w2 = .ok (.tuple #[.string l, .int .i64 (a : Int)]) w2 := hen2
   obtain ⟨y0, y1, y2, y3, y4⟩ := five hM2 3 rfl
   have s3 : w2.cell? ⟨s, 3, none⟩ = some (.slice a1 q.length c1) := hM2.cell 5 rfl 3 rfl
   have f3 := hM2.free 5 rfl 3
   have HM2 := Tre.hid hM2
   have HF := Tre.hid hF
   have HMY := Tre.hid hMY
   have HLT := Tre.hid hlt
   clear hem hperm hM2 hen2 e1 e2 hF hMY hlt HM HMT hk
   go_wp2_with (first
    | (refine wpList_look_some rfl _ _ 44 rfl 3 K inj Tryz.underlying44 (zi _) rfl HMY.out l rfl (ky l (by unfold maxLen; omega)) b HF.out ?_; simp only [en]; have MB := Tre.hid (HM2.out.allocRow #[.int .i64 (a : Int), .int .i64 (b : Int)] 34 2 1 (by unfold maxLen; omega) rfl))
    | (at_builtin; refine wpList_append_row _ rfl _ _ 35 rfl 34 pi _ 2 16 Tryz.underlying35 P1.out P2.out P3.out P4.out rfl (by omega) (.slice a1 q.length c1) q.length (pairCells q) rfl (MB.out.row 7 rfl) (some ⟨w2.heap.size, 0, none⟩) 1 1 [.int .i64 (a : Int), .int .i64 (b : Int)] rfl ⟨rfl, fun j u hj => ⟨_, 0, rfl, by rw [Nat.zero_add]; exact MB.out.cellAt 0 rfl j hj⟩⟩ (by simp [Value.oneCell']) (by unfold maxLen; omega) (by omega) ?_; intro v' w9 hown4 hgrow4 hat4; have M4 := MB.out.grow 7 rfl hgrow4 hown4 hat4; obtain ⟨a4, c4, rfl, _⟩ := M4.val 7 rfl; clear s3 f3; have s3 : w9.cell? ⟨s, 3, none⟩ = some (.slice a1 q.length c1) := M4.cell 6 rfl 3 rfl; have f3 := M4.free 6 rfl 3; have HM4 := Tre.hid (M4.setCell 6 rfl 3 (.slice a4 (q.length + 1) c4)); clear M4 hown4 hgrow4 hat4))
   go_roundg left'.length
   case measure => have h := HLT.out; omega
   case rel =>
    refine ⟨_, left', q ++ [(a, b)], new ++ [pairK cX.n cY.n k], a4, c4, rfl, rfl, ?_, HMT2.out, ?_⟩
    ·show _ = _
     rw [HQ.out, HPK.out, List.append_assoc]
    ·have h := HM4.out.del 0
     have e1 : (q ++ [(a, b)]).length = q.length + 1 := by simp
     rw [e1, pairCells_app]
     exact h
set_option maxRecDepth 100000 in
set_option maxHeartbeats 8000000 in
theorem both_obj (s : Nat) (nx : ByteArray) (o : Bool) (cs : List ClsV) (cX cY : ClsV) (hX : cX ∈ cs) (hY : cY ∈ cs) (kX : cX.n.kind = 3) (kY : cY.n.kind = 3) (hl : cY.n.labels = cX.n.labels) (hnd : cX.n.labels.Nodup) (laX : cX.n.labels.length = cX.n.args.length) (laY : cY.n.labels.length = cY.n.args.length)
  (hs : ∀ l ∈ cX.n.labels, l.size ≤ 4194304) (hlen : cX.n.labels.length ≤ 8388608) (vO vR vH : Value) (aW : Option Addr) (cW : Nat) (waits : List (Nat × Nat)) (w0 w : World) (rs : List Res) (hw : waits.length ≤ 1099511627776)
  (hM : Mem w0 w (cellsR s 64 #[vO, vR, vH, .slice aW waits.length cW] :: rowR 34 2 (.slice aW waits.length cW) waits.length (pairCells waits) :: mapsR cs :: rs)) :
  Calls Tryz.prog 55 #[.pointer (some ⟨s, 0, none⟩), .agg #[.int .i64 3, .string nx, .slice none 0 0, .map (some cX.bm), .bool o], .agg #[.int .i64 3, .string nx, .slice none 0 0, .map (some cY.bm), .bool o]] w
   fun e w' => e = .returned (.tuple #[.agg #[.int .i64 3, .string nx, .slice none 0 0, .map (some cY.bm), .bool o], .bool true]) ∧ ∃ (q new : List (Nat × Nat)) (a1 : Option Addr) (c1 : Nat), q = waits ++ new ∧ new.length = cX.n.labels.length ∧ (∀ p ∈ new, ∃ k, k < cX.n.labels.length ∧ p = pairK cX.n cY.n k) ∧ (∀ k, k < cX.n.labels.length → pairK cX.n cY.n k ∈ new) ∧
    Mem w0 w' (cellsR s 64 #[vO, vR, vH, .slice a1 q.length c1] :: rowR 34 2 (.slice a1 q.length c1) q.length (pairCells q) :: mapsR cs :: rs) := by
 have M0 := ((hM.allocR #[.int .i64 3, .string nx, .slice none 0 0, .map (some cX.bm), .bool o] 72).allocR #[.int .i64 3, .string nx, .slice none 0 0, .map (some cY.bm), .bool o] 72).allocR #[.int .i64 0, .string ⟨#[]⟩, .slice none 0 0, .map none, .bool false] 72
 simp only [heapSize_alloc] at M0
 have HOB := Tre.hid (objects_ok s nx nx o cs cX cY hX hY kX kY hl hnd laX laY hs hlen vO vR vH aW cW waits w0 _ _ hw (((M0.front 5 rfl).front 5 rfl).front 5 rfl))
 have HM0 := Tre.hid M0
 clear hX hY kX kY hl hnd laX laY hs hM M0
 go_enter Tryz.func55, Tryz.ntmps55
 go_wp2_with fail
 refine HOB.out.mono ?_
 rintro e w1 ⟨rfl, q, new, a1, c1, h1, h2, h3, h4, M1⟩
 generalize w.heap.size + 1 + 1 = bZ at *
 generalize w.heap.size + 1 = bY at *
 generalize w.heap.size = bX at *
 obtain ⟨z0, z1, z2, z3, z4⟩ := five M1 3 rfl
 have e0 := M1.free 3 rfl 0
 have e1 := M1.free 3 rfl 1
 have e2 := M1.free 3 rfl 2
 have e3 := M1.free 3 rfl 3
 have e4 := M1.free 3 rfl 4
 have HE := Tre.hid (((((M1.setCell 3 rfl 0 (.int .i64 3)).setCell 3 rfl 1 (.string nx)).setCell 3 rfl 2 (.slice none 0 0)).setCell 3 rfl 3 (.map (some cY.bm))).setCell 3 rfl 4 (.bool o))
 have H1 := Tre.hid h1
 have H2 := Tre.hid h2
 have H3 := Tre.hid h3
 have H4 := Tre.hid h4
 clear HOB HM0 M1 h1 h2 h3 h4
 go_wp2_with fail
 obtain ⟨z0, z1, z2, z3, z4⟩ := five HE.out 3 rfl
 exact bodyPost_ret (v := .tuple #[.agg #[.int .i64 3, .string nx, .slice none 0 0, .map (some cY.bm), .bool o], .bool true]) (by simp [results, Tryz.results55, go_sem, z0, z1, z2, z3, z4]) rfl ⟨rfl, q, new, a1, c1, H1.out, H2.out, H3.out, H4.out, ((HE.out.del 3).del 3).del 3⟩
end Go.Proofs.YtlkfhbmjemjohaaGreatDoor.sol
namespace Go.Tre
theorem less_trans {a b c : List UInt8} (h1 : Op.bytesLess a b = true) (h2 : Op.bytesLess b c = true) : Op.bytesLess a c = true := by
 rw [Go.Proofs.bytesLess_eq, decide_eq_true_iff] at *
 exact List.lt_trans h1 h2
theorem less_irrefl (a : List UInt8) : Op.bytesLess a a = false := by
 rw [Go.Proofs.bytesLess_eq, decide_eq_false_iff_not]
 exact List.lt_irrefl a
theorem rising_lt {l : List ByteArray} (h : rising l = true) : ∀ (d i : Nat), i + d + 1 < l.length → Op.bytesLess (l.getD i ByteArray.empty).toList (l.getD (i + d + 1) ByteArray.empty).toList = true := by
 have one : ∀ i, i + 1 < l.length → Op.bytesLess (l.getD i ByteArray.empty).toList (l.getD (i + 1) ByteArray.empty).toList = true := fun i hi => by
  unfold rising at h
  have := (List.all_eq_true.1 h) (i + 1) (List.mem_range.2 hi)
  unfold labelOk at this
  rw [Bool.and_eq_true, Bool.or_eq_true] at this
  rcases this.2 with h2 | h2
  ·simp at h2
  ·simpa using h2
 intro d
 induction d with
 | zero => intro i hi; exact one i (by omega)
 | succ d ih => intro i hi; exact less_trans (ih i (by omega)) (one (i + d + 1) (by omega))
end Go.Tre
namespace Go.Tre
theorem labels_nodup {l : List ByteArray} (h : rising l = true) : l.Nodup := by
 rw [List.Nodup, List.pairwise_iff_getElem]
 intro i j hi hj hij e
 have h1 := rising_lt h (j - i - 1) i (by omega)
 rw [show i + (j - i - 1) + 1 = j by omega, List.getD_eq_getElem?_getD, List.getD_eq_getElem?_getD, List.getElem?_eq_getElem hi, List.getElem?_eq_getElem hj, Option.getD_some, Option.getD_some, e, less_irrefl] at h1
 cases h1
structure MayK (n : Tre.Node) : Prop where
 kind : n.kind = 1 ∨ n.kind = 2 ∨ n.kind = 3
 var : n.kind = 1 → n.args = [] ∧ n.labels = [] ∧ n.isOpen = false
 con : n.kind = 2 → n.labels = [] ∧ n.isOpen = false
 obj : n.kind = 3 → n.labels.length = n.args.length ∧ rising n.labels = true
 args : ∀ a ∈ n.args, 0 ≤ a
theorem mayK_of {n : Tre.Node} {size : Nat} (h : mayB n size = true) : MayK n := by
 unfold mayB at h
 rw [Bool.and_eq_true] at h
 have ha : ∀ a ∈ n.args, 0 ≤ a := fun a ha => by
  have h1 := h.1
  simp only [Bool.not_eq_true', List.any_eq_false] at h1
  have h2 := h1 a ha
  unfold outside at h2
  simp at h2
  omega
 have h := h.2
 by_cases k1 : n.kind = 1
 ·rw [if_pos k1] at h
  simp only [Bool.and_eq_true, decide_eq_true_iff, Bool.not_eq_true'] at h
  exact ⟨.inl k1, fun _ => ⟨List.eq_nil_of_length_eq_zero h.2, List.eq_nil_of_length_eq_zero h.1.1.1, h.1.1.2⟩, fun k => by omega, fun k => by omega, ha⟩
 rw [if_neg k1] at h
 by_cases k2 : n.kind = 2
 ·rw [if_pos k2] at h
  simp only [Bool.and_eq_true, decide_eq_true_iff, Bool.not_eq_true'] at h
  exact ⟨.inr (.inl k2), fun k => by omega, fun _ => ⟨List.eq_nil_of_length_eq_zero h.1.1, h.1.2⟩, fun k => by omega, ha⟩
 rw [if_neg k2] at h
 by_cases k3 : n.kind = 3
 ·rw [if_pos k3] at h
  simp only [Bool.and_eq_true, decide_eq_true_iff] at h
  exact ⟨.inr (.inr k3), fun k => by omega, fun k => by omega, fun _ => ⟨h.1.2, h.2⟩, ha⟩
 ·rw [if_neg k3] at h; cases h
theorem casts_kids {n : Tre.Node} (h : ∀ a ∈ n.args, 0 ≤ a) : (n.args.map Int.toNat).map (fun x : Nat => (x : Int)) = n.args := by
 rw [List.map_map]
 have : ∀ l : List Int, (∀ a ∈ l, 0 ≤ a) → l.map ((fun x : Nat => (x : Int)) ∘ Int.toNat) = l := by
  intro l hl
  induction l with
  | nil => rfl
  | cons a r ih => rw [List.map_cons, ih (fun b hb => hl b (by simp [hb]))]; have := hl a (by simp); simp; omega
 exact this _ h
end Go.Tre
namespace Go.Proofs.YtlkfhbmjemjohaaGreatDoor.sol
open Go.RowKit Go.Shelf Go.Maps Go.MapKept Go.ChangeMaps Go.Tre lex gr
structure SolOk (w : World) (f : Tre.Graph) (cs : List ClsV) : Prop where
 len : cs.length = f.ns.length
 nd : ∀ i, i < f.ns.length → (cs.getD i zeroC).n = f.nd i
 ok : ∀ i, i < f.ns.length → ClsOk w (cs.getD i zeroC)
 may : ∀ i, i < f.ns.length → MayK (f.nd i)
 lab : ∀ i, i < f.ns.length → ∀ l ∈ (f.nd i).labels, l.size ≤ 4194304
 wide : ∀ i, i < f.ns.length → f.deg i ≤ 4194304
 small : f.ns.length ≤ 4194304
theorem SolOk.below {w w' : World} {f : Tre.Graph} {cs : List ClsV} (h : SolOk w f cs) (b : Below w.heap.size w w') : SolOk w' f cs :=
 ⟨h.len, h.nd, fun i hi => (h.ok i hi).below b, h.may, h.lab, h.wide, h.small⟩
theorem SolOk.mem {w : World} {f : Tre.Graph} {cs : List ClsV} (h : SolOk w f cs) {i : Nat} (hi : i < f.ns.length) : cs.getD i zeroC ∈ cs := by
 rw [List.getD_eq_getElem?_getD, List.getElem?_eq_getElem (by rw [h.len]; exact hi)]; exact List.getElem_mem _
abbrev aggC (c : ClsV) : Value := .agg #[.int .i64 c.n.kind, .string c.n.name, .slice c.aa c.na c.ca, .map c.mf, .bool c.n.isOpen]
abbrev SW (s : Nat) (vO vR vH : Value) (a : Option Addr) (c : Nat) (q : List (Nat × Nat)) (cs : List ClsV) (rs : List Res) : List Res :=
 cellsR s 64 #[vO, vR, vH, .slice a q.length c] :: rowR 34 2 (.slice a q.length c) q.length (pairCells q) :: mapsR cs :: rs
theorem zip_at {A B : List Nat} {f : Tre.Graph} {i j : Nat} (hA : A = f.kids i) (hB : B = f.kids j) (hl : f.deg j = f.deg i) : (∀ p ∈ A.zip B, ∃ k, k < f.deg i ∧ p = (f.kid i k, f.kid j k)) ∧ (∀ k, k < f.deg i → (f.kid i k, f.kid j k) ∈ A.zip B) ∧ (A.zip B).length = f.deg i := by
 subst hA hB
 have li := f.kids_len i
 have lj := f.kids_len j
 have at_ : ∀ k (hk : k < f.deg i), ((f.kids i).zip (f.kids j))[k]'(by rw [List.length_zip]; omega) = (f.kid i k, f.kid j k) := by
  intro k hk
  rw [List.getElem_zip, kid_kids, kid_kids, List.getD_eq_getElem?_getD, List.getD_eq_getElem?_getD, List.getElem?_eq_getElem (by omega), List.getElem?_eq_getElem (by omega)]; rfl
 refine ⟨fun p hp => ?_, fun k hk => ?_, by rw [List.length_zip]; omega⟩
 ·obtain ⟨k, hk, rfl⟩ := List.getElem_of_mem hp
  have hk' : k < f.deg i := by rw [List.length_zip] at hk; omega
  exact ⟨k, hk', at_ k hk'⟩
 ·rw [← at_ k hk]; exact List.getElem_mem _
theorem both_any (s : Nat) (f : Tre.Graph) (cs : List ClsV) (i j : Nat) (w0 w : World) (h : SolOk w0 f cs) (hi : i < f.ns.length) (hj : j < f.ns.length) (ek : (f.nd i).kind = (f.nd j).kind) (en_ : (f.nd i).name = (f.nd j).name) (el : (f.nd i).labels = (f.nd j).labels) (eo : (f.nd i).isOpen = (f.nd j).isOpen) (ed : f.deg i = f.deg j)
  (vO vR vH : Value) (a : Option Addr) (c : Nat) (q : List (Nat × Nat)) (rs : List Res) (hq : q.length ≤ 1099511627776) (hM : Mem w0 w (SW s vO vR vH a c q cs rs)) :
  Calls Tryz.prog 55 #[.pointer (some ⟨s, 0, none⟩), aggC (cs.getD i zeroC), aggC (cs.getD j zeroC)] w fun e w' => ∃ (m : Nat) (new : List (Nat × Nat)) (a1 : Option Addr) (c1 : Nat), e = .returned (.tuple #[aggC (cs.getD m zeroC), .bool true]) ∧ (m = j ∨ m = i) ∧ new.length ≤ f.deg i ∧
   (∀ p ∈ new, ∃ k, k < f.deg i ∧ p = (f.kid i k, f.kid j k)) ∧ (∀ k, k < f.deg i → (f.kid i k, f.kid j k) ∈ new) ∧ Mem w0 w' (SW s vO vR vH a1 c1 (q ++ new) cs rs) := by
 have oi := h.ok i hi
 have oj := h.ok j hj
 have mi := h.may i hi
 have mj := h.may j hj
 have ci := h.mem hi
 have cj := h.mem hj
 have ni := h.nd i hi
 have nj := h.nd j hj
 have wi := h.wide i hi
 have li := h.lab i hi
 have kid_arg : ∀ i k, ((f.nd i).args.getD k 0).toNat = f.kid i k := fun i k => rfl
 have dl : ∀ i, (f.nd i).args.length = f.deg i := fun i => rfl
 generalize hX : cs.getD i zeroC = X at *
 generalize hY : cs.getD j zeroC = Y at *
 obtain ⟨nX, aX, lX, cX, mX, bX⟩ := X
 obtain ⟨nY, aY, lY, cY, mY, bY⟩ := Y
 simp only at ni nj
 subst ni nj
 rcases mi.kind with k | k | k
 ·have k' : (f.nd j).kind = 1 := by rw [← ek]; exact k
  refine (both_var s _ _ aX aY lX lY cX cY mX mY _ _ (f.nd j).kind w |> fun z => (show Calls _ _ _ _ _ from by rw [show aggC ⟨f.nd i, aX, lX, cX, mX, bX⟩ = .agg #[.int .i64 1, .string (f.nd i).name, .slice aX lX cX, .map mX, .bool (f.nd i).isOpen] by simp only [aggC, k]]; exact z)).mono ?_
  rintro e w1 ⟨rfl, b1⟩
  have hd : f.deg i = 0 := by rw [← dl, (mi.var k).1]; rfl
  refine ⟨j, [], a, c, by rw [hY], .inl rfl, by simp, fun p hp => (by cases hp), fun k hk => (by omega), ?_⟩
  rw [List.append_nil]
  exact hM.quiet b1
 ·have k' : (f.nd j).kind = 2 := by rw [← ek]; exact k
  obtain ⟨e1, e2, _, e4⟩ := oi.2.1 k
  obtain ⟨e1', e2', _, e4'⟩ := oj.2.1 k'
  simp only at e1 e2 e4 e1' e2' e4'
  subst e4 e4'
  have hl : lX = lY := by rw [e1, e1', dl, dl, ed]
  subst hl
  have z := both_con s lX (f.nd i).name aX aY cX cY (f.nd i).isOpen (f.nd j).isOpen (f.kids i) (f.kids j) vO vR vH a c q w0 w (mapsR cs :: rs) (by unfold Graph.kids; rw [casts_kids mi.args]; exact e2) (by unfold Graph.kids; rw [casts_kids mj.args]; exact e2') (by rw [f.kids_len, e1, dl]) (by rw [f.kids_len, e1', dl]) (by rw [e1, dl]; omega) hq hM
  rw [show aggC ⟨f.nd i, aX, lX, cX, none, bX⟩ = .agg #[.int .i64 2, .string (f.nd i).name, .slice aX lX cX, .map none, .bool (f.nd i).isOpen] by simp only [aggC, k],
   show aggC ⟨f.nd j, aY, lX, cY, none, bY⟩ = .agg #[.int .i64 2, .string (f.nd i).name, .slice aY lX cY, .map none, .bool (f.nd j).isOpen] by simp only [aggC, k', en_]]
  refine z.mono ?_
  rintro e w1 ⟨rfl, q1, a1, c1, rfl, M1⟩
  obtain ⟨z1, z2, z3⟩ := zip_at (f := f) (i := i) (j := j) rfl rfl ed.symm
  refine ⟨i, (f.kids i).zip (f.kids j), a1, c1, by rw [hX]; simp only [aggC, k], .inr rfl, by omega, z1, z2, M1⟩
 ·have k' : (f.nd j).kind = 3 := by rw [← ek]; exact k
  obtain ⟨e1, e2, e3, e4⟩ := oi.2.2 k
  obtain ⟨e1', e2', e3', e4'⟩ := oj.2.2 k'
  simp only at e1 e2 e3 e4 e1' e2' e3' e4'
  subst e1 e2 e3 e4 e1' e2' e3' e4'
  have z := both_obj s (f.nd i).name (f.nd i).isOpen cs _ _ ci cj k k' el.symm (labels_nodup (mi.obj k).2) (mi.obj k).1 (mj.obj k').1 li (by show (f.nd i).labels.length ≤ _; rw [(mi.obj k).1, dl]; omega) vO vR vH a c q w0 w rs hq hM
  rw [show aggC ⟨f.nd i, none, 0, 0, some bX, bX⟩ = .agg #[.int .i64 3, .string (f.nd i).name, .slice none 0 0, .map (some bX), .bool (f.nd i).isOpen] by simp only [aggC, k],
   show aggC ⟨f.nd j, none, 0, 0, some bY, bY⟩ = .agg #[.int .i64 3, .string (f.nd i).name, .slice none 0 0, .map (some bY), .bool (f.nd i).isOpen] by simp only [aggC, k', en_, eo]]
  refine z.mono ?_
  rintro e w1 ⟨rfl, q1, new, a1, c1, rfl, h1, h2, h3, M1⟩
  have hd : (f.nd i).labels.length = f.deg i := by rw [(mi.obj k).1, dl]
  refine ⟨j, new, a1, c1, by rw [hY]; simp only [aggC, k', en_, eo], .inl rfl, by rw [← hd]; exact Nat.le_of_eq h1, fun p hp => ?_, fun k hk => ?_, M1⟩
  ·obtain ⟨k, hk, rfl⟩ := h2 p hp
   exact ⟨k, by rw [← hd]; exact hk, rfl⟩
  ·exact h3 k (by show k < (f.nd i).labels.length; rw [hd]; exact hk)
end Go.Proofs.YtlkfhbmjemjohaaGreatDoor.sol
