/- load.start, where it comes to a loader. graph.Trim. load.Load, where it comes to a graph. A type in the memory as a table: where each of its parts lies, no two at one place. -/
import Derived.Test.YtljmcmdabdlldaaGreatDoorB22
import Derived.Test.YtljmcmdabdlldaaGreatDoorB24
import Derived.Deep.LoopGhost
import Derived.Test.YtljmcmdabdlldaaGreatDoorB06
import Derived.Test.YtljmcmdabdlldaaGreatDoorB21
import Derived.Test.YtljmcmdabdlldaaGreatDoorB20
set_option linter.unusedVariables false
namespace Go.Proofs.YtljmcmdabdlldaaGreatDoor.load
open Go.RowKit Go.Maps Go.Shelf Go.Tre lex gr
set_option maxRecDepth 100000 in
set_option maxHeartbeats 16000000 in
theorem start_ok (T : List Ent) (ad : Nat → Addr) (hS : SmallT T) (k i : Nat) (bd : ByteArray → Option Nat) (n : Nat) (hn : n ≤ 4194304) (w : World) (hE : EntsAt w T ad) (hb : bind1 T k i (fun _ => none, 0) = some (bd, n)) (hf : ∀ s x, bd s = some x → ∃ r, follow1 T bd (2 * n + 2) x = some r) :
  Calls Tryz.prog 21 #[.pointer (some (ad i))] w fun e w' => ∃ lb mb mv mm : Nat, e = .returned (.tuple #[.pointer (some ⟨lb, 0, none⟩), .nilIface]) ∧ Mem w w' (cellsR lb 71 #[.map (some mb), .map (some mv), .map (some mm), (.slice none 0 0), .int .i64 0] :: mapR Tryz.prog 9 Value.string (pv ad) mb n bd :: mapR Tryz.prog 9 Value.string evn mv 0 (fun _ => none) :: pmapR mm 0 (fun _ => none) :: nodesR (.slice none 0 0) [] :: kidsR [] :: []) := by
 have hmm := @run_makeMap Tryz.prog
 have M0 := ((((Mem.nil w).allocMap Tryz.prog 9 Value.string (pv ad)).allocMap Tryz.prog 9 Value.string evn).allocPMap).allocR #[.map (some w.heap.size), .map (some (w.heap.size + 1)), .map (some (w.heap.size + 1 + 1)), .slice none 0 0, .int .i64 0] 71
 simp only [World.size_alloc] at M0
 have HM0 := Tre.hid M0
 have HE := Tre.hid hE
 have HS := Tre.hid hS
 have HB := Tre.hid hb
 have HF := Tre.hid hf
 clear hE hS hb hf M0
 obtain ⟨b, off, aa, ca, al, cl, hadx, _⟩ : ∃ b off, ∃ aa : Option Addr, ∃ ca : Nat, ∃ al : Option Addr, ∃ cl : Nat, ad i = ⟨b, off, none⟩ ∧ True := by
  have h := HB.out
  cases k with
  | zero => rw [bind1] at h; cases h
  | succ k =>
   rw [bind1] at h
   obtain ⟨e, he, _⟩ := Option.bind_eq_some_iff.1 h
   obtain ⟨b, off, aa, ca, al, cl, ha, _⟩ := HE.out.at_ i e he
   exact ⟨b, off, aa, ca, al, cl, ha, trivial⟩
 have HAD := Tre.hid hadx
 rw [hadx]
 clear hadx
 go_enter Tryz.func21, Tryz.ntmps21
 go_wp2_with fail
 have hbind := bind_any w T ad HE.out HS.out (w.heap.size + 1 + 1 + 1) w.heap.size (w.heap.size + 1) (w.heap.size + 1 + 1) (.slice none 0 0) k i (fun _ => none, 0) (bd, n) _ _ HB.out (HM0.out.front 3 rfl)
 rw [HAD.out] at hbind
 refine hbind.mono ?_
 rintro e w1 ⟨rfl, M1⟩
 clear hbind HM0 HAD
 generalize w.heap.size + 1 + 1 + 1 = lb at *
 generalize w.heap.size + 1 + 1 = mm at *
 generalize w.heap.size + 1 = mv at *
 generalize hmb : w.heap.size = mb at *
 have M2 : Mem w w1 (mapR Tryz.prog 9 Value.string (pv ad) mb n bd :: cellsR lb 71 #[.map (some mb), .map (some mv), .map (some mm), (.slice none 0 0), .int .i64 0] :: pmapR mm 0 (fun _ => none) :: mapR Tryz.prog 9 Value.string evn mv 0 (fun _ => none) :: []) := M1
 obtain ⟨es, clock, M3, hst, hn2, hent, hback⟩ := M2.raw
 have l0 : w1.cell? ⟨lb, 0, none⟩ = some (.map (some mb)) := M2.cell 1 rfl 0 rfl
 have hrange := run_range_map (P := Tryz.prog) w1 67 9 61 mb es clock Tryz.underlying67 (M3.at_ 0 rfl)
 have HM4 := Tre.hid (M3.range (b := mb) hst)
 generalize hr : w1.heap.size = r at *
 have HST := Tre.hid hst
 have HEN := Tre.hid hent
 have HBK := Tre.hid hback
 clear M1 M2 M3 hst hent hback hr hn2 hmb hmm
 go_wp2_with fail
 go_loopg [7] es.size (fun gk v7 wr => ∃ u7 : Value, v7 = u7 ∧ Hid (Mem w wr (iterR r mb es clock gk :: rawR mb es clock :: cellsR lb 71 #[.map (some mb), .map (some mv), .map (some mm), (.slice none 0 0), .int .i64 0] :: pmapR mm 0 (fun _ => none) :: mapR Tryz.prog 9 Value.string evn mv 0 (fun _ => none) :: [])))
 case atStart => exact ⟨_, rfl, HM4.out⟩
 case round =>
  clear HM4 l0 hrange
  obtain ⟨u7, rfl, HM⟩ := hrel
  go_wp2_with (refine wpList_next_raw rfl _ rfl mb r gk clock es rfl HM.out HST.out ?_ ?_)
  ·intro h0
   have HZ := Tre.hid (HBK.out _ _ _ HM.out.drop1)
   clear HM h0
   go_wp2_with fail
   go_ret2
   exact ⟨lb, mb, mv, mm, rfl, (((((HZ.out.addMany.addNil 39 5).front 4 rfl).front 5 rfl).front 4 rfl).front 5 rfl)⟩
  ·intro e w2 cnt' hem hlt hM2 hen
   obtain ⟨s, x, e1, e2, e3⟩ := HEN.out e (by first | exact hem | exact Array.mem_toList_iff.2 hem)
   obtain ⟨rr, hrr⟩ := HF.out s x e3
   rw [e1, e2] at hen
   rw [e1, e2]
   have HM2 := Tre.hid hM2
   have HFW := Tre.hid (follow_any w T ad HE.out HS.out lb mb mv mm (.slice none 0 0) bd n hn _ x rr w2 hrr (((HBK.out _ _ _ hM2.drop1).front 1 rfl)))
   have HLT := Tre.hid hlt
   have hen' : (Instr.entry (.pointer (some ⟨r, 0, none⟩))).run Tryz.prog w2 = .ok (.tuple #[.string s, .pointer (some (ad x))]) w2 := hen
   clear hM2 e1 e2 e3 hrr hem HM hlt hen
   simp only [pv]
   go_wp2_with fail
   refine HFW.out.mono ?_
   rintro e' w3 ⟨rfl, b3⟩
   have HM3 := Tre.hid (HM2.out.quiet b3)
   clear b3 HFW hen' HM2
   go_wp2_with fail
   go_roundg cnt'
   case measure => exact HLT.out
   case rel => exact ⟨_, rfl, HM3.out⟩
end Go.Proofs.YtljmcmdabdlldaaGreatDoor.load
namespace Go.Proofs.YtljmcmdabdlldaaGreatDoor.gr
open Go.RowKit Go.Shelf Go.Maps Go.Tre lex

set_option maxRecDepth 100000 in
set_option maxHeartbeats 4000000 in
theorem trim_any (a : Option Addr) (ca : Nat) (g : Tre.Graph) (w : World) (hg : NodesAt w a g.ns) (wg : g.weight ≤ 2097152) (hm : MaxAt w) :
  Calls Tryz.prog 13 #[.agg #[.slice a g.ns.length ca, .int .i64 g.root]] w fun e w' =>
   ∃ v ds, e = .returned (.agg #[v, .int .i64 0]) ∧ ds.map NodeV.n = g.trim.ns ∧ Mem w w' [nodesR v ds, kidsR ds] := by
 have M0 : Mem w ((w.alloc (.cells #[.slice a g.ns.length ca, .int .i64 g.root] 33)).alloc (.cells #[.slice none 0 0, .int .i64 0] 33)) _ := ((Mem.nil w).allocR #[.slice a g.ns.length ca, .int .i64 g.root] 33).allocR #[.slice none 0 0, .int .i64 0] 33
 have z1 : (w.alloc (.cells #[.slice a g.ns.length ca, .int .i64 g.root] 33)).heap.size = w.heap.size + 1 := by simp
 rw [z1] at M0
 have HM := Tre.hid hm
 have HG := Tre.hid hg
 have HM0 := Tre.hid M0
 have hrl := g.reach_lt
 have HRL := Tre.hid hrl
 have HRK := Tre.hid (fun (a : Nat) (ha : a ∈ g.reachL) => g.reach_kids ha)
 have HND := Tre.hid g.reach_nodup
 have HOK := Tre.hid (fun (a : Nat) (ha : a ∈ g.reachL) => g.reach_ok ha)
 have hln : g.reachL.length ≤ 2097152 := Nat.le_trans g.reach_len wg
 have hgl : g.ns.length ≤ 2097152 := Nat.le_trans (length_le_sum _ (fun n => by unfold Tre.Node.weight; omega) g.ns) wg
 clear hg hm M0 hrl z1
 go_enter Tryz.func13, Tryz.ntmps13
 go_wp2_with fail
 refine (reach_any a ca g _ (HG.out.below HM0.out.below) wg (HM.out.below HM0.out.below)).mono ?_
 rintro e w1 ⟨vl, rfl, m1⟩
 have M1 := HM0.out.call m1
 obtain ⟨al, cl, rfl, hcl⟩ := M1.val 0 rfl
 have hmk : ∀ (n : Int) (w : World), (Instr.makeMap 79 (some (.int .i64 n))).run Tryz.prog w = .ok (.map (some w.heap.size)) (w.alloc (.map #[] 0)) := fun n w => by
  simp [Instr.makeMap, run_underlying Tryz.underlying79, asInt, asIntOf, newObj]; rfl
 have M2 := M1.allocMap Tryz.prog 3 en en
 have HM2 := Tre.hid M2
 obtain ⟨ii, I1, I2, I3, I4⟩ := info_parts infoN
 have J1 := Tre.hid I1
 have J2 := Tre.hid I2
 have J3 := Tre.hid I3
 have J4 := Tre.hid I4
 clear m1 M1 M2 I1 I2 I3 I4
 generalize hL : g.reachL = L at *
 have HL := Tre.hid hL
 clear hL
 go_wp2_with fail
 go_loopw [19] (fun v19 wr => ∃ k N : Nat, k ≤ L.length ∧ v19 = .int .i64 k ∧
   Hid (Mem w wr [mapR Tryz.prog 3 en en w1.heap.size N (idxMap L k), rowR 3 1 (.slice al L.length cl) L.length (L.map rk), cellsR (w.heap.size + 1) 33 #[.slice none 0 0, .int .i64 0], cellsR w.heap.size 33 #[.slice a g.ns.length ca, .int .i64 g.root]]))
  (fun v19 _ => L.length - (intOf v19).toNat)
 case atStart => exact ⟨0, 0, Nat.zero_le _, rfl, by have e : idxMap L 0 = fun _ => none := (by funext x; simp [idxMap]); rw [e]; exact HM2.out⟩
 case round =>
  obtain ⟨k, N, hk, rfl, hM⟩ := hrel
  by_cases hlt : k < L.length
  ·obtain ⟨gl, rfl, hgl, hgl2, hcl'⟩ := hM.out.getRow 1 rfl k (u := rk L[k]) (by rw [List.getElem?_map, List.getElem?_eq_getElem hlt]; rfl)
   have hxl : L[k] < g.ns.length := HRL.out _ (List.getElem_mem hlt)
   have HS := Tre.hid (idxMap_succ HND.out hlt)
   generalize L[k] = x at *
   have hcl2 : wr.cell? ⟨gl, k, none⟩ = some (.int .i64 (x : Int)) := hcl'
   clear hcl'
   go_wp2_with (refine wpList_store rfl _ _ _ 79 (.inl rfl) 3 KI injN Tryz.underlying79 rfl (hM.out.map 0 rfl) x rfl (kn x (by omega)) k rfl ?_; intro w2 hm2 hg2; have M3 := hM.out.put 0 rfl hg2 hm2; have HM3 := Tre.hid M3; clear M3 hm2 hg2)
   go_roundw
   case rel => exact ⟨k + 1, _, by omega, by go_num, by have := HM3.out; rw [HS.out] at this; exact this⟩
   case measure => simp [intOf]; omega
  ·have e : k = L.length := by omega
   have hM' := hM.out
   rw [e] at hM'
   have HM3 := Tre.hid hM'
   clear hM hM' e
   go_wp2_with fail
   obtain ⟨wo, rfl⟩ : ∃ wo : World, wo = wr := ⟨_, rfl⟩
   go_loopw [30] (fun v30 wr => ∃ (k : Nat) (vN : Value) (ds : List NodeV), k ≤ L.length ∧ v30 = .int .i64 k ∧ Hid (ds.map NodeV.n = (L.take k).map fun i => trimNode L (g.nd i)) ∧
     Hid (Mem w wr [nodesR vN ds, kidsR ds, mapR Tryz.prog 3 en en w1.heap.size N (idxMap L L.length), rowR 3 1 (.slice al L.length cl) L.length (L.map rk), cellsR (w.heap.size + 1) 33 #[vN, .int .i64 0], cellsR w.heap.size 33 #[.slice a g.ns.length ca, .int .i64 g.root]]))
    (fun v30 _ => L.length - (intOf v30).toNat)
   case atStart =>
    exact ⟨0, .slice none 0 0, [], Nat.zero_le _, rfl, rfl, HM3.out.addMany.addNil 39 5⟩
   case round =>
    obtain ⟨k, vN, ds, hk, rfl, hds, hM⟩ := hrel
    obtain ⟨aN, cN, rfl, _⟩ := hM.out.val 0 rfl
    by_cases hlt : k < L.length
    ·have hmem := List.getElem_mem hlt
     obtain ⟨gl, rfl, hgl, hgl2, hcl'⟩ := hM.out.getRow 3 rfl k (u := rk L[k]) (by rw [List.getElem?_map, List.getElem?_eq_getElem hlt]; rfl)
     have hxl : L[k] < g.ns.length := HRL.out _ hmem
     have HTK : Hid (L.take (k + 1) = L.take k ++ [L[k]]) := by show _ = _; rw [List.take_add_one, List.getElem?_eq_getElem hlt]; rfl
     have hkk := HRK.out _ hmem
     have hax := (HOK.out _ hmem).kids_eq hxl
     have HAX := Tre.hid hax
     have HKK := Tre.hid hkk
     clear hax hkk
     generalize hx : L[k] = x at *
     have hcl2 : wr.cell? ⟨gl, k, none⟩ = some (.int .i64 (x : Int)) := hcl'
     obtain ⟨b1, o1, rfl, nx⟩ := (HG.out.below hM.out.below).at_ x (g.nd x) (by rw [Graph.nd_eq hxl]; exact List.getElem?_eq_getElem hxl)
     have hXw : (g.nd x).weight ≤ g.weight := by rw [Graph.nd_eq hxl]; exact node_weight (List.getElem_mem hxl)
     have hlab : (g.nd x).labels.length + (g.nd x).args.length ≤ 4194304 := by have h1 := args_len (g.nd x); have h2 := labels_len (g.nd x); omega
     generalize hX : g.nd x = X at *
     have HX := Tre.hid hX
     obtain ⟨ax, cx, lx, dx, x0, x1, x2, x3, x4, xA, xL, _, _⟩ := nx
     have c0 : wr.cell? ⟨w.heap.size, 0, none⟩ = some (.slice (some ⟨b1, o1, none⟩) g.ns.length ca) := hM.out.cell 5 rfl 0 rfl
     have MA := hM.out.allocR #[.int .i64 X.kind, .string X.name, .slice ax X.args.length cx, .slice lx X.labels.length dx, .bool X.isOpen] 39
     have HMA := Tre.hid MA
     have XA := Tre.hid (xA.below (Below.refl _ _))
     have XL := Tre.hid (xL.below (Below.refl _ _))
     have BA := Tre.hid ((Below.refl wr.heap.size wr).alloc (Nat.le_refl _) (.cells #[.int .i64 X.kind, .string X.name, .slice ax X.args.length cx, .slice lx X.labels.length dx, .bool X.isOpen] 39))
     clear hX hcl' hx xA xL hmem hXw MA
     go_wp2_with fail
     refine (cloneStrs lx dx X.labels _ (XL.out.below BA.out) (by omega)).mono ?_
     rintro e w2 ⟨vl2, rfl, m2⟩
     have M2 := HMA.out.call m2
     obtain ⟨al2, cl2, rfl, _⟩ := M2.val 0 rfl
     have n2 : w2.cell? ⟨wr.heap.size, 2, none⟩ = some (.slice ax X.args.length cx) := M2.cell 1 rfl 2 rfl
     have n3 : w2.cell? ⟨wr.heap.size, 3, none⟩ = some (.slice lx X.labels.length dx) := M2.cell 1 rfl 3 rfl
     have n3f := M2.free 1 rfl 3
     have M3 := M2.setCell 1 rfl 3 (.slice al2 X.labels.length cl2)
     have HM3 := Tre.hid M3
     have B2 : Below wr.heap.size wr w2 := BA.out.trans (m2.below.mono (by simp))
     have B3 : Below wr.heap.size wr (w2.setCell ⟨wr.heap.size, 3, none⟩ (.slice al2 X.labels.length cl2)) := B2.setCell (Nat.le_refl _) _
     have HB3 := Tre.hid B3
     clear m2 M2 M3 B2 B3
     go_wp2_with fail
     refine (cloneInts ax cx X.args _ (XA.out.below HB3.out) (by omega)).mono ?_
     rintro e w3 ⟨va3, rfl, m3⟩
     have M4 := HM3.out.call m3
     obtain ⟨aA, cA, rfl, _⟩ := M4.val 0 rfl
     have k2 : w3.cell? ⟨wr.heap.size, 2, none⟩ = some (.slice ax X.args.length cx) := M4.cell 2 rfl 2 rfl
     have k2f := M4.free 2 rfl 2
     have M5 := M4.setCell 2 rfl 2 (.slice aA X.args.length cA)
     have HM5 := Tre.hid M5
     clear M4 M5 m3 n2 n3 n3f
     go_wp2_with fail
     have k5 : Mem w (w3.setCell ⟨wr.heap.size, 2, none⟩ (.slice aA X.args.length cA)) [rowR 3 1 (.slice aA X.args.length cA) X.args.length ((half (placeOf L) X.args 0).map (Value.int .i64)), rowR 9 1 (.slice al2 X.labels.length cl2) X.labels.length (X.labels.map Value.string),
       cellsR wr.heap.size 39 #[.int .i64 X.kind, .string X.name, .slice aA X.args.length cA, .slice al2 X.labels.length cl2, .bool X.isOpen], nodesR (.slice aN ds.length cN) ds, kidsR ds, mapR Tryz.prog 3 en en w1.heap.size N (idxMap L L.length),
       rowR 3 1 (.slice (some ⟨gl, 0, none⟩) L.length cl) L.length (L.map rk), cellsR (w.heap.size + 1) 33 #[.slice aN ds.length cN, .int .i64 0], cellsR w.heap.size 33 #[.slice (some ⟨b1, o1, none⟩) g.ns.length ca, .int .i64 g.root]] := by
      rw [half_zero]; exact HM5.out
     have HK5 := Tre.hid k5
     clear k5
     obtain ⟨wp, rfl⟩ : ∃ wp : World, wp = wr := ⟨_, rfl⟩
     go_loopw [50] (fun v50 wi => ∃ j : Nat, j ≤ X.args.length ∧ v50 = .int .i64 j ∧
       Hid (Mem w wi [rowR 3 1 (.slice aA X.args.length cA) X.args.length ((half (placeOf L) X.args j).map (Value.int .i64)), rowR 9 1 (.slice al2 X.labels.length cl2) X.labels.length (X.labels.map Value.string),
       cellsR wp.heap.size 39 #[.int .i64 X.kind, .string X.name, .slice aA X.args.length cA, .slice al2 X.labels.length cl2, .bool X.isOpen], nodesR (.slice aN ds.length cN) ds, kidsR ds, mapR Tryz.prog 3 en en w1.heap.size N (idxMap L L.length),
       rowR 3 1 (.slice (some ⟨gl, 0, none⟩) L.length cl) L.length (L.map rk), cellsR (w.heap.size + 1) 33 #[.slice aN ds.length cN, .int .i64 0], cellsR w.heap.size 33 #[.slice (some ⟨b1, o1, none⟩) g.ns.length ca, .int .i64 g.root]]))
      (fun v50 _ => X.args.length - (intOf v50).toNat)
     case atStart => exact ⟨0, Nat.zero_le _, rfl, HK5.out⟩
     case round =>
      obtain ⟨j, hj, rfl, hI⟩ := hrel
      have n2 : wr.cell? ⟨wp.heap.size, 2, none⟩ = some (.slice aA X.args.length cA) := hI.out.cell 2 rfl 2 rfl
      by_cases hjl : j < X.args.length
      ·obtain ⟨gA, rfl, hgA, hgA2, hA⟩ := hI.out.getRow 0 rfl j (u := .int .i64 X.args[j]) (by rw [List.getElem?_map, half_at _ _ hjl]; rfl)
       have hAf := hI.out.freeAt 0 rfl j
       have HSH := Tre.hid (half_set (placeOf L) X.args hjl)
       have hin : X.args[j].toNat ∈ L := HKK.out _ (by unfold Graph.kids; rw [HX.out]; exact List.mem_map.2 ⟨_, List.getElem_mem hjl, rfl⟩)
       have hlt2 := HRL.out _ hin
       have hnn : (0 : Int) ≤ X.args[j] := by
        have h9 : ∀ z ∈ X.args, (0 : Int) ≤ z := by
         rw [HAX.out]
         intro z hz
         obtain ⟨q, _, e⟩ := List.mem_map.1 hz
         omega
        exact h9 _ (List.getElem_mem hjl)
       have hpl : placeOf L X.args[j] = ((L.idxOf X.args[j].toNat : Nat) : Int) := rfl
       have HPL := Tre.hid hpl
       have HIM := Tre.hid (idxMap_all L hin)
       obtain ⟨y, hy⟩ : ∃ y : Nat, X.args[j] = (y : Int) := ⟨_, (Int.toNat_of_nonneg hnn).symm⟩
       rw [hy] at hA HSH HPL HIM hlt2
       rw [Int.toNat_natCast] at HIM HPL hlt2
       have hlx : L.idxOf y < 8388608 := by have := List.idxOf_le_length (a := y) (l := L); omega
       generalize hpy : L.idxOf y = py at *
       have i1 : (0 : Int) ≤ j := by omega
       have i2 : (j : Int) < X.args.length := by omega
       have mm := hI.out.map 5 rfl
       have MS := hI.out.setRow 0 rfl j (.int .i64 (py : Int))
       have HMS := Tre.hid MS
       clear MS hpy hpl hy hin
       go_wp2_with (refine wpList_look1_some rfl _ _ 79 rfl 3 KI injN Tryz.underlying79 (zi _) rfl mm y rfl (kn y (by omega)) py HIM.out ?_)
       go_roundw
       case rel =>
        refine ⟨j + 1, by omega, by go_num, ?_⟩
        have e : ((half (placeOf L) X.args j).map (Value.int .i64)).set j (.int .i64 (py : Int)) = (half (placeOf L) X.args (j + 1)).map (Value.int .i64) := by rw [← HSH.out, List.map_set, HPL.out]
        have := HMS.out
        rw [e] at this
        exact this
       case measure => simp [intOf]; omega
      ·have e : j = X.args.length := by omega
       have hI' := hI.out
       rw [e, half_all] at hI'
       have MB := hI'.alloc (.cells #[.int .i64 X.kind, .string X.name, .slice aA X.args.length cA, .slice al2 X.labels.length cl2, .bool X.isOpen] 39)
       have HMB := Tre.hid MB
       have r0 : wr.cell? ⟨wp.heap.size, 0, none⟩ = some (.int .i64 X.kind) := hI.out.cell 2 rfl 0 rfl
       have r1 : wr.cell? ⟨wp.heap.size, 1, none⟩ = some (.string X.name) := hI.out.cell 2 rfl 1 rfl
       have r3 : wr.cell? ⟨wp.heap.size, 3, none⟩ = some (.slice al2 X.labels.length cl2) := hI.out.cell 2 rfl 3 rfl
       have r4 : wr.cell? ⟨wp.heap.size, 4, none⟩ = some (.bool X.isOpen) := hI.out.cell 2 rfl 4 rfl
       have r5 : wr.cell? ⟨w.heap.size + 1, 0, none⟩ = some (.slice aN ds.length cN) := hI.out.cell 7 rfl 0 rfl
       have hdl : ds.length = k := by have := congrArg List.length hds.out; simp at this; omega
       have hdl' : ds.length ≤ 2097152 := by omega
       have HDL := Tre.hid hdl
       clear hI hI' e MB hdl
       go_wp2_with (at_builtin; refine wpList_append_own_at _ rfl _ _ 31 rfl 0 39 ii _ 5 80 Tryz.underlying31 J1.out J2.out J3.out J4.out rfl (by omega) (.slice aN ds.length cN) ds.length (ds.flatMap NodeV.cells) rfl (HMB.out.row 3 rfl) ⟨wr.heap.size, 0, none⟩ 1 1 [.int .i64 X.kind, .string X.name, .slice aA X.args.length cA, .slice al2 X.labels.length cl2, .bool X.isOpen] rfl rfl (World.news_of_block (cs := #[.int .i64 X.kind, .string X.name, .slice aA X.args.length cA, .slice al2 X.labels.length cl2, .bool X.isOpen]) (t := 39) (fr := (0, 0)) (heap_alloc_new wr _)) (by simp [Value.oneCell']) (by unfold maxLen; omega) (by omega) (Nat.zero_le _) ?_; intro v' w4 hown4 hgrow4 hnil4 hat4; have M4 := HMB.out.grow 3 rfl hgrow4 hown4 hat4; obtain ⟨a4, c4, rfl, _⟩ := M4.val 3 rfl; have r6 : w4.cell? ⟨w.heap.size + 1, 0, none⟩ = some (.slice aN ds.length cN) := M4.cell 7 rfl 0 rfl; have r6f := M4.free 7 rfl 0; have M5 := M4.setCell 7 rfl 0 (.slice a4 (ds.length + 1) c4); have HM5 := Tre.hid M5; clear M4 M5 hown4 hgrow4 hnil4 hat4)
       go_roundw
       case rel =>
        have hk : kids ⟨trimNode L X, .slice aA X.args.length cA, .slice al2 X.labels.length cl2⟩ = [rowR 3 1 (.slice aA X.args.length cA) X.args.length ((X.args.map (placeOf L)).map (Value.int .i64)), rowR 9 1 (.slice al2 X.labels.length cl2) X.labels.length (X.labels.map Value.string)] := by
         simp [kids, trimNode]
        refine ⟨k + 1, .slice a4 (ds.length + 1) c4, ds ++ [⟨trimNode L X, .slice aA X.args.length cA, .slice al2 X.labels.length cl2⟩], by omega, by go_num, ?_, ?_⟩
        ·show _ = _
         rw [List.map_append, hds.out, HTK.out, List.map_append, List.map_singleton, List.map_singleton, HX.out]
        ·show Mem _ _ _
         rw [nodesR_snoc, kidsR_snoc, hk]
         exact HM5.out.push2
       case measure => simp [intOf]; omega
    ·have e : L.take k = L := List.take_of_length_le (by omega)
     have hd := hds.out
     rw [e] at hd
     have HD := Tre.hid hd
     have q0 : wr.cell? ⟨w.heap.size + 1, 0, none⟩ = some (.slice aN ds.length cN) := hM.out.cell 4 rfl 0 rfl
     have q1 : wr.cell? ⟨w.heap.size + 1, 1, none⟩ = some (.int .i64 0) := hM.out.cell 4 rfl 1 rfl
     have q0f := hM.out.free 4 rfl 0
     have q1f := hM.out.free 4 rfl 1
     have M6 := (hM.out.setCell 4 rfl 0 (.slice aN ds.length cN)).setCell 4 rfl 1 (.int .i64 0)
     have HM6 := Tre.hid M6
     clear e hd hds M6
     go_wp2_with fail
     have z0 : ((wr.setCell ⟨w.heap.size + 1, 0, none⟩ (.slice aN ds.length cN)).setCell ⟨w.heap.size + 1, 1, none⟩ (.int .i64 0)).cell? ⟨w.heap.size + 1, 0, none⟩ = some (.slice aN ds.length cN) := HM6.out.cell 4 rfl 0 rfl
     have z1 : ((wr.setCell ⟨w.heap.size + 1, 0, none⟩ (.slice aN ds.length cN)).setCell ⟨w.heap.size + 1, 1, none⟩ (.int .i64 0)).cell? ⟨w.heap.size + 1, 1, none⟩ = some (.int .i64 0) := HM6.out.cell 4 rfl 1 rfl
     refine bodyPost_ret (v := .agg #[.slice aN ds.length cN, .int .i64 0]) (by simp [results, Tryz.results13, go_sem, z0, z1]) rfl ⟨_, ds, rfl, ?_, HM6.out.sub (by simp)⟩
     rw [HD.out]
     unfold Graph.trim
     rw [HL.out]
end Go.Proofs.YtljmcmdabdlldaaGreatDoor.gr
namespace Go.Proofs.YtljmcmdabdlldaaGreatDoor.load
open Go.RowKit Go.Maps Go.Shelf Go.Tre lex gr tree
theorem nil_iface (t : TypeId) (v : Value) (w : World) : (binOp .eql 58 .nilIface (.iface t v)).run Tryz.prog w = .ok (.bool false) w := by
 have h : ∀ d : Nat, (Op.equalIn (d + 1) 58 .nilIface (.iface t v)).run Tryz.prog w = .ok false w := fun d => by
  simp [Op.equalIn, run_underlying Tryz.underlying58]
 simp only [binOp]
 simp [Op.equal, Op.maxDepth, h 9999]
set_option maxRecDepth 100000 in
set_option maxHeartbeats 1000000 in
theorem is_nil (t : TypeId) (v : Value) (w : World) : Calls Tryz.prog 22 #[.nilIface, .iface t v] w fun e w' => e = .returned (.bool false) ∧ w' = w := by
 have hn := nil_iface t v w
 go_enter Tryz.func22, Tryz.ntmps22
 go_wp2_with fail
 go_ret
 exact ⟨rfl, rfl⟩
set_option maxRecDepth 100000 in
set_option maxHeartbeats 16000000 in
theorem Load_ok (t : Ty) (aa al : Option Addr) (ca cl : Nat) (w : World) (hT : TyRd w t (.agg #[.int .i64 t.kind, .string ⟨t.s.toArray⟩, .slice aa t.args.length ca, .slice al t.labels.length cl, .bool t.opn])) (hv : verdictI (walkT t) = 0) (hw : t.weight ≤ 4194304) (hm : MaxAt w)
  (T : List Ent) (ad : Nat → Addr) (hS : SmallT T) (hE : EntsAt (w.alloc (.cells #[.int .i64 t.kind, .string ⟨t.s.toArray⟩, .slice aa t.args.length ca, .slice al t.labels.length cl, .bool t.opn] 28)) T ad) (h0 : ad 0 = ⟨w.heap.size, 0, none⟩)
  (k : Nat) (bd : ByteArray → Option Nat) (n : Nat) (hn : n ≤ 4194304) (hb : bind1 T k 0 (fun _ => none, 0) = some (bd, n)) (hf : ∀ s x, bd s = some x → ∃ r, follow1 T bd (2 * n + 2) x = some r) (a : Nat) (st : LSt) (hnd : node1 T (bd, n) k 0 ⟨fun _ => none, fun _ => none, []⟩ = some (a, st)) (hlen : st.ns.length ≤ 1048576) (hgw : Graph.weight ⟨st.ns, (a : Int)⟩ ≤ 2097152) :
  Calls Tryz.prog 10 #[.agg #[.int .i64 t.kind, .string ⟨t.s.toArray⟩, .slice aa t.args.length ca, .slice al t.labels.length cl, .bool t.opn]] w fun e w' =>
   ∃ v ds, e = .returned (.tuple #[.agg #[v, .int .i64 0], .int .i64 0]) ∧ ds.map NodeV.n = (Tre.Graph.mk st.ns (a : Int)).trim.ns ∧ Mem w w' [nodesR v ds, kidsR ds] := by
 have M0 := ((Mem.nil w).allocR #[.int .i64 t.kind, .string ⟨t.s.toArray⟩, .slice aa t.args.length ca, .slice al t.labels.length cl, .bool t.opn] 28).allocR #[.slice none 0 0, .int .i64 0] 33
 rw [World.size_alloc] at M0
 have hB0 : Below (w.alloc (.cells #[.int .i64 t.kind, .string ⟨t.s.toArray⟩, .slice aa t.args.length ca, .slice al t.labels.length cl, .bool t.opn] 28)).heap.size _ ((w.alloc (.cells #[.int .i64 t.kind, .string ⟨t.s.toArray⟩, .slice aa t.args.length ca, .slice al t.labels.length cl, .bool t.opn] 28)).alloc (.cells #[.slice none 0 0, .int .i64 0] 33)) := (Below.refl _ _).alloc (Nat.le_refl _) _
 have HC := Tre.hid (check_rd t _ _ hw (hT.after M0.below) (hm.below M0.below))
 rw [hv] at HC
 have HE := Tre.hid (hE.below hB0)
 have HM0 := Tre.hid M0
 have HX := Tre.hid hm
 have HS := Tre.hid hS
 have HB := Tre.hid hb
 have HF := Tre.hid hf
 have HND := Tre.hid hnd
 have HLEN := Tre.hid hlen
 have HGW := Tre.hid hgw
 have H0 := Tre.hid h0
 have y0 := M0.cell 1 rfl 0 rfl
 have y1 := M0.cell 1 rfl 1 rfl
 have y2 := M0.cell 1 rfl 2 rfl
 have y3 := M0.cell 1 rfl 3 rfl
 have y4 := M0.cell 1 rfl 4 rfl
 clear hT hv hw hm hS hE hb hf hnd hlen hgw h0 M0 hB0
 go_enter Tryz.func10, Tryz.ntmps10
 go_wp2_with fail
 refine HC.out.mono ?_
 rintro e w1 ⟨rfl, b1⟩
 have HM1 := Tre.hid (HM0.out.quiet b1)
 have HE1 := Tre.hid (HE.out.below b1)
 have hst := start_ok T ad HS.out k 0 bd n hn w1 HE1.out HB.out HF.out
 rw [H0.out] at hst
 have HST := Tre.hid hst
 clear HC HM0 HE y0 y1 y2 y3 y4 b1 hst
 go_wp2_with fail
 refine HST.out.mono ?_
 rintro e w2 ⟨lb, mb, mv, mm, rfl, M2⟩
 have HM2 := Tre.hid M2
 have hnode := node_any w1 T ad HE1.out HS.out lb mb mv mm bd n hn k 0 ⟨fun _ => none, fun _ => none, []⟩ st a [] w2 (.slice none 0 0) [] 0 0 (fun _ => none) HND.out rfl (fun _ _ => rfl) (fun c x h => by cases h) HLEN.out M2
 rw [H0.out] at hnode
 have HN := Tre.hid hnode
 clear M2 HST hnode
 go_wp2_with fail
 refine (is_nil _ _ _).mono ?_
 rintro e w3 ⟨rfl, rfl⟩
 go_wp2_with fail
 refine (is_nil _ _ _).mono ?_
 rintro e w4 ⟨rfl, rfl⟩
 go_wp2_with fail
 refine HN.out.mono ?_
 rintro e w5 ⟨rfl, vN, ds, nv, nm, M, hds, _, _, M5⟩
 have M6 := HM1.out.call M5
 obtain ⟨aN, cN, rfl, _⟩ := M6.val 4 rfl
 have hl : ds.length = st.ns.length := by rw [← hds, List.length_map]
 have l4 : w5.cell? ⟨lb, 4, none⟩ = some (.int .i64 0) := M6.cell 0 rfl 4 rfl
 have l4f := M6.free 0 rfl 4
 have l3 : w5.cell? ⟨lb, 3, none⟩ = some (.slice aN ds.length cN) := M6.cell 0 rfl 3 rfl
 have M7 := M6.setCell 0 rfl 4 (.int .i64 (a : Int))
 have HM7 := Tre.hid M7
 have hna := nodes_read (M7.at_ 4 rfl) (M7.at_ 5 rfl)
 rw [hds] at hna
 have HTR := Tre.hid (trim_any aN cN ⟨st.ns, (a : Int)⟩ _ hna HGW.out (HX.out.below M7.below))
 rw [← hl] at HTR
 clear M5 M6 M7 hna hds HN HM2 HM1 HE1 hl
 go_wp2_with fail
 refine HTR.out.mono ?_
 rintro e w8 ⟨v, d8, rfl, hd8, m8⟩
 have M8 := HM7.out.call m8
 obtain ⟨a8, c8, rfl, _⟩ := M8.val 0 rfl
 have g0 : w8.cell? ⟨w.heap.size + 1, 0, none⟩ = some (.slice none 0 0) := M8.cell 8 rfl 0 rfl
 have g1 : w8.cell? ⟨w.heap.size + 1, 1, none⟩ = some (.int .i64 0) := M8.cell 8 rfl 1 rfl
 have f0 := M8.free 8 rfl 0
 have f1 := M8.free 8 rfl 1
 have M9 := (M8.setCell 8 rfl 0 (.slice a8 d8.length c8)).setCell 8 rfl 1 (.int .i64 0)
 have HM9 := Tre.hid M9
 have HD8 := Tre.hid hd8
 clear m8 M8 M9 HTR HM7 l4 l4f l3 hd8
 go_wp2_with fail
 generalize hwz : (w8.setCell ⟨w.heap.size + 1, 0, none⟩ (.slice a8 d8.length c8)).setCell ⟨w.heap.size + 1, 1, none⟩ (.int .i64 0) = wz at HM9 ⊢
 have z0 : wz.cell? ⟨w.heap.size + 1, 0, none⟩ = some (.slice a8 d8.length c8) := HM9.out.cell 8 rfl 0 rfl
 have z1 : wz.cell? ⟨w.heap.size + 1, 1, none⟩ = some (.int .i64 0) := HM9.out.cell 8 rfl 1 rfl
 refine bodyPost_ret (v := .tuple #[.agg #[.slice a8 d8.length c8, .int .i64 0], .int .i64 0]) (by simp [results, Tryz.results10, go_sem, z0, z1]) rfl ?_
 exact ⟨_, d8, rfl, HD8.out, HM9.out.sub (by simp)⟩
end Go.Proofs.YtljmcmdabdlldaaGreatDoor.load
namespace Go.Tre
open Go.RowKit
def TabOf (w : World) (t : Ty) (L : List Addr) : Prop := ∀ (base : Nat) (ad : Nat → Addr), (∀ i a, L[i]? = some a → ad (base + i) = a) → ∀ i e, (flat t base)[i]? = some e → EntAt w ad (base + i) e
theorem table (N : Nat) : ∀ (t : Ty) (O : Nat → Prop) (V : Array Value) (b off : Nat) (w : World), t.weight ≤ N → TyIn w O t (.agg V) → (∀ j u, V[j]? = some u → w.cell? ⟨b, off + j, none⟩ = some u) → PlainAt w ⟨b, off, none⟩ → ¬ O b →
  ∃ L : List Addr, L.length = t.count ∧ L[0]? = some ⟨b, off, none⟩ ∧ (∀ a ∈ L.drop 1, O a.block) ∧ L.Nodup ∧ TabOf w t L := by
 induction N with
 | zero => intro t _ _ _ _ _ h; have := weight_pos t; omega
 | succ N ih =>
  intro t O V b off w hN hT hV hp hO
  cases hT with
  | @mk _ k s args labels o aa ca al cl W OO hc hl hlab hcell hsub hdis hargs =>
  rw [Ty.weight] at hN
  have kids : ∀ (rest : List Ty) (m : Nat), args.drop m = rest → ∃ L : List Addr, L.length = counts rest ∧ (∀ a ∈ L, O a.block ∧ ((∃ q b' off', m ≤ q ∧ q < args.length ∧ aa = some ⟨b', off', none⟩ ∧ a = ⟨b', off' + q * 5, none⟩) ∨ ∃ q, m ≤ q ∧ OO q a.block)) ∧ L.Nodup ∧
    ∀ (base : Nat) (ad : Nat → Addr), (∀ i a, L[i]? = some a → ad (base + i) = a) → (∀ i e, (flats rest base)[i]? = some e → EntAt w ad (base + i) e) ∧ ∀ j x, (idxs rest base)[j]? = some x → ∃ b' off', aa = some ⟨b', off', none⟩ ∧ ad x = ⟨b', off' + (m + j) * 5, none⟩ := by
   intro rest
   induction rest with
   | nil =>
    intro m _
    refine ⟨[], by simp [counts], by simp, List.nodup_nil, fun base ad _ => ⟨fun i e h => ?_, fun j x h => ?_⟩⟩
    ·rw [flats] at h; simp at h
    ·rw [idxs] at h; simp at h
   | cons c r ihr =>
    intro m hm
    have hml : m < args.length := by
     rcases Nat.lt_or_ge m args.length with h | h
     ·exact h
     ·rw [List.drop_eq_nil_of_le h] at hm; cases hm
    have hcm : args[m]? = some c := by
     have := congrArg (·[0]?) hm
     simpa [List.getElem?_drop] using this
    have hr : args.drop (m + 1) = r := by
     rw [List.drop_eq_getElem_cons hml] at hm
     exact (List.cons.inj hm).2
    obtain ⟨b', off', eaa, hob, ⟨cs, Tt, hpl⟩, hno, h5, hcc⟩ := hcell m hml
    have hwc := weights_at hcm
    obtain ⟨L1, l1, r1, o1, n1, t1⟩ := ih c (OO m) (W m) b' (off' + m * 5) w (by omega) (hargs m c hcm) (fun j u hu => hcc j u hu) ⟨cs, Tt, hpl⟩ (hno m)
    obtain ⟨L2, l2, o2, n2, t2⟩ := ihr (m + 1) hr
    have hL1 : L1 = ⟨b', off' + m * 5, none⟩ :: L1.drop 1 := by
     cases L1 with
     | nil => simp at r1
     | cons x y => simp at r1; subst r1; rfl
    refine ⟨L1 ++ L2, by rw [List.length_append, l1, l2, counts], fun a ha => ?_, ?_, fun base ad had => ?_⟩
    ·rcases List.mem_append.1 ha with ha | ha
     ·rw [hL1] at ha
      rcases List.mem_cons.1 ha with rfl | ha
      ·exact ⟨hob, .inl ⟨m, b', off', Nat.le_refl _, hml, eaa, rfl⟩⟩
      ·exact ⟨hsub m _ (o1 a ha), .inr ⟨m, Nat.le_refl _, o1 a ha⟩⟩
     ·obtain ⟨h1, h2⟩ := o2 a ha
      refine ⟨h1, ?_⟩
      rcases h2 with ⟨q, b2, off2, hq, hql, e, e2⟩ | ⟨q, hq, ho⟩
      ·exact .inl ⟨q, b2, off2, by omega, hql, e, e2⟩
      ·exact .inr ⟨q, by omega, ho⟩
    ·refine List.nodup_append.2 ⟨n1, n2, fun a ha c' hc' e => ?_⟩
     subst e
     obtain ⟨_, h2⟩ := o2 a hc'
     rw [hL1] at ha
     rcases List.mem_cons.1 ha with rfl | ha
     ·rcases h2 with ⟨q, b2, off2, hq, _, e, e2⟩ | ⟨q, hq, ho⟩
      ·rw [eaa] at e
       injection e with e
       injection e with e3 e4
       injection e2 with e5 e6
       omega
      ·exact hno q ho
     ·have hom := o1 a ha
      rcases h2 with ⟨q, b2, off2, hq, _, e, e2⟩ | ⟨q, hq, ho⟩
      ·rw [eaa] at e
       injection e with e
       injection e with e3 e4
       rw [e2] at hom
       rw [← e3] at hom
       exact hno m hom
      ·have := hdis m q _ hom ho
       omega
    ·have a1 : ∀ i a, L1[i]? = some a → ad (base + i) = a := fun i a h => had i a (by rw [List.getElem?_append_left (List.getElem?_eq_some_iff.1 h).1]; exact h)
     have a2 : ∀ i a, L2[i]? = some a → ad (base + c.count + i) = a := fun i a h => by
      have := had (L1.length + i) a (by rw [List.getElem?_append_right (by omega), Nat.add_sub_cancel_left]; exact h)
      rw [l1] at this
      rw [Nat.add_assoc]; exact this
     obtain ⟨k1, k2⟩ := t2 (base + c.count) ad a2
     refine ⟨fun i e h => ?_, fun j x h => ?_⟩
     ·rw [flats] at h
      rcases Nat.lt_or_ge i (flat c base).length with hi | hi
      ·rw [List.getElem?_append_left hi] at h
       exact t1 base ad a1 i e h
      ·rw [List.getElem?_append_right hi, flat_len] at h
       rw [flat_len] at hi
       have := k1 _ e h
       rwa [show base + c.count + (i - c.count) = base + i by omega] at this
     ·rw [idxs] at h
      cases j with
      | zero =>
       simp at h
       subst h
       refine ⟨b', off', eaa, ?_⟩
       have := a1 0 _ r1
       rw [Nat.add_zero] at this ⊢
       exact this
      | succ j =>
       rw [zqb] at h
       obtain ⟨b2, off2, e, e2⟩ := k2 j x h
       exact ⟨b2, off2, e, by rw [e2, show m + 1 + j = m + (j + 1) by omega]⟩
  obtain ⟨L, l1, o1, n1, t1⟩ := kids args 0 rfl
  refine ⟨⟨b, off, none⟩ :: L, by rw [List.length_cons, l1, Ty.count]; omega, rfl, fun a ha => (o1 a (by simpa using ha)).1, List.nodup_cons.2 ⟨fun h => hO (o1 _ h).1, n1⟩, fun base ad had i e h => ?_⟩
  have a1 : ∀ i a, L[i]? = some a → ad (base + 1 + i) = a := fun i a h => by
   have := had (i + 1) a (by rw [zqb]; exact h)
   rwa [show base + (i + 1) = base + 1 + i by omega] at this
  obtain ⟨k1, k2⟩ := t1 (base + 1) ad a1
  rw [flat] at h
  cases i with
  | zero =>
   simp at h
   subst h
   have hx : idxs args (base + 1) = idxs args (base + 1) := rfl
   refine ⟨b, off, aa, ca, al, cl, had 0 _ rfl, hV 0 _ rfl, hV 1 _ rfl, ?_, hV 3 _ rfl, hV 4 _ rfl, strs_of hlab, hp, fun j x hj => ?_⟩
   ·have := hV 2 _ rfl
    simp only [idxs_len]
    exact this
   ·obtain ⟨b', off', e1, e2⟩ := k2 j x hj
    rw [Nat.zero_add] at e2
    exact ⟨b', off', e1, e2⟩
  | succ i =>
   rw [zqb] at h
   have := k1 i e h
   rwa [show base + 1 + i = base + (i + 1) by omega] at this
theorem ents_of {w : World} {t : Ty} {O : Nat → Prop} {V : Array Value} {b off : Nat} (hT : TyIn w O t (.agg V)) (hV : ∀ j u, V[j]? = some u → w.cell? ⟨b, off + j, none⟩ = some u) (hp : PlainAt w ⟨b, off, none⟩) (hO : ¬ O b) :
  ∃ ad : Nat → Addr, EntsAt w (flat t 0) ad ∧ ad 0 = ⟨b, off, none⟩ := by
 obtain ⟨L, l1, r1, _, n1, t1⟩ := table t.weight t O V b off w (Nat.le_refl _) hT hV hp hO
 have had : ∀ i a, L[i]? = some a → (fun i => L.getD i ⟨0, 0, none⟩) (0 + i) = a := fun i a h => by
  show L.getD (0 + i) _ = a
  rw [Nat.zero_add, List.getD_eq_getElem?_getD, h]; rfl
 refine ⟨fun i => L.getD i ⟨0, 0, none⟩, ⟨fun i e he => ?_, fun i j hi hj e => ?_⟩, ?_⟩
 ·have := t1 0 (fun i => L.getD i ⟨0, 0, none⟩) had i e he
  rwa [Nat.zero_add] at this
 ·rw [flat_len, ← l1] at hi hj
  simp only [List.getD_eq_getElem?_getD, List.getElem?_eq_getElem hi, List.getElem?_eq_getElem hj, Option.getD_some] at e
  exact (List.getElem?_inj hi n1).1 (by rw [List.getElem?_eq_getElem hi, List.getElem?_eq_getElem hj, e])
 ·show L.getD 0 _ = _
  rw [List.getD_eq_getElem?_getD, r1]; rfl
end Go.Tre
