/- LoadNames: the walk. -/
import Derived.Test.YtljmcmdabdlldaaGreatDoorB33
import Derived.Test.YtljmcmdabdlldaaGreatDoorB34
import Derived.Test.YtljmcmdabdlldaaGreatDoorB35
import Derived.Test.YtljmcmdabdlldaaGreatDoorB37
import Derived.Test.YtljmcmdabdlldaaGreatDoorB38
set_option linter.unusedVariables false
namespace Go.Proofs.YtljmcmdabdlldaaGreatDoor.load
open Go.RowKit Go.Shelf Go.Maps Go.Tre lex gr part
theorem load_sum {t : Ty} {w w' : World} {e : Ending} (h : LoadPost t w e w') : ∃ (ec : Int) (v : Value) (ds : List NodeV), e = .returned (.tuple #[.agg #[v, .int .i64 0], .int .i64 ec]) ∧ Mem w w' [nodesR v ds, kidsR ds] ∧
  ((ec = 0 ∧ verdictI (walkT t) = 0 ∧ ∃ g, LoadsAs t g ∧ ds.map NodeV.n = g.trim.ns) ∨ (ec = 6 ∧ verdictI (walkT t) = 0 ∧ LoadFails t) ∨ (ec = verdictI (walkT t) ∧ verdictI (walkT t) ≠ 0)) := by
 cases h with
 | no h he hb => exact ⟨_, .slice none 0 0, [], he, ((Mem.of_below hb).addMany.addNil 39 5), .inr (.inr ⟨rfl, h⟩)⟩
 | bad h hf he hb => exact ⟨_, .slice none 0 0, [], he, ((Mem.of_below hb).addMany.addNil 39 5), .inr (.inl ⟨rfl, h, hf⟩)⟩
 | ok h g hg v ds he hd hm => exact ⟨_, v, ds, he, hm, .inl ⟨rfl, h, g, hg, hd⟩⟩
theorem graph_small {t : Ty} {g : Tre.Graph} (_ : verdictI (walkT t) = 0) (hw : t.weight ≤ 100000) (hg : LoadsAs t g) : g.trim.weight ≤ 200000 := by
 obtain ⟨bd, r, st, _, _, hn, rfl⟩ := hg
 have L := loaded_of hn
 refine Nat.le_trans (Graph.trim_weight _) (Nat.le_trans L.weight ?_)
 have h1 := flat_weight t 0
 have : (flat t 0).map Ent.w = (flat t 0).map fun e => 1 + e.s.length + (e.labels.map fun x => x.length + 1).sum + e.args.length := rfl
 rw [this]; omega
set_option maxRecDepth 100000 in
set_option maxHeartbeats 16000000 in
theorem namesLaw (a : Option Addr) (cap : Nat) (l : List Prt) (w : World) (hl : PrtsAt w a l) (hlen : l.length ≤ 1048576) (hcap : l.length ≤ cap) (E : LexEnv w) :
  Calls Tryz.prog 4 #[.slice a l.length cap] w fun e w' => e = .returned (.bool true) ∧ Below w.heap.size w w' := by
 have HX := Tre.hid E.max
 have HPL := Tre.hid hl
 have HA := Tre.hid (alive07 w E)
 clear E hl
 go_enter Tryz.func4, Tryz.ntmps4
 go_wp2_with fail
 refine HA.out.mono ?_
 rintro e w1 ⟨rfl, b1⟩
 have HB1 := Tre.hid b1
 clear b1 HA
 go_wp2_with fail
 refine (great_any a cap l _ (HPL.out.below HB1.out) hlen).mono ?_
 rintro e w2 ⟨rfl, b2⟩
 have HB2 := Tre.hid (HB1.out.trans (b2.mono HB1.out.size))
 clear b2 HB1
 cases hg : greatB l with
 | true =>
  clear hg
  go_wp2_with fail
  go_ret
  exact ⟨rfl, HB2.out⟩
 | false =>
  have hsm := great_small hg
  have HWG : Hid ((ofTy l).weight ≤ 14004) := hsm.1
  have HOF := Tre.hid (of_any w (l.length + 1) l a cap w2 HB2.out (Nat.lt_succ_self _) hlen hcap HPL.out)
  clear hg hsm
  go_wp2_with fail
  refine HOF.out.mono ?_
  rintro e w3 ⟨O, aa, al, ca, cl, a', c', rfl, _, _, m3⟩
  have hty : (ofP (l.length + 1) l).1 = ofTy l := rfl
  rw [hty] at m3 ⊢
  have HTH : Hid (∀ g, LoadsAs (ofTy l) g → LoadFails (wrapT (ofTy l)) → ∃ p ∈ l, p.s = zzzS) := fun g h1 h2 => wrap_there h1 h2
  obtain ⟨t, ht⟩ : ∃ t, ofTy l = t := ⟨_, rfl⟩
  rw [ht] at m3 HWG HTH ⊢
  have M3 := (Mem.of_below HB2.out).call m3
  have M4 := M3.allocR #[.int .i64 t.kind, .string ⟨t.s.toArray⟩, .slice aa t.args.length ca, .slice al t.labels.length cl, .bool t.opn] 28
  have HY := M4.at_ 1 rfl
  obtain ⟨bT, hbT⟩ : ∃ bT, w3.heap.size = bT := ⟨_, rfl⟩
  rw [hbT] at M4
  have x0 := M4.cell 0 rfl 0 rfl
  have x1 := M4.cell 0 rfl 1 rfl
  have x2 := M4.cell 0 rfl 2 rfl
  have x3 := M4.cell 0 rfl 3 rfl
  have x4 := M4.cell 0 rfl 4 rfl
  have HB4 := Tre.hid M4.below
  have HYY := Tre.hid HY
  clear HOF hty ht m3 M3 M4 HY HB2
  generalize (ofP (l.length + 1) l).2 = rest at *
  go_wp2_with fail
  try rw [hbT]
  clear hbT
  generalize hw4 : w3.alloc (.cells #[.int .i64 t.kind, .string ⟨t.s.toArray⟩, .slice aa t.args.length ca, .slice al t.labels.length cl, .bool t.opn] 28) = w4 at *
  clear hw4
  have HX4 := Tre.hid (HX.out.below HB4.out)
  have HXC := Tre.hid (fun (W : World) (hb : Below w4.heap.size w4 W) => And.intro (cell_below hb x0) (And.intro (cell_below hb x1) (And.intro (cell_below hb x2) (And.intro (cell_below hb x3) (cell_below hb x4)))))
  refine (Load_any t O _ w4 HYY.out.1 HYY.out.2 (by have := HWG.out; omega) HX4.out).mono ?_
  intro e w5 hp
  obtain ⟨ec, v5, d5, rfl, m5, hor⟩ := load_sum hp
  have HM5 := Tre.hid m5
  clear hp m5 x0 x1 x2 x3 x4
  by_cases hec : ec = 0
  rotate_left
  ·have hne : (ec == 0) = false := beq_eq_false_iff_ne.2 hec
   obtain ⟨a5, c5, rfl, _⟩ := HM5.out.val 0 rfl
   have HM6 := Tre.hid (HM5.out.allocR #[.slice a5 d5.length c5, .int .i64 0] 33)
   clear hor hec HM5
   go_wp2_with fail
   go_ret
   exact ⟨rfl, HB4.out.trans (HM6.out.below.mono HB4.out.size)⟩
  subst hec
  obtain ⟨hv, g, hg, hd⟩ : verdictI (walkT t) = 0 ∧ ∃ g, LoadsAs t g ∧ d5.map NodeV.n = g.trim.ns := by
   rcases hor with ⟨_, h1, h2⟩ | ⟨h, _⟩ | ⟨h, h2⟩
   ·exact ⟨h1, h2⟩
   ·omega
   ·exact absurd h.symm h2
  have HV := Tre.hid hv
  have HG := Tre.hid hg
  have HD := Tre.hid hd
  have HGW := Tre.hid (graph_small hv (by have := HWG.out; omega) hg)
  obtain ⟨a5, c5, rfl, _⟩ := HM5.out.val 0 rfl
  obtain ⟨n, hn⟩ : ∃ n, d5.length = n := ⟨_, rfl⟩
  have hgn : g.trim.ns.length = n := by rw [← hn, ← hd, List.length_map]
  have HLL := Tre.hid hgn
  have hnw : n ≤ 200000 := by rw [← hgn]; exact Nat.le_trans (len_weight g.trim) HGW.out
  have M6 := HM5.out.allocR #[.slice a5 d5.length c5, .int .i64 0] 33
  rw [hn] at M6 ⊢
  obtain ⟨b5, hb5⟩ : ∃ b5, w5.heap.size = b5 := ⟨_, rfl⟩
  rw [hb5] at M6
  have M7 : Mem w4 (w5.alloc (.cells #[.slice a5 n c5, .int .i64 0] 33)) [cellsR b5 33 #[.slice a5 n c5, .int .i64 0], nodesR (.slice a5 n c5) d5, kidsR d5] := by
   have h := M6
   unfold nodesR at h ⊢
   rw [hn] at h ⊢
   exact h
  have HM7 := Tre.hid M7
  obtain ⟨x0, x1, x2, x3, x4⟩ := HXC.out _ M7.below
  clear hor hv hg hd hn hgn M6 M7 HM5
  go_wp2_with fail
  try rw [hb5]
  clear hb5
  generalize hw6 : w5.alloc (.cells #[.slice a5 n c5, .int .i64 0] 33) = w6 at *
  clear hw6 x0 x1 x2 x3 x4
  refine (rename_any w4 [122, 122] (by decide) t.weight t O _ w6 (Nat.le_refl _) (by have := HWG.out; omega) HYY.out.1 HYY.out.2 HM7.out.below).mono ?_
  rintro e w8 ⟨own, ra, rl, rca, rcl, rfl, m8⟩
  have hrw := renT_weight [122, 122] t
  have hcw := count_weight t
  have HRE := Tre.hid (fun (h : Tre.Graph) (hh : LoadsAs (renT [122, 122] t) h) => load_ren HG.out hh)
  obtain ⟨rt, hrt⟩ : ∃ rt, renT [122, 122] t = rt := ⟨_, rfl⟩
  rw [hrt] at m8 hrw HRE ⊢
  have M8 := HM7.out.call m8
  have HTR := ren_in (M8.at_ 0 rfl) HYY.out.2 M8.below
  have HOO : ∀ b, (own b ∨ O b) → b < w8.heap.size := fun b hb => by
   rcases hb with hb | hb
   ·exact (renR w4 O own rt _).has w8 (M8.at_ 0 rfl) b hb
   ·exact Nat.lt_of_lt_of_le (HYY.out.2 b hb) M8.below.size
  have HLD := Tre.hid (Load_any rt _ _ w8 HTR HOO (by have := HWG.out; have : [122, 122].length * t.count = 2 * t.count := rfl; omega) (HX4.out.below M8.below))
  have HM8 := Tre.hid M8
  have HRW : Hid (rt.weight ≤ 100000) := by show _ ≤ _; have := HWG.out; have : [122, 122].length * t.count = 2 * t.count := rfl; omega
  clear hrt m8 hrw hcw M8 HTR HOO
  go_wp2_with fail
  refine HLD.out.mono ?_
  intro e w9 hp
  obtain ⟨fc, v7, d7, rfl, m9, hor⟩ := load_sum hp
  have M9 := HM8.out.call m9
  obtain ⟨a7, c7, rfl, _⟩ := M9.val 0 rfl
  have M10 := M9.allocR #[.slice a7 d7.length c7, .int .i64 0] 33
  obtain ⟨b7, hb7⟩ : ∃ b7, w9.heap.size = b7 := ⟨_, rfl⟩
  rw [hb7] at M10
  have M11 : Mem w4 (w9.alloc (.cells #[.slice a7 d7.length c7, .int .i64 0] 33)) [cellsR b7 33 #[.slice a7 d7.length c7, .int .i64 0], nodesR (.slice a7 d7.length c7) d7, kidsR d7, cellsR b5 33 #[.slice a5 n c5, .int .i64 0], nodesR (.slice a5 n c5) d5, kidsR d5] := M10.del 3
  have HM11 := Tre.hid M11
  have HOR := Tre.hid hor
  obtain ⟨p0, p1⟩ := M11.two 0 rfl
  obtain ⟨q0, q1⟩ := M11.two 3 rfl
  have hNG : Hid (∀ W, Mem w4 W [cellsR b7 33 #[.slice a7 d7.length c7, .int .i64 0], nodesR (.slice a7 d7.length c7) d7, kidsR d7, cellsR b5 33 #[.slice a5 n c5, .int .i64 0], nodesR (.slice a5 n c5) d5, kidsR d5] → NodesAt W a5 g.trim.ns) := fun W h => by
   have := nodes_read (n := n) (h.at_ 4 rfl) (h.at_ 5 rfl)
   rwa [HD.out] at this
  clear hp m9 M9 M10 M11 HLD HM8 HM7 hor
  by_cases hfc : fc = 0
  ·subst hfc
   have hd7 : d7.map NodeV.n = g.trim.ns := by
    rcases HOR.out with ⟨_, _, h, hh, h2⟩ | ⟨h, _⟩ | ⟨h, h2⟩
    ·rw [h2, HRE.out h hh]
    ·omega
    ·exact absurd h.symm h2
   have hl7 : d7.length = n := by rw [← HLL.out, ← hd7, List.length_map]
   have HN7 : Hid (∀ W, Mem w4 W [cellsR b7 33 #[.slice a7 d7.length c7, .int .i64 0], nodesR (.slice a7 d7.length c7) d7, kidsR d7, cellsR b5 33 #[.slice a5 n c5, .int .i64 0], nodesR (.slice a5 n c5) d5, kidsR d5] → NodesAt W a7 g.trim.ns) := fun W h => by
    have := nodes_read (n := d7.length) (h.at_ 1 rfl) (h.at_ 2 rfl)
    rwa [hd7] at this
   have hEQ : Calls Tryz.prog 12 #[.agg #[.slice a5 n c5, .int .i64 0], .agg #[.slice a7 d7.length c7, .int .i64 0]] (w9.alloc (.cells #[.slice a7 d7.length c7, .int .i64 0] 33)) fun e w' => e = .returned (.bool true) ∧ Below (w9.alloc (.cells #[.slice a7 d7.length c7, .int .i64 0] 33)).heap.size (w9.alloc (.cells #[.slice a7 d7.length c7, .int .i64 0] 33)) w' := by
    have K := refEqual a5 a7 c5 c7 g.trim g.trim _ (hNG.out _ HM11.out) (HN7.out _ HM11.out) (by have := HGW.out; omega) (by have := HGW.out; omega)
    rw [decide_eq_true rfl, HLL.out] at K
    rw [← hl7] at K
    rw [hl7] at K ⊢
    exact K
   have HEQ := Tre.hid hEQ
   clear hd7 hEQ hl7 HOR
   go_wp2_with fail
   try rw [hb7]
   clear hb7
   refine HEQ.out.mono ?_
   rintro e w12 ⟨rfl, b12⟩
   have HM12 := Tre.hid (HM11.out.quiet b12)
   have hX12 := HXC.out _ HM12.out.below
   clear HEQ HM11 b12 p0 p1 q0 q1 hNG HN7 HRE HRW
   have HMX := HM12
   have hXW := hX12
   clear HM12 hX12
   have ME := HMX.out.allocRow #[.int .i64 t.kind, .string ⟨t.s.toArray⟩, .slice aa t.args.length ca, .slice al t.labels.length cl, .bool t.opn] 28 5 1 (by unfold maxLen; omega) rfl
   skip
   have MS := (ME.sepNil).add ⟨rfl, rfl, rfl, Nat.le_refl _, fun _ _ _ => rfl⟩ (renR w4 (fun b => 0 = 0 ∧ O b) (fun _ => False) t (.agg #[.int .i64 t.kind, .string ⟨t.s.toArray⟩, .slice aa t.args.length ca, .slice al t.labels.length cl, .bool t.opn])) ⟨⟨w4, HYY.out.1.wide (fun b hb => .inr ⟨rfl, hb⟩), fun _ _ => rfl, fun _ h => h.elim⟩, fun _ h => h.elim⟩ (fun _ h => h.elim)
   have MF : Mem w4 (w12.alloc (.cells #[.int .i64 t.kind, .string ⟨t.s.toArray⟩, .slice aa t.args.length ca, .slice al t.labels.length cl, .bool t.opn] 28)) (rowR 28 5 (.slice (some ⟨w12.heap.size, 0, none⟩) 1 1) 1 (rkidCells [⟨t, #[.int .i64 t.kind, .string ⟨t.s.toArray⟩, .slice aa t.args.length ca, .slice al t.labels.length cl, .bool t.opn], fun _ => False⟩]) :: sepR (rkidsFrom w4 (fun i b => i = 0 ∧ O b) 0 [⟨t, #[.int .i64 t.kind, .string ⟨t.s.toArray⟩, .slice aa t.args.length ca, .slice al t.labels.length cl, .bool t.opn], fun _ => False⟩]) :: _) := MS.sepInto.front 1 rfl
   obtain ⟨own2, MW⟩ := Mem.renMake (kids := [⟨t, #[.int .i64 t.kind, .string ⟨t.s.toArray⟩, .slice aa t.args.length ca, .slice al t.labels.length cl, .bool t.opn], fun _ => False⟩]) (O := O) (OO := fun i b => i = 0 ∧ O b) (labels := []) (al := none) (cl := 0) 4 zzzS false MF (Below.refl _ _) HYY.out.2 (Nat.le_refl _) (fun i x h => by simp at h) (fun i b h => h.2) (fun i j b h h' => h.1.trans h'.1.symm)
   have HT2 := ren_in (MW.at_ 0 rfl) HYY.out.2 MW.below
   have HO2 : ∀ b, (own2 b ∨ O b) → b < (w12.alloc (.cells #[.int .i64 t.kind, .string ⟨t.s.toArray⟩, .slice aa t.args.length ca, .slice al t.labels.length cl, .bool t.opn] 28)).heap.size := fun b hb => by
    rcases hb with hb | hb
    ·exact (renR w4 O own2 (wrapT t) _).has _ (MW.at_ 0 rfl) b hb
    ·exact Nat.lt_of_lt_of_le (HYY.out.2 b hb) MW.below.size
   have hww : (wrapT t).weight ≤ 100000 := by
    have := HWG.out
    unfold wrapT
    simp only [Ty.weight, weights]
    have : zzzS.length = 3 := rfl
    simp
    omega
   have HL3 : Hid (Calls Tryz.prog 10 #[.agg #[.int .i64 4, .string ⟨#[122, 122, 122]⟩, .slice (some ⟨w12.heap.size, 0, none⟩) 1 1, .slice none 0 0, .bool false]] (w12.alloc (.cells #[.int .i64 t.kind, .string ⟨t.s.toArray⟩, .slice aa t.args.length ca, .slice al t.labels.length cl, .bool t.opn] 28)) (LoadPost (wrapT t) (w12.alloc (.cells #[.int .i64 t.kind, .string ⟨t.s.toArray⟩, .slice aa t.args.length ca, .slice al t.labels.length cl, .bool t.opn] 28)))) := Load_any (wrapT t) _ _ _ HT2 HO2 (by omega) (HX4.out.below MW.below)
   have HMW := Tre.hid MW
   obtain ⟨x0, x1, x2, x3, x4⟩ := hXW
   clear ME MS MF MW HT2 HO2 HMX
   go_wp2_with fail
   skip
   refine HL3.out.mono ?_
   intro e w13 hp
   obtain ⟨kc, v9, d9, rfl, m13, hor9⟩ := load_sum hp
   have M13 := HMW.out.call m13
   obtain ⟨a9, c9, rfl, _⟩ := M13.val 0 rfl
   obtain ⟨n9, hn9⟩ : ∃ n9, d9.length = n9 := ⟨_, rfl⟩
   have M14 := M13.allocR #[.slice a9 d9.length c9, .int .i64 0] 33
   obtain ⟨b9, hb9⟩ : ∃ b9, w13.heap.size = b9 := ⟨_, rfl⟩
   rw [hb9, hn9] at M14
   rw [hn9] at ⊢
   have M15 : Mem w4 (w13.alloc (.cells #[.slice a9 n9 c9, .int .i64 0] 33)) [cellsR b9 33 #[.slice a9 n9 c9, .int .i64 0], nodesR (.slice a9 n9 c9) d9, kidsR d9, cellsR b5 33 #[.slice a5 n c5, .int .i64 0], nodesR (.slice a5 n c5) d5, kidsR d5] := by
    have h := (((M14.del 3).del 3).del 3).del 3
    unfold nodesR at h ⊢
    rw [hn9] at h ⊢
    exact h
   have HM15 := Tre.hid M15
   have HN9 := Tre.hid hn9
   have HOR9 := Tre.hid hor9
   clear hp m13 M13 M14 M15 hor9 hn9 HL3 HMW x0 x1 x2 x3 x4
   by_cases hk4 : kc = 4
   ·have e4 : (kc == 4) = true := by rw [hk4]; rfl
    have e4p : (kc = 4) = True := by rw [hk4]; simp
    clear hk4
    go_wp2_with fail
    go_ret
    exact ⟨rfl, HB4.out.trans (HM15.out.below.mono HB4.out.size)⟩
   have e4 : (kc == 4) = false := beq_eq_false_iff_ne.2 hk4
   have e4p : (kc = 4) = False := by simp [hk4]
   by_cases hk6 : kc = 6
   ·have e6 : (kc == 6) = true := by rw [hk6]; rfl
    have e6p : (kc = 6) = True := by rw [hk6]; simp
    have hth : ∃ p ∈ l.drop 0, p.s = zzzS := by
     rw [List.drop_zero]
     refine HTH.out g HG.out ?_
     rcases HOR9.out with ⟨h, _⟩ | ⟨_, _, h⟩ | ⟨h, h2⟩
     ·omega
     ·exact h
     ·exfalso
      rcases wrap_verdict HV.out with h3 | h3 <;> omega
    have HTH2 := Tre.hid hth
    clear hk4 hk6 hth
    go_wp2_with fail
    clear e4 e4p e6 e6p
    go_loopw [59] (fun v59 wr => ∃ (k : Nat), k ≤ l.length ∧ v59 = .int .i64 k ∧ Hid (∃ p ∈ l.drop k, p.s = zzzS) ∧ Hid (Below w4.heap.size w4 wr)) (fun v59 _ => l.length - (intOf v59).toNat)
    case atStart => exact ⟨0, Nat.zero_le _, rfl, HTH2.out, HM15.out.below⟩
    case round =>
     clear HM15 HTH2
     obtain ⟨k, hk, rfl, HEX, HBR⟩ := hrel
     have hlt : k < l.length := by
      obtain ⟨p, hp, _⟩ := HEX.out
      have := List.length_pos_of_mem hp
      rw [List.length_drop] at this
      omega
     obtain ⟨p, hp⟩ : ∃ p, l[k]? = some p := ⟨_, List.getElem?_eq_getElem hlt⟩
     have hBW := HB4.out.trans (HBR.out.mono HB4.out.size)
     obtain ⟨b, off, rfl, h0, h1, h2, h3, _, _⟩ := (HPL.out.below hBW).at_ k p hp
     have M := Tre.hid ((Mem.of_below HBR.out).allocR #[.int .u8 p.kind, .string ⟨p.s.toArray⟩, .int .u8 p.args, .bool p.opn] 46)
     have c1 := M.out.cell 0 rfl 1 rfl
     have hdr : l.drop k = p :: l.drop (k + 1) := by
      obtain ⟨g1, g2⟩ := List.getElem?_eq_some_iff.1 hp
      rw [List.drop_eq_getElem_cons g1, g2]
     by_cases hz : p.s = [122, 122, 122]
     ·have s1 : (p.s == [122, 122, 122]) = true := by rw [hz]; rfl
      have s2 : (p.s = [122, 122, 122]) = True := by rw [hz]; simp
      have s3 : (p.s == (⟨#[122, 122, 122]⟩ : ByteArray).toList) = true := by rw [ByteArray.toList_eq, hz]; rfl
      have s4 : (p.s = (⟨#[122, 122, 122]⟩ : ByteArray).toList) = True := by rw [ByteArray.toList_eq, hz]; simp
      clear hz hdr hp
      go_wp2_with fail
      go_ret
      exact ⟨rfl, HB4.out.trans (M.out.below.mono HB4.out.size)⟩
     ·have s1 : (p.s == [122, 122, 122]) = false := beq_eq_false_iff_ne.2 hz
      have s2 : (p.s = [122, 122, 122]) = False := by simp [hz]
      have s3 : (p.s == (⟨#[122, 122, 122]⟩ : ByteArray).toList) = false := by rw [ByteArray.toList_eq]; exact beq_eq_false_iff_ne.2 hz
      have s4 : (p.s = (⟨#[122, 122, 122]⟩ : ByteArray).toList) = False := by rw [ByteArray.toList_eq]; simp [hz]
      have HEX2 : Hid (∃ p ∈ l.drop (k + 1), p.s = zzzS) := by
       obtain ⟨q, hq, hqs⟩ := HEX.out
       rw [hdr] at hq
       rcases List.mem_cons.1 hq with rfl | hq
       ·exact absurd hqs hz
       ·exact ⟨q, hq, hqs⟩
      clear hz hdr hp HEX
      go_wp2_with fail
      go_roundw
      case rel => exact ⟨k + 1, by omega, by go_num, HEX2.out, M.out.below⟩
      case measure => simp [intOf]; omega
   have e6 : (kc == 6) = false := beq_eq_false_iff_ne.2 hk6
   have e6p : (kc = 6) = False := by simp [hk6]
   obtain ⟨hk0, kg, hkg, hd9⟩ : kc = 0 ∧ ∃ kg, LoadsAs (wrapT t) kg ∧ d9.map NodeV.n = kg.trim.ns := by
    rcases HOR9.out with ⟨h, _, h2⟩ | ⟨h, _⟩ | ⟨h, h2⟩
    ·exact ⟨h, h2⟩
    ·exact absurd h hk6
    ·exfalso
     rcases wrap_verdict HV.out with h3 | h3 <;> omega
   subst hk0
   have HKG := Tre.hid hkg
   have HD9 := Tre.hid hd9
   have hYW := HYY.out.1.under HYY.out.2 HM15.out.below
   have HNM := Tre.hid (Names_any t O _ _ hYW (fun b hb => Nat.lt_of_lt_of_le (HYY.out.2 b hb) HM15.out.below.size) HV.out (by have := HWG.out; omega) (HX4.out.below HM15.out.below))
   obtain ⟨x0, x1, x2, x3, x4⟩ := HXC.out _ HM15.out.below
   clear hk4 hk6 hkg hd9 hYW HOR9 e4 e4p e6 e6p
   go_wp2_with fail
   refine HNM.out.mono ?_
   rintro e w16 ⟨aN, cN, rfl, m16⟩
   have HM16 := Tre.hid (HM15.out.call m16)
   clear m16 HM15 HNM x0 x1 x2 x3 x4
   obtain ⟨NL, hNL⟩ : ∃ NL, namesL t = NL := ⟨_, rfl⟩
   rw [hNL] at HM16 ⊢
   have HNL := Tre.hid hNL
   have hnl : NL.length ≤ 100000 := by
    rw [← hNL]
    have h1 := namesF_len (boundB (pre t)) (pre t) []
    have h2 := pre_weight t
    have h3 := HWG.out
    unfold namesL
    simp at h1
    omega
   clear hNL
   go_wp2_with fail
   go_loopw [13, 70] (fun v13 v70 wr => ∃ (k : Nat), k ≤ NL.length ∧ v70 = .int .i64 k ∧ v13 = .bool (decide (zzzS ∈ NL.take k)) ∧ Hid (Mem w4 wr [rowR 9 1 (.slice aN NL.length cN) NL.length (NL.map fun x => .string ⟨x.toArray⟩), cellsR b9 33 #[.slice a9 n9 c9, .int .i64 0], nodesR (.slice a9 n9 c9) d9, kidsR d9, cellsR b5 33 #[.slice a5 n c5, .int .i64 0], nodesR (.slice a5 n c5) d5, kidsR d5])) (fun _ v70 _ => NL.length - (intOf v70).toNat)
   case atStart => exact ⟨0, Nat.zero_le _, rfl, by rw [List.take_zero]; rfl, HM16.out⟩
   case round =>
    clear HM16
    obtain ⟨k, hk, rfl, rfl, HM⟩ := hrel
    by_cases hlt : k < NL.length
    ·obtain ⟨s, hs⟩ : ∃ s, NL[k]? = some s := ⟨_, List.getElem?_eq_getElem hlt⟩
     have htk : NL.take (k + 1) = NL.take k ++ [s] := by rw [List.take_add_one, hs]; rfl
     obtain ⟨gN, rfl, _, _, hc⟩ := HM.out.getRow 0 rfl k (u := .string ⟨s.toArray⟩) (by rw [List.getElem?_map, hs]; rfl)
     have HTK : Hid (decide (zzzS ∈ NL.take (k + 1)) = (decide (zzzS ∈ NL.take k) || decide (s = [122, 122, 122]))) := by
      show _ = _
      rw [htk, Bool.eq_iff_iff]
      simp only [decide_eq_true_eq, List.mem_append, List.mem_singleton, Bool.or_eq_true]
      exact or_congr Iff.rfl ⟨fun h => h.symm, fun h => h.symm⟩
     generalize decide (zzzS ∈ NL.take k) = fr at *
     clear htk hs
     cases fr with
     | true =>
      go_wp2_with fail
      go_roundw
      case rel => exact ⟨k + 1, by omega, by go_num, by rw [HTK.out]; rfl, HM.out⟩
      case measure => simp [intOf]; omega
     | false =>
      by_cases hz : s = [122, 122, 122]
      ·have s1 : (s == [122, 122, 122]) = true := by rw [hz]; rfl
       have s2 : (s = [122, 122, 122]) = True := by rw [hz]; simp
       have s3 : (s == (⟨#[122, 122, 122]⟩ : ByteArray).toList) = true := by rw [ByteArray.toList_eq, hz]; rfl
       have s4 : (s = (⟨#[122, 122, 122]⟩ : ByteArray).toList) = True := by rw [ByteArray.toList_eq, hz]; simp
       have HT2 : Hid (decide (zzzS ∈ NL.take (k + 1)) = true) := by show _ = _; rw [HTK.out, decide_eq_true hz]; rfl
       clear hz HTK
       go_wp2_with fail
       go_roundw
       case rel => exact ⟨k + 1, by omega, by go_num, by rw [HT2.out], HM.out⟩
       case measure => simp [intOf]; omega
      ·have s1 : (s == [122, 122, 122]) = false := beq_eq_false_iff_ne.2 hz
       have s2 : (s = [122, 122, 122]) = False := by simp [hz]
       have s3 : (s == (⟨#[122, 122, 122]⟩ : ByteArray).toList) = false := by rw [ByteArray.toList_eq]; exact beq_eq_false_iff_ne.2 hz
       have s4 : (s = (⟨#[122, 122, 122]⟩ : ByteArray).toList) = False := by rw [ByteArray.toList_eq]; simp [hz]
       have HT2 : Hid (decide (zzzS ∈ NL.take (k + 1)) = false) := by show _ = _; rw [HTK.out, decide_eq_false hz]; rfl
       clear hz HTK
       go_wp2_with fail
       go_roundw
       case rel => exact ⟨k + 1, by omega, by go_num, by rw [HT2.out], HM.out⟩
       case measure => simp [intOf]; omega
    ·have e1 : NL.take k = NL := List.take_of_length_le (by omega)
     rw [e1]
     have hkI : ¬ (k : Int) < (NL.length : Int) := by omega
     clear e1
     by_cases hfr : zzzS ∈ NL
     ·rw [decide_eq_true hfr]
      clear hfr
      go_wp2_with fail
      go_ret
      exact ⟨rfl, HB4.out.trans (HM.out.below.mono HB4.out.size)⟩
     ·rw [decide_eq_false hfr]
      have hkg : kg = g := load_wrap (wrap_no HG.out HKG.out (by rw [HNL.out]; exact hfr)) HG.out HKG.out
      have hd9 : d9.map NodeV.n = g.trim.ns := by rw [HD9.out, hkg]
      have hn9 : n9 = n := by rw [← HN9.out, ← HLL.out, ← hd9, List.length_map]
      have N5 : NodesAt wr a5 g.trim.ns := by
       have := nodes_read (n := n) (HM.out.at_ 5 rfl) (HM.out.at_ 6 rfl)
       rwa [HD.out] at this
      have N9 : NodesAt wr a9 g.trim.ns := by
       have := nodes_read (n := n9) (HM.out.at_ 2 rfl) (HM.out.at_ 3 rfl)
       rwa [hd9] at this
      have hEQ : Calls Tryz.prog 12 #[.agg #[.slice a5 n c5, .int .i64 0], .agg #[.slice a9 n9 c9, .int .i64 0]] wr fun e w' => e = .returned (.bool true) ∧ Below wr.heap.size wr w' := by
       have K := refEqual a5 a9 c5 c9 g.trim g.trim wr N5 N9 (by have := HGW.out; omega) (by have := HGW.out; omega)
       rw [decide_eq_true rfl, HLL.out] at K
       rw [hn9]
       exact K
      have HEQ9 := Tre.hid hEQ
      obtain ⟨u0, u1⟩ := HM.out.two 1 rfl
      obtain ⟨g0, g1⟩ := HM.out.two 4 rfl
      clear hkg hd9 hn9 N5 N9 hEQ hfr
      go_wp2_with fail
      refine HEQ9.out.mono ?_
      rintro e w17 ⟨rfl, b17⟩
      have HM17 := Tre.hid (HM.out.quiet b17)
      clear b17 HM HEQ9
      go_wp2_with fail
      go_ret
      exact ⟨rfl, HB4.out.trans (HM17.out.below.mono HB4.out.size)⟩
  ·have hne : (fc == 0) = false := beq_eq_false_iff_ne.2 hfc
   have hnep : (fc = 0) = False := by simp [hfc]
   have HMX := HM11
   have hXW := HXC.out _ HM11.out.below
   clear HM11 p0 p1 q0 q1 hNG HRE HRW HOR hfc
   have ME := HMX.out.allocRow #[.int .i64 t.kind, .string ⟨t.s.toArray⟩, .slice aa t.args.length ca, .slice al t.labels.length cl, .bool t.opn] 28 5 1 (by unfold maxLen; omega) rfl
   rw [World.size_alloc, hb7] at ME
   have MS := (ME.sepNil).add ⟨rfl, rfl, rfl, Nat.le_refl _, fun _ _ _ => rfl⟩ (renR w4 (fun b => 0 = 0 ∧ O b) (fun _ => False) t (.agg #[.int .i64 t.kind, .string ⟨t.s.toArray⟩, .slice aa t.args.length ca, .slice al t.labels.length cl, .bool t.opn])) ⟨⟨w4, HYY.out.1.wide (fun b hb => .inr ⟨rfl, hb⟩), fun _ _ => rfl, fun _ h => h.elim⟩, fun _ h => h.elim⟩ (fun _ h => h.elim)
   have MF : Mem w4 ((w9.alloc (.cells #[.slice a7 d7.length c7, .int .i64 0] 33)).alloc (.cells #[.int .i64 t.kind, .string ⟨t.s.toArray⟩, .slice aa t.args.length ca, .slice al t.labels.length cl, .bool t.opn] 28)) (rowR 28 5 (.slice (some ⟨b7 + 1, 0, none⟩) 1 1) 1 (rkidCells [⟨t, #[.int .i64 t.kind, .string ⟨t.s.toArray⟩, .slice aa t.args.length ca, .slice al t.labels.length cl, .bool t.opn], fun _ => False⟩]) :: sepR (rkidsFrom w4 (fun i b => i = 0 ∧ O b) 0 [⟨t, #[.int .i64 t.kind, .string ⟨t.s.toArray⟩, .slice aa t.args.length ca, .slice al t.labels.length cl, .bool t.opn], fun _ => False⟩]) :: _) := MS.sepInto.front 1 rfl
   obtain ⟨own2, MW⟩ := Mem.renMake (kids := [⟨t, #[.int .i64 t.kind, .string ⟨t.s.toArray⟩, .slice aa t.args.length ca, .slice al t.labels.length cl, .bool t.opn], fun _ => False⟩]) (O := O) (OO := fun i b => i = 0 ∧ O b) (labels := []) (al := none) (cl := 0) 4 zzzS false MF (Below.refl _ _) HYY.out.2 (Nat.le_refl _) (fun i x h => by simp at h) (fun i b h => h.2) (fun i j b h h' => h.1.trans h'.1.symm)
   have HT2 := ren_in (MW.at_ 0 rfl) HYY.out.2 MW.below
   have HO2 : ∀ b, (own2 b ∨ O b) → b < ((w9.alloc (.cells #[.slice a7 d7.length c7, .int .i64 0] 33)).alloc (.cells #[.int .i64 t.kind, .string ⟨t.s.toArray⟩, .slice aa t.args.length ca, .slice al t.labels.length cl, .bool t.opn] 28)).heap.size := fun b hb => by
    rcases hb with hb | hb
    ·exact (renR w4 O own2 (wrapT t) _).has _ (MW.at_ 0 rfl) b hb
    ·exact Nat.lt_of_lt_of_le (HYY.out.2 b hb) MW.below.size
   have hww : (wrapT t).weight ≤ 100000 := by
    have := HWG.out
    unfold wrapT
    simp only [Ty.weight, weights]
    have : zzzS.length = 3 := rfl
    simp
    omega
   have HL3 : Hid (Calls Tryz.prog 10 #[.agg #[.int .i64 4, .string ⟨#[122, 122, 122]⟩, .slice (some ⟨b7 + 1, 0, none⟩) 1 1, .slice none 0 0, .bool false]] ((w9.alloc (.cells #[.slice a7 d7.length c7, .int .i64 0] 33)).alloc (.cells #[.int .i64 t.kind, .string ⟨t.s.toArray⟩, .slice aa t.args.length ca, .slice al t.labels.length cl, .bool t.opn] 28)) (LoadPost (wrapT t) ((w9.alloc (.cells #[.slice a7 d7.length c7, .int .i64 0] 33)).alloc (.cells #[.int .i64 t.kind, .string ⟨t.s.toArray⟩, .slice aa t.args.length ca, .slice al t.labels.length cl, .bool t.opn] 28)))) := Load_any (wrapT t) _ _ _ HT2 HO2 (by omega) (HX4.out.below MW.below)
   have HMW := Tre.hid MW
   obtain ⟨x0, x1, x2, x3, x4⟩ := hXW
   clear ME MS MF MW HT2 HO2 HMX
   go_wp2_with fail
   try rw [hb7]
   clear hb7
   refine HL3.out.mono ?_
   intro e w13 hp
   obtain ⟨kc, v9, d9, rfl, m13, hor9⟩ := load_sum hp
   have M13 := HMW.out.call m13
   obtain ⟨a9, c9, rfl, _⟩ := M13.val 0 rfl
   obtain ⟨n9, hn9⟩ : ∃ n9, d9.length = n9 := ⟨_, rfl⟩
   have M14 := M13.allocR #[.slice a9 d9.length c9, .int .i64 0] 33
   obtain ⟨b9, hb9⟩ : ∃ b9, w13.heap.size = b9 := ⟨_, rfl⟩
   rw [hb9, hn9] at M14
   rw [hn9] at ⊢
   have M15 : Mem w4 (w13.alloc (.cells #[.slice a9 n9 c9, .int .i64 0] 33)) [cellsR b9 33 #[.slice a9 n9 c9, .int .i64 0], nodesR (.slice a9 n9 c9) d9, kidsR d9, cellsR b5 33 #[.slice a5 n c5, .int .i64 0], nodesR (.slice a5 n c5) d5, kidsR d5] := by
    have h := (((M14.del 3).del 3).del 3).del 3
    unfold nodesR at h ⊢
    rw [hn9] at h ⊢
    exact h
   have HM15 := Tre.hid M15
   have HN9 := Tre.hid hn9
   have HOR9 := Tre.hid hor9
   clear hp m13 M13 M14 M15 hor9 hn9 HL3 HMW x0 x1 x2 x3 x4
   by_cases hk4 : kc = 4
   ·have e4 : (kc == 4) = true := by rw [hk4]; rfl
    have e4p : (kc = 4) = True := by rw [hk4]; simp
    clear hk4
    go_wp2_with fail
    go_ret
    exact ⟨rfl, HB4.out.trans (HM15.out.below.mono HB4.out.size)⟩
   have e4 : (kc == 4) = false := beq_eq_false_iff_ne.2 hk4
   have e4p : (kc = 4) = False := by simp [hk4]
   by_cases hk6 : kc = 6
   ·have e6 : (kc == 6) = true := by rw [hk6]; rfl
    have e6p : (kc = 6) = True := by rw [hk6]; simp
    have hth : ∃ p ∈ l.drop 0, p.s = zzzS := by
     rw [List.drop_zero]
     refine HTH.out g HG.out ?_
     rcases HOR9.out with ⟨h, _⟩ | ⟨_, _, h⟩ | ⟨h, h2⟩
     ·omega
     ·exact h
     ·exfalso
      rcases wrap_verdict HV.out with h3 | h3 <;> omega
    have HTH2 := Tre.hid hth
    clear hk4 hk6 hth
    go_wp2_with fail
    clear e4 e4p e6 e6p
    go_loopw [59] (fun v59 wr => ∃ (k : Nat), k ≤ l.length ∧ v59 = .int .i64 k ∧ Hid (∃ p ∈ l.drop k, p.s = zzzS) ∧ Hid (Below w4.heap.size w4 wr)) (fun v59 _ => l.length - (intOf v59).toNat)
    case atStart => exact ⟨0, Nat.zero_le _, rfl, HTH2.out, HM15.out.below⟩
    case round =>
     clear HM15 HTH2
     obtain ⟨k, hk, rfl, HEX, HBR⟩ := hrel
     have hlt : k < l.length := by
      obtain ⟨p, hp, _⟩ := HEX.out
      have := List.length_pos_of_mem hp
      rw [List.length_drop] at this
      omega
     obtain ⟨p, hp⟩ : ∃ p, l[k]? = some p := ⟨_, List.getElem?_eq_getElem hlt⟩
     have hBW := HB4.out.trans (HBR.out.mono HB4.out.size)
     obtain ⟨b, off, rfl, h0, h1, h2, h3, _, _⟩ := (HPL.out.below hBW).at_ k p hp
     have M := Tre.hid ((Mem.of_below HBR.out).allocR #[.int .u8 p.kind, .string ⟨p.s.toArray⟩, .int .u8 p.args, .bool p.opn] 46)
     have c1 := M.out.cell 0 rfl 1 rfl
     have hdr : l.drop k = p :: l.drop (k + 1) := by
      obtain ⟨g1, g2⟩ := List.getElem?_eq_some_iff.1 hp
      rw [List.drop_eq_getElem_cons g1, g2]
     by_cases hz : p.s = [122, 122, 122]
     ·have s1 : (p.s == [122, 122, 122]) = true := by rw [hz]; rfl
      have s2 : (p.s = [122, 122, 122]) = True := by rw [hz]; simp
      have s3 : (p.s == (⟨#[122, 122, 122]⟩ : ByteArray).toList) = true := by rw [ByteArray.toList_eq, hz]; rfl
      have s4 : (p.s = (⟨#[122, 122, 122]⟩ : ByteArray).toList) = True := by rw [ByteArray.toList_eq, hz]; simp
      clear hz hdr hp
      go_wp2_with fail
      go_ret
      exact ⟨rfl, HB4.out.trans (M.out.below.mono HB4.out.size)⟩
     ·have s1 : (p.s == [122, 122, 122]) = false := beq_eq_false_iff_ne.2 hz
      have s2 : (p.s = [122, 122, 122]) = False := by simp [hz]
      have s3 : (p.s == (⟨#[122, 122, 122]⟩ : ByteArray).toList) = false := by rw [ByteArray.toList_eq]; exact beq_eq_false_iff_ne.2 hz
      have s4 : (p.s = (⟨#[122, 122, 122]⟩ : ByteArray).toList) = False := by rw [ByteArray.toList_eq]; simp [hz]
      have HEX2 : Hid (∃ p ∈ l.drop (k + 1), p.s = zzzS) := by
       obtain ⟨q, hq, hqs⟩ := HEX.out
       rw [hdr] at hq
       rcases List.mem_cons.1 hq with rfl | hq
       ·exact absurd hqs hz
       ·exact ⟨q, hq, hqs⟩
      clear hz hdr hp HEX
      go_wp2_with fail
      go_roundw
      case rel => exact ⟨k + 1, by omega, by go_num, HEX2.out, M.out.below⟩
      case measure => simp [intOf]; omega
   have e6 : (kc == 6) = false := beq_eq_false_iff_ne.2 hk6
   have e6p : (kc = 6) = False := by simp [hk6]
   obtain ⟨hk0, kg, hkg, hd9⟩ : kc = 0 ∧ ∃ kg, LoadsAs (wrapT t) kg ∧ d9.map NodeV.n = kg.trim.ns := by
    rcases HOR9.out with ⟨h, _, h2⟩ | ⟨h, _⟩ | ⟨h, h2⟩
    ·exact ⟨h, h2⟩
    ·exact absurd h hk6
    ·exfalso
     rcases wrap_verdict HV.out with h3 | h3 <;> omega
   subst hk0
   have HKG := Tre.hid hkg
   have HD9 := Tre.hid hd9
   have hYW := HYY.out.1.under HYY.out.2 HM15.out.below
   have HNM := Tre.hid (Names_any t O _ _ hYW (fun b hb => Nat.lt_of_lt_of_le (HYY.out.2 b hb) HM15.out.below.size) HV.out (by have := HWG.out; omega) (HX4.out.below HM15.out.below))
   obtain ⟨x0, x1, x2, x3, x4⟩ := HXC.out _ HM15.out.below
   clear hk4 hk6 hkg hd9 hYW HOR9 e4 e4p e6 e6p
   go_wp2_with fail
   refine HNM.out.mono ?_
   rintro e w16 ⟨aN, cN, rfl, m16⟩
   have HM16 := Tre.hid (HM15.out.call m16)
   clear m16 HM15 HNM x0 x1 x2 x3 x4
   obtain ⟨NL, hNL⟩ : ∃ NL, namesL t = NL := ⟨_, rfl⟩
   rw [hNL] at HM16 ⊢
   have HNL := Tre.hid hNL
   have hnl : NL.length ≤ 100000 := by
    rw [← hNL]
    have h1 := namesF_len (boundB (pre t)) (pre t) []
    have h2 := pre_weight t
    have h3 := HWG.out
    unfold namesL
    simp at h1
    omega
   clear hNL
   go_wp2_with fail
   go_loopw [13, 70] (fun v13 v70 wr => ∃ (k : Nat), k ≤ NL.length ∧ v70 = .int .i64 k ∧ v13 = .bool (decide (zzzS ∈ NL.take k)) ∧ Hid (Mem w4 wr [rowR 9 1 (.slice aN NL.length cN) NL.length (NL.map fun x => .string ⟨x.toArray⟩), cellsR b9 33 #[.slice a9 n9 c9, .int .i64 0], nodesR (.slice a9 n9 c9) d9, kidsR d9, cellsR b5 33 #[.slice a5 n c5, .int .i64 0], nodesR (.slice a5 n c5) d5, kidsR d5])) (fun _ v70 _ => NL.length - (intOf v70).toNat)
   case atStart => exact ⟨0, Nat.zero_le _, rfl, by rw [List.take_zero]; rfl, HM16.out⟩
   case round =>
    clear HM16
    obtain ⟨k, hk, rfl, rfl, HM⟩ := hrel
    by_cases hlt : k < NL.length
    ·obtain ⟨s, hs⟩ : ∃ s, NL[k]? = some s := ⟨_, List.getElem?_eq_getElem hlt⟩
     have htk : NL.take (k + 1) = NL.take k ++ [s] := by rw [List.take_add_one, hs]; rfl
     obtain ⟨gN, rfl, _, _, hc⟩ := HM.out.getRow 0 rfl k (u := .string ⟨s.toArray⟩) (by rw [List.getElem?_map, hs]; rfl)
     have HTK : Hid (decide (zzzS ∈ NL.take (k + 1)) = (decide (zzzS ∈ NL.take k) || decide (s = [122, 122, 122]))) := by
      show _ = _
      rw [htk, Bool.eq_iff_iff]
      simp only [decide_eq_true_eq, List.mem_append, List.mem_singleton, Bool.or_eq_true]
      exact or_congr Iff.rfl ⟨fun h => h.symm, fun h => h.symm⟩
     generalize decide (zzzS ∈ NL.take k) = fr at *
     clear htk hs
     cases fr with
     | true =>
      go_wp2_with fail
      go_roundw
      case rel => exact ⟨k + 1, by omega, by go_num, by rw [HTK.out]; rfl, HM.out⟩
      case measure => simp [intOf]; omega
     | false =>
      by_cases hz : s = [122, 122, 122]
      ·have s1 : (s == [122, 122, 122]) = true := by rw [hz]; rfl
       have s2 : (s = [122, 122, 122]) = True := by rw [hz]; simp
       have s3 : (s == (⟨#[122, 122, 122]⟩ : ByteArray).toList) = true := by rw [ByteArray.toList_eq, hz]; rfl
       have s4 : (s = (⟨#[122, 122, 122]⟩ : ByteArray).toList) = True := by rw [ByteArray.toList_eq, hz]; simp
       have HT2 : Hid (decide (zzzS ∈ NL.take (k + 1)) = true) := by show _ = _; rw [HTK.out, decide_eq_true hz]; rfl
       clear hz HTK
       go_wp2_with fail
       go_roundw
       case rel => exact ⟨k + 1, by omega, by go_num, by rw [HT2.out], HM.out⟩
       case measure => simp [intOf]; omega
      ·have s1 : (s == [122, 122, 122]) = false := beq_eq_false_iff_ne.2 hz
       have s2 : (s = [122, 122, 122]) = False := by simp [hz]
       have s3 : (s == (⟨#[122, 122, 122]⟩ : ByteArray).toList) = false := by rw [ByteArray.toList_eq]; exact beq_eq_false_iff_ne.2 hz
       have s4 : (s = (⟨#[122, 122, 122]⟩ : ByteArray).toList) = False := by rw [ByteArray.toList_eq]; simp [hz]
       have HT2 : Hid (decide (zzzS ∈ NL.take (k + 1)) = false) := by show _ = _; rw [HTK.out, decide_eq_false hz]; rfl
       clear hz HTK
       go_wp2_with fail
       go_roundw
       case rel => exact ⟨k + 1, by omega, by go_num, by rw [HT2.out], HM.out⟩
       case measure => simp [intOf]; omega
    ·have e1 : NL.take k = NL := List.take_of_length_le (by omega)
     rw [e1]
     have hkI : ¬ (k : Int) < (NL.length : Int) := by omega
     clear e1
     by_cases hfr : zzzS ∈ NL
     ·rw [decide_eq_true hfr]
      clear hfr
      go_wp2_with fail
      go_ret
      exact ⟨rfl, HB4.out.trans (HM.out.below.mono HB4.out.size)⟩
     ·rw [decide_eq_false hfr]
      have hkg : kg = g := load_wrap (wrap_no HG.out HKG.out (by rw [HNL.out]; exact hfr)) HG.out HKG.out
      have hd9 : d9.map NodeV.n = g.trim.ns := by rw [HD9.out, hkg]
      have hn9 : n9 = n := by rw [← HN9.out, ← HLL.out, ← hd9, List.length_map]
      have N5 : NodesAt wr a5 g.trim.ns := by
       have := nodes_read (n := n) (HM.out.at_ 5 rfl) (HM.out.at_ 6 rfl)
       rwa [HD.out] at this
      have N9 : NodesAt wr a9 g.trim.ns := by
       have := nodes_read (n := n9) (HM.out.at_ 2 rfl) (HM.out.at_ 3 rfl)
       rwa [hd9] at this
      have hEQ : Calls Tryz.prog 12 #[.agg #[.slice a5 n c5, .int .i64 0], .agg #[.slice a9 n9 c9, .int .i64 0]] wr fun e w' => e = .returned (.bool true) ∧ Below wr.heap.size wr w' := by
       have K := refEqual a5 a9 c5 c9 g.trim g.trim wr N5 N9 (by have := HGW.out; omega) (by have := HGW.out; omega)
       rw [decide_eq_true rfl, HLL.out] at K
       rw [hn9]
       exact K
      have HEQ9 := Tre.hid hEQ
      obtain ⟨u0, u1⟩ := HM.out.two 1 rfl
      obtain ⟨g0, g1⟩ := HM.out.two 4 rfl
      clear hkg hd9 hn9 N5 N9 hEQ hfr
      go_wp2_with fail
      refine HEQ9.out.mono ?_
      rintro e w17 ⟨rfl, b17⟩
      have HM17 := Tre.hid (HM.out.quiet b17)
      clear b17 HM HEQ9
      go_wp2_with fail
      go_ret
      exact ⟨rfl, HB4.out.trans (HM17.out.below.mono HB4.out.size)⟩
end Go.Proofs.YtljmcmdabdlldaaGreatDoor.load
