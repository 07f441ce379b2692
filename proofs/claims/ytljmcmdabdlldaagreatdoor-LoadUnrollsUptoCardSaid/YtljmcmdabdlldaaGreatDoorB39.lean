/- graph.Same, at any two graphs. LoadUnrolls: the walk. What a row that lists the library's variables tells of the world: what the lexer wants. Arguments out of their readings: what all of them share; the wrap for a row with a bound, the world's shape kept. How an argument that is a list of parts lies in memory, out of its reading. -/
import Derived.Test.YtljmcmdabdlldaaGreatDoorB38
import Derived.Test.YtljmcmdabdlldaaGreatDoorB06
import Derived.Test.YtljmcmdabdlldaaGreatDoorB34
import Derived.Test.YtljmcmdabdlldaaGreatDoorB35
import Derived.Test.YtljmcmdabdlldaaGreatDoorB37
import Derived.Test.YtljmcmdabdlldaaGreatDoorB15
import Derived.Test.YtljmcmdabdlldaaGreatDoorRows
import Derived.Lib.LaidTab
import Derived.LaidSub
import Derived.LaidMore
import Derived.LaidHandle
import Derived.LaidLaws
import Derived.WalkKit
import Derived.Test.YtljmcmdabdlldaaGreatDoorB00
import Derived.JoinedCond
import Derived.ChangeSlices
import Derived.SliceStrings
import Derived.Deep.Slices
import Derived.Shelf.Vars
set_option linter.unusedVariables false
namespace Go.Proofs.YtljmcmdabdlldaaGreatDoor.gr
open Go.RowKit Go.Maps Go.Tre lex

set_option maxRecDepth 100000 in
set_option maxHeartbeats 4000000 in
theorem same_any (a b : Option Addr) (ca cb : Nat) (g h : Tre.Graph) (w : World) (hg : NodesAt w a g.ns) (hh : NodesAt w b h.ns) (wg : g.weight ≤ 2097152) (wh : h.weight ≤ 2097152) (hm : MaxAt w) :
  Calls Tryz.prog 17 #[.agg #[.slice a g.ns.length ca, .int .i64 g.root], .agg #[.slice b h.ns.length cb, .int .i64 h.root]] w fun e w' => e = .returned (.bool (sameB g h)) ∧ Below w.heap.size w w' := by
 by_cases c0 : g.checkC = 0
 ·by_cases c1 : h.checkC = 0
  ·refine same_ok a b ca cb g h w hg hh (by omega) (by omega) hm ?_ c0 c1
   have h1 := left_le g h
   have h2 := len_weight h
   have h3 : g.weight * h.ns.length ≤ 2097152 * 2097152 := Nat.mul_le_mul wg (by omega)
   omega
  ·have b2 : Below w.heap.size w ((w.alloc (.cells #[.slice a g.ns.length ca, .int .i64 g.root] 33)).alloc (.cells #[.slice b h.ns.length cb, .int .i64 h.root] 33)) := ((Below.refl _ _).alloc (Nat.le_refl _) _).alloc (by simp) _
   have HM := Tre.hid hm
   have HG := Tre.hid hg
   have HH := Tre.hid hh
   have HC0 := Tre.hid c0
   have t1 := not_ok c1
   have HN : Hid (¬ SameG g h) := fun s => c1 s.okh
   clear hg hh hm c0 c1
   go_enter Tryz.func17, Tryz.ntmps17
   go_wp2_with fail
   refine (check_any a ca g _ (HG.out.below b2) (by omega) (HM.out.below b2)).mono ?_
   rintro e w1 ⟨rfl, d1⟩
   rw [HC0.out]
   have h0 : w1.cell? ⟨w.heap.size + 1, 0, none⟩ = some (.slice b h.ns.length cb) := cell_below d1 (cell_of_heap (heap_two _ _ _) rfl)
   have h1 : w1.cell? ⟨w.heap.size + 1, 1, none⟩ = some (.int .i64 h.root) := cell_below d1 (cell_of_heap (heap_two _ _ _) rfl)
   have B1 := after2 d1
   clear d1
   go_wp2_with fail
   refine (check_any b cb h _ (HH.out.below B1) (by omega) (HM.out.below B1)).mono ?_
   rintro e w2 ⟨rfl, d2⟩
   have B2 := after_two B1 d2
   clear d2
   go_wp2_with fail
   go_ret
   exact ⟨ret_bool (sameB_false HN.out).symm, B2⟩
 ·have b2 : Below w.heap.size w ((w.alloc (.cells #[.slice a g.ns.length ca, .int .i64 g.root] 33)).alloc (.cells #[.slice b h.ns.length cb, .int .i64 h.root] 33)) := ((Below.refl _ _).alloc (Nat.le_refl _) _).alloc (by simp) _
  have HM := Tre.hid hm
  have HG := Tre.hid hg
  have t1 := not_ok c0
  have HN : Hid (¬ SameG g h) := fun s => c0 s.okg
  clear hg hh hm c0
  go_enter Tryz.func17, Tryz.ntmps17
  go_wp2_with fail
  refine (check_any a ca g _ (HG.out.below b2) (by omega) (HM.out.below b2)).mono ?_
  rintro e w1 ⟨rfl, d1⟩
  have B1 := after2 d1
  clear d1
  go_wp2_with fail
  go_ret
  exact ⟨ret_bool (sameB_false HN.out).symm, B1⟩
end Go.Proofs.YtljmcmdabdlldaaGreatDoor.gr
namespace Go.Proofs.YtljmcmdabdlldaaGreatDoor.load
open Go.RowKit Go.Shelf Go.Maps Go.Tre lex gr part
theorem load_sum {t : Ty} {w w' : World} {e : Ending} (h : LoadPost t w e w') : ∃ (ec : Int) (v : Value) (ds : List NodeV), e = .returned (.tuple #[.agg #[v, .int .i64 0], .int .i64 ec]) ∧ Mem w w' [nodesR v ds, kidsR ds] ∧
  ((ec = 0 ∧ verdictI (walkT t) = 0 ∧ ∃ g, LoadsAs t g ∧ ds.map NodeV.n = g.trim.ns) ∨ (ec = 6 ∧ verdictI (walkT t) = 0 ∧ LoadFails t) ∨ (ec = verdictI (walkT t) ∧ verdictI (walkT t) ≠ 0)) := by
 cases h with
 | no h he hb => exact ⟨_, .slice none 0 0, [], he, ((Mem.of_below hb).addMany.addNil 39 5), .inr (.inr ⟨rfl, h⟩)⟩
 | bad h hf he hb => exact ⟨_, .slice none 0 0, [], he, ((Mem.of_below hb).addMany.addNil 39 5), .inr (.inl ⟨rfl, h, hf⟩)⟩
 | ok h g hg v ds he hd hm => exact ⟨_, v, ds, he, hm, .inl ⟨rfl, h, g, hg, hd⟩⟩
theorem graph_small {t : Ty} {g : Tre.Graph} (_ : verdictI (walkT t) = 0) (hw : t.weight ≤ 100000) (hg : LoadsAs t g) : g.trim.weight ≤ 200000 := by
 obtain ⟨bd, r, st, _, _, hn, rfl⟩ := hg
 have L := loaded_of hn
 refine Nat.le_trans (Graph.trim_weight _) (Nat.le_trans L.weight ?_)
 have h1 := flat_weight t 0
 have : (flat t 0).map Ent.w = (flat t 0).map fun e => 1 + e.s.length + (e.labels.map fun x => x.length + 1).sum + e.args.length := rfl
 rw [this]; omega
theorem around_mem {w0 w : World} {rs : List Res} {A L : Nat} {T S : TypeId} {x y : Array Value} {cs : Array Value} (h : Mem w0 w rs) (i j : Nat) (hi : rs[i]? = some (cellsR A T cs)) (hj : rs[j]? = some (cellsR L S #[.string ⟨#[109]⟩, .string ⟨#[110, 101, 120, 116]⟩])) (hcs : cs = x ++ y := by rfl) (hx : x.size = 5 := by rfl) (hy : y.size = 5 := by rfl) : Around w A L x y :=
 ⟨⟨hx, fun q u hu => by
  rw [Nat.zero_add]
  refine h.cell i hi q ?_
  rw [hcs, Array.getElem?_append_left (Array.getElem?_eq_some_iff.1 hu).1]; exact hu⟩, ⟨hy, fun q u hu => by
  refine h.cell i hi (5 + q) ?_
  rw [hcs, Array.getElem?_append_right (by omega), hx, Nat.add_sub_cancel_left]; exact hu⟩, ⟨_, _, h.heap i hi⟩, h.cell j hj 0 rfl, h.cell j hj 1 rfl⟩
theorem five_mem {w0 w : World} {rs : List Res} {A : Nat} {T : TypeId} {x : Array Value} (h : Mem w0 w rs) (i : Nat) (hi : rs[i]? = some (cellsR A T x)) (hx : x.size = 5) : FiveAt w A 0 x := ⟨hx, fun q u hu => by rw [Nat.zero_add]; exact h.cell i hi q hu⟩
set_option maxRecDepth 100000 in
set_option maxHeartbeats 16000000 in
theorem unrollsLaw (a : Option Addr) (cap : Nat) (l : List Prt) (lab : Int) (w : World) (hl : PrtsAt w a l) (hlen : l.length ≤ 1048576) (hcap : l.length ≤ cap) (E : LexEnv w) :
  Calls Tryz.prog 5 #[.slice a l.length cap, .int .u8 lab] w fun e w' => e = .returned (.bool true) ∧ Below w.heap.size w w' := by
 have HX := Tre.hid E.max
 have HPL := Tre.hid hl
 have HA := Tre.hid (alive07 w E)
 clear E hl
 go_enter Tryz.func5, Tryz.ntmps5
 go_wp2_with fail
 refine HA.out.mono ?_
 rintro e w1 ⟨rfl, b1⟩
 have HB1 := Tre.hid b1
 clear b1 HA
 go_wp2_with fail
 refine (great_any a cap l _ (HPL.out.below HB1.out) hlen).mono ?_
 rintro e w2 ⟨rfl, b2⟩
 have HB2 := Tre.hid (HB1.out.trans (b2.mono HB1.out.size))
 clear b2 HB1
 cases hg : greatB l with
 | true =>
  clear hg
  go_wp2_with fail
  go_ret
  exact ⟨rfl, HB2.out⟩
 | false =>
  have hsm := great_small hg
  have HWG : Hid ((ofTy l).weight ≤ 14004) := hsm.1
  have HOF := Tre.hid (of_any w (l.length + 1) l a cap w2 HB2.out (Nat.lt_succ_self _) hlen hcap HPL.out)
  clear hg hsm
  go_wp2_with fail
  refine HOF.out.mono ?_
  rintro e w3 ⟨O, aa, al, ca, cl, a', c', rfl, _, _, m3⟩
  have hty : (ofP (l.length + 1) l).1 = ofTy l := rfl
  rw [hty] at m3 ⊢
  obtain ⟨t, ht⟩ : ∃ t, ofTy l = t := ⟨_, rfl⟩
  rw [ht] at m3 HWG ⊢
  have M3 := (Mem.of_below HB2.out).call m3
  have M4 := M3.allocR #[.int .i64 t.kind, .string ⟨t.s.toArray⟩, .slice aa t.args.length ca, .slice al t.labels.length cl, .bool t.opn] 28
  have HY := M4.at_ 1 rfl
  obtain ⟨bT, hbT⟩ : ∃ bT, w3.heap.size = bT := ⟨_, rfl⟩
  rw [hbT] at M4
  have x0 := M4.cell 0 rfl 0 rfl
  have x1 := M4.cell 0 rfl 1 rfl
  have x2 := M4.cell 0 rfl 2 rfl
  have x3 := M4.cell 0 rfl 3 rfl
  have x4 := M4.cell 0 rfl 4 rfl
  have HB4 := Tre.hid M4.below
  have HYY := Tre.hid HY
  have hnoT : ¬ O bT := fun h => by
   have hp := List.pairwise_cons.1 M4.sep
   exact hp.1 _ (List.mem_cons_self ..) bT rfl h
  obtain ⟨ad, hE0, had0⟩ := ents_of HY.1 (b := bT) (off := 0) (fun j u hu => by rw [Nat.zero_add]; exact M4.cell 0 rfl j hu) ⟨_, _, M4.heap 0 rfl⟩ hnoT
  have HE0 := Tre.hid hE0
  have HAD := Tre.hid had0
  clear hnoT hE0 had0
  clear HOF hty ht m3 M3 M4 HY HB2
  generalize (ofP (l.length + 1) l).2 = rest at *
  go_wp2_with fail
  try rw [hbT]
  clear hbT
  generalize hw4 : w3.alloc (.cells #[.int .i64 t.kind, .string ⟨t.s.toArray⟩, .slice aa t.args.length ca, .slice al t.labels.length cl, .bool t.opn] 28) = w4 at *
  clear hw4
  have HX4 := Tre.hid (HX.out.below HB4.out)
  have HXC := Tre.hid (fun (W : World) (hb : Below w4.heap.size w4 W) => And.intro (cell_below hb x0) (And.intro (cell_below hb x1) (And.intro (cell_below hb x2) (And.intro (cell_below hb x3) (cell_below hb x4)))))
  refine (Load_any t O _ w4 HYY.out.1 HYY.out.2 (by have := HWG.out; omega) HX4.out).mono ?_
  intro e w5 hp
  obtain ⟨ec, v5, d5, rfl, m5, hor⟩ := load_sum hp
  have HM5 := Tre.hid m5
  clear hp m5 x0 x1 x2 x3 x4
  by_cases hec : ec = 0
  rotate_left
  ·have hne : (ec == 0) = false := beq_eq_false_iff_ne.2 hec
   obtain ⟨a5, c5, rfl, _⟩ := HM5.out.val 0 rfl
   have HM6 := Tre.hid (HM5.out.allocR #[.slice a5 d5.length c5, .int .i64 0] 33)
   clear hor hec HM5
   go_wp2_with fail
   go_ret
   exact ⟨rfl, HB4.out.trans (HM6.out.below.mono HB4.out.size)⟩
  subst hec
  obtain ⟨hv, g, hg, hd⟩ : verdictI (walkT t) = 0 ∧ ∃ g, LoadsAs t g ∧ d5.map NodeV.n = g.trim.ns := by
   rcases hor with ⟨_, h1, h2⟩ | ⟨h, _⟩ | ⟨h, h2⟩
   ·exact ⟨h1, h2⟩
   ·omega
   ·exact absurd h.symm h2
  have HV := Tre.hid hv
  have HG := Tre.hid hg
  have HD := Tre.hid hd
  have HGW := Tre.hid (graph_small hv (by have := HWG.out; omega) hg)
  obtain ⟨a5, c5, rfl, _⟩ := HM5.out.val 0 rfl
  obtain ⟨n, hn⟩ : ∃ n, d5.length = n := ⟨_, rfl⟩
  have hgn : g.trim.ns.length = n := by rw [← hn, ← hd, List.length_map]
  have HLL := Tre.hid hgn
  have hnw : n ≤ 200000 := by rw [← hgn]; exact Nat.le_trans (len_weight g.trim) HGW.out
  have M6 := HM5.out.allocR #[.slice a5 d5.length c5, .int .i64 0] 33
  rw [hn] at M6 ⊢
  obtain ⟨b5, hb5⟩ : ∃ b5, w5.heap.size = b5 := ⟨_, rfl⟩
  rw [hb5] at M6
  have M7 : Mem w4 (w5.alloc (.cells #[.slice a5 n c5, .int .i64 0] 33)) [cellsR b5 33 #[.slice a5 n c5, .int .i64 0], nodesR (.slice a5 n c5) d5, kidsR d5] := by
   have h := M6
   unfold nodesR at h ⊢
   rw [hn] at h ⊢
   exact h
  have HM7 := Tre.hid M7
  have HNT := Tre.hid (show NodesAt _ a5 g.trim.ns by have := nodes_read (n := n) (M7.at_ 1 rfl) (M7.at_ 2 rfl); rwa [HD.out] at this)
  have q0 := M7.cell 0 rfl 0 rfl
  clear hor hv hg hd hn hgn M6 M7 HM5
  go_wp2_with fail
  try rw [hb5]
  clear hb5 q0
  generalize hw6 : w5.alloc (.cells #[.slice a5 n c5, .int .i64 0] 33) = w6 at *
  clear hw6
  go_loopw [36] (fun v36 wr => ∃ (k : Nat), k ≤ n ∧ v36 = .int .i64 k ∧ Hid (∀ x ∈ g.trim.ns.take k, x.isOpen = false) ∧ Hid (NodesAt wr a5 g.trim.ns) ∧ Hid (Below w4.heap.size w4 wr)) (fun v36 _ => n - (intOf v36).toNat)
  case atStart => exact ⟨0, Nat.zero_le _, rfl, fun x hx => by rw [List.take_zero] at hx; simp at hx, HNT.out, HM7.out.below⟩
  case round =>
   clear HM7 HNT
   obtain ⟨k, hk, rfl, HOP, HNR, HBR⟩ := hrel
   by_cases hlt : k < n
   ·obtain ⟨X, hX⟩ : ∃ X, g.trim.ns[k]? = some X := ⟨_, List.getElem?_eq_getElem (by rw [HLL.out]; exact hlt)⟩
    obtain ⟨b, off, rfl, aA, cA, aL, cL, h0, h1, h2, h3, h4, _⟩ := HNR.out.at_ k X hX
    have htk : g.trim.ns.take (k + 1) = g.trim.ns.take k ++ [X] := by rw [List.take_add_one, hX]; rfl
    have M8 := (Mem.of_below HBR.out).allocR #[.int .i64 X.kind, .string X.name, .slice aA X.args.length cA, .slice aL X.labels.length cL, .bool X.isOpen] 39
    have HB8 := Tre.hid M8.below
    have HNR8 := Tre.hid (HNR.out.below ((Below.refl wr.heap.size wr).alloc (Nat.le_refl _) (.cells #[.int .i64 X.kind, .string X.name, .slice aA X.args.length cA, .slice aL X.labels.length cL, .bool X.isOpen] 39)))
    have z4 := M8.cell 0 rfl 4 rfl
    clear hX M8
    cases hop : X.isOpen with
    | true =>
     rw [hop] at z4 h4 HB8 HNR8
     clear HNR8 HNR
     go_wp2_with fail
     go_ret
     exact ⟨rfl, HB4.out.trans (HB8.out.mono HB4.out.size)⟩
    | false =>
     have HOP2 : Hid (∀ x ∈ g.trim.ns.take (k + 1), x.isOpen = false) := fun x hx => by
      rw [htk] at hx
      rcases List.mem_append.1 hx with hx | hx
      ·exact HOP.out x hx
      ·rw [List.mem_singleton] at hx; rw [hx]; exact hop
     rw [hop] at z4 h4 HB8 HNR8
     clear htk HOP HNR
     go_wp2_with fail
     go_roundw
     case rel => exact ⟨k + 1, by omega, by go_num, HOP2.out, HNR8.out, HB8.out⟩
     case measure => simp [intOf]; omega
   ·have hkn : n = k := by omega
    subst hkn
    have hop := HOP.out
    rw [List.take_of_length_le (by rw [HLL.out]; exact Nat.le_refl _)] at hop
    have HO2 := Tre.hid hop
    clear hop HOP HNR hlt
    have M9 := (Mem.of_below HBR.out).allocR #[.int .i64 1, .string ⟨#[108, 111, 111, 112]⟩, .slice none 0 0, .slice none 0 0, .bool false] 28
    obtain ⟨bV, hbV⟩ : ∃ bV, wr.heap.size = bV := ⟨_, rfl⟩
    rw [hbV] at M9
    have HM9 := Tre.hid M9
    obtain ⟨x0, x1, x2, x3, x4⟩ := HXC.out _ M9.below
    have v0 := M9.cell 0 rfl 0 rfl
    have v1 := M9.cell 0 rfl 1 rfl
    have v2 := M9.cell 0 rfl 2 rfl
    have v3 := M9.cell 0 rfl 3 rfl
    have v4 := M9.cell 0 rfl 4 rfl
    clear M9 HBR
    go_wp2_with fail
    try rw [hbV]
    clear hbV
    generalize hw9 : wr.alloc (.cells #[.int .i64 1, .string ⟨#[108, 111, 111, 112]⟩, .slice none 0 0, .slice none 0 0, .bool false] 28) = w9 at *
    clear hw9
    refine (around_any bT _ _ _ _ _ _ _ _ _ _ w9 x0 x1 x2 x3 x4).mono ?_
    rintro e w10 ⟨A, L, rfl, m10⟩
    have M10 := HM9.out.call m10
    have M11 := M10.allocR #[.int .i64 3, .string ⟨#[]⟩, .slice (some ⟨A, 0, none⟩) 2 2, .slice (some ⟨L, 0, none⟩) 2 2, .bool false] 28
    obtain ⟨A1, hA1⟩ : ∃ A1, w10.heap.size = A1 := ⟨_, rfl⟩
    rw [hA1] at M11
    have AR := around_mem (x := #[.int .i64 t.kind, .string ⟨t.s.toArray⟩, .slice aa t.args.length ca, .slice al t.labels.length cl, .bool t.opn]) (y := #[.int .i64 1, .string ⟨#[108, 111, 111, 112]⟩, .slice none 0 0, .slice none 0 0, .bool false]) M11 1 2 rfl rfl
    have p1 := List.pairwise_cons.1 M11.sep
    have n1 : A1 ≠ A := fun e => p1.1 _ (List.mem_cons_self ..) A1 rfl e
    have n2 : A1 ≠ L := fun e => p1.1 _ (List.mem_cons_of_mem _ (List.mem_cons_self ..)) A1 rfl e
    have lA := M11.lo 1 rfl A rfl
    have lA1 := M11.lo 0 rfl A1 rfl
    have hT1 := one_in (HYY.out.1.under HYY.out.2 M11.below) AR (fun h => by have := HYY.out.2 A h; omega) (five_mem M11 0 rfl rfl) ⟨_, _, M11.heap 0 rfl⟩ (fun h => by
     rcases h with h | h | h
     ·exact n1 h
     ·exact n2 h
     ·have := HYY.out.2 A1 h; omega)
    have hO1 : ∀ b, (b = A1 ∨ b = A ∨ b = L ∨ O b) → b < (w10.alloc (.cells #[.int .i64 3, .string ⟨#[]⟩, .slice (some ⟨A, 0, none⟩) 2 2, .slice (some ⟨L, 0, none⟩) 2 2, .bool false] 28)).heap.size := fun b hb => by
     rcases hb with rfl | rfl | rfl | hb
     ·exact (Array.getElem?_eq_some_iff.1 (M11.heap 0 rfl)).1
     ·exact (Array.getElem?_eq_some_iff.1 (M11.heap 1 rfl)).1
     ·exact (Array.getElem?_eq_some_iff.1 (M11.heap 2 rfl)).1
     ·exact Nat.lt_of_lt_of_le (HYY.out.2 b hb) M11.below.size
    have HL1 : Hid (Calls Tryz.prog 10 #[.agg #[.int .i64 4, .string ⟨#[108, 111, 111, 112]⟩, .slice (some ⟨A1, 0, none⟩) 1 1, .slice none 0 0, .bool false]] (w10.alloc (.cells #[.int .i64 3, .string ⟨#[]⟩, .slice (some ⟨A, 0, none⟩) 2 2, .slice (some ⟨L, 0, none⟩) 2 2, .bool false] 28)) (LoadPost (rollOne t) (w10.alloc (.cells #[.int .i64 3, .string ⟨#[]⟩, .slice (some ⟨A, 0, none⟩) 2 2, .slice (some ⟨L, 0, none⟩) 2 2, .bool false] 28)))) := Load_any (rollOne t) _ _ _ hT1 hO1 (by have := HWG.out; simp [rollOne, around, tyVar, Ty.weight, weights, loopS]; omega) (HX4.out.below M11.below)
    have M12 := ((M11.del 0).del 0).del 0
    have HM12 : Hid (Mem w4 (w10.alloc (.cells #[.int .i64 3, .string ⟨#[]⟩, .slice (some ⟨A, 0, none⟩) 2 2, .slice (some ⟨L, 0, none⟩) 2 2, .bool false] 28)) [cellsR bV 28 #[.int .i64 1, .string ⟨#[108, 111, 111, 112]⟩, .slice none 0 0, .slice none 0 0, .bool false]]) := M12
    clear M10 M11 M12 m10 AR p1 n1 n2 lA lA1 hT1 hO1 HM9 x0 x1 x2 x3 x4 v0 v1 v2 v3 v4
    simp only [objCells]
    go_wp2_with fail
    try rw [hA1]
    clear hA1
    refine HL1.out.mono ?_
    intro e w13 hp
    obtain ⟨kc, v9, d9, rfl, m13, hor9⟩ := load_sum hp
    have M13 := HM12.out.call m13
    obtain ⟨a9, c9, rfl, _⟩ := M13.val 0 rfl
    obtain ⟨n9, hn9⟩ : ∃ n9, d9.length = n9 := ⟨_, rfl⟩
    have M14 := M13.allocR #[.slice a9 d9.length c9, .int .i64 0] 33
    obtain ⟨b9, hb9⟩ : ∃ b9, w13.heap.size = b9 := ⟨_, rfl⟩
    rw [hb9, hn9] at M14
    rw [hn9]
    have M15 : Mem w4 (w13.alloc (.cells #[.slice a9 n9 c9, .int .i64 0] 33)) [cellsR b9 33 #[.slice a9 n9 c9, .int .i64 0], nodesR (.slice a9 n9 c9) d9, kidsR d9, cellsR bV 28 #[.int .i64 1, .string ⟨#[108, 111, 111, 112]⟩, .slice none 0 0, .slice none 0 0, .bool false]] := by
     have h := M14
     unfold nodesR at h ⊢
     rw [hn9] at h ⊢
     exact h
    have HM15 := Tre.hid M15
    have HN9 := Tre.hid hn9
    have HOR9 := Tre.hid hor9
    obtain ⟨x0, x1, x2, x3, x4⟩ := HXC.out _ M15.below
    have v0 := M15.cell 3 rfl 0 rfl
    have v1 := M15.cell 3 rfl 1 rfl
    have v2 := M15.cell 3 rfl 2 rfl
    have v3 := M15.cell 3 rfl 3 rfl
    have v4 := M15.cell 3 rfl 4 rfl
    clear hp m13 M13 M14 M15 hor9 hn9 HL1 HM12
    go_wp2_with fail
    try rw [hb9]
    clear hb9
    generalize hw15 : w13.alloc (.cells #[.slice a9 n9 c9, .int .i64 0] 33) = w15 at *
    clear hw15
    refine (around_any bT _ _ _ _ _ _ _ _ _ _ w15 x0 x1 x2 x3 x4).mono ?_
    rintro e w16 ⟨A3, L3, rfl, m16⟩
    have M16 := HM15.out.call m16
    have HM16 := Tre.hid M16
    obtain ⟨x0', x1', x2', x3', x4'⟩ := HXC.out _ M16.below
    clear m16 HM15 M16 x0 x1 x2 x3 x4 v0 v1 v2 v3 v4
    simp only [objCells]
    go_wp2_with fail
    refine (around_any bT _ _ _ _ _ _ _ _ _ _ w16 x0' x1' x2' x3' x4').mono ?_
    rintro e w17 ⟨A2, L2, rfl, m17⟩
    have M17 := HM16.out.call m17
    have M18 := M17.allocR #[.int .i64 3, .string ⟨#[]⟩, .slice (some ⟨A2, 0, none⟩) 2 2, .slice (some ⟨L2, 0, none⟩) 2 2, .bool false] 28
    obtain ⟨A4, hA4⟩ : ∃ A4, w17.heap.size = A4 := ⟨_, rfl⟩
    rw [hA4] at M18
    have hb18 := M18.below
    have M19 := M18.allocR #[.int .i64 4, .string ⟨#[108, 111, 111, 112]⟩, .slice (some ⟨A4, 0, none⟩) 1 1, .slice none 0 0, .bool false] 28
    obtain ⟨R, hR⟩ : ∃ R, (w17.alloc (.cells #[.int .i64 3, .string ⟨#[]⟩, .slice (some ⟨A2, 0, none⟩) 2 2, .slice (some ⟨L2, 0, none⟩) 2 2, .bool false] 28)).heap.size = R := ⟨_, rfl⟩
    rw [hR] at M19
    have AR2 := around_mem (x := #[.int .i64 t.kind, .string ⟨t.s.toArray⟩, .slice aa t.args.length ca, .slice al t.labels.length cl, .bool t.opn]) (y := #[.int .i64 3, .string ⟨#[]⟩, .slice (some ⟨A3, 0, none⟩) 2 2, .slice (some ⟨L3, 0, none⟩) 2 2, .bool false]) M18 1 2 rfl rfl
    have AR3 := around_mem (x := #[.int .i64 t.kind, .string ⟨t.s.toArray⟩, .slice aa t.args.length ca, .slice al t.labels.length cl, .bool t.opn]) (y := #[.int .i64 1, .string ⟨#[108, 111, 111, 112]⟩, .slice none 0 0, .slice none 0 0, .bool false]) M18 3 4 rfl rfl
    have BR2 := around_mem (x := #[.int .i64 t.kind, .string ⟨t.s.toArray⟩, .slice aa t.args.length ca, .slice al t.labels.length cl, .bool t.opn]) (y := #[.int .i64 3, .string ⟨#[]⟩, .slice (some ⟨A3, 0, none⟩) 2 2, .slice (some ⟨L3, 0, none⟩) 2 2, .bool false]) M19 2 3 rfl rfl
    have BR3 := around_mem (x := #[.int .i64 t.kind, .string ⟨t.s.toArray⟩, .slice aa t.args.length ca, .slice al t.labels.length cl, .bool t.opn]) (y := #[.int .i64 1, .string ⟨#[108, 111, 111, 112]⟩, .slice none 0 0, .slice none 0 0, .bool false]) M19 4 5 rfl rfl
    have hR1 := five_mem M18 0 rfl rfl
    have p0 := List.pairwise_cons.1 M19.sep
    have p1 := List.pairwise_cons.1 p0.2
    have p2 := List.pairwise_cons.1 p1.2
    have t0 : Hid (0 ≤ walkT t) := by
     show _ ≤ _
     have h := HV.out
     unfold verdictI at h
     split at h
     ·cases h
     ·omega
    have HTT := tabTwo_small (t := t) (by have := HWG.out; omega)
    have HTL := tabTwo_len t
    have hEE := two_ents (R := R) HE0.out M19.below HAD.out (HXC.out w4 (Below.refl ..)).2.2.1 (HXC.out w4 (Below.refl ..)).2.2.2.1 (five_mem M19 0 rfl rfl) (five_mem M19 1 rfl rfl) BR2 BR3 ⟨_, _, M19.heap 0 rfl⟩ ⟨_, _, M19.heap 1 rfl⟩
     (M19.lo 0 rfl R rfl) (M19.lo 1 rfl A4 rfl) (M19.lo 2 rfl A2 rfl) (M19.lo 4 rfl A3 rfl)
     (fun e => p0.1 _ (List.mem_cons_self ..) R rfl e) (fun e => p0.1 _ (List.mem_cons_of_mem _ (List.mem_cons_self ..)) R rfl e) (fun e => p0.1 _ (List.mem_cons_of_mem _ (List.mem_cons_of_mem _ (List.mem_cons_of_mem _ (List.mem_cons_self ..)))) R rfl e)
     (fun e => p1.1 _ (List.mem_cons_self ..) A4 rfl e) (fun e => p1.1 _ (List.mem_cons_of_mem _ (List.mem_cons_of_mem _ (List.mem_cons_self ..))) A4 rfl e)
     (fun e => p2.1 _ (List.mem_cons_of_mem _ (List.mem_cons_self ..)) A2 rfl e)
    have HL2 : Hid (Calls Tryz.prog 10 #[.agg #[.int .i64 4, .string ⟨#[108, 111, 111, 112]⟩, .slice (some ⟨A4, 0, none⟩) 1 1, .slice none 0 0, .bool false]] (w17.alloc (.cells #[.int .i64 3, .string ⟨#[]⟩, .slice (some ⟨A2, 0, none⟩) 2 2, .slice (some ⟨L2, 0, none⟩) 2 2, .bool false] 28)) fun e w' =>
      ∃ (ec : Int) (v : Value) (ds : List NodeV), e = .returned (.tuple #[.agg #[v, .int .i64 0], .int .i64 ec]) ∧ Mem (w17.alloc (.cells #[.int .i64 3, .string ⟨#[]⟩, .slice (some ⟨A2, 0, none⟩) 2 2, .slice (some ⟨L2, 0, none⟩) 2 2, .bool false] 28)) w' [nodesR v ds, kidsR ds] ∧ ((ec = 0 ∧ ∃ g, TabLoads (tabTwo t) ((tabTwo t).length + 1) g ∧ ds.map NodeV.n = g.trim.ns ∧ g.weight ≤ 2097152) ∨ ec ≠ 0)) :=
     Load_gen (rollTwo t) (some ⟨A4, 0, none⟩) none 1 0 _ (two_rd (HYY.out.1.rd.after hb18) AR2 AR3 hR1) (by have := HWG.out; simp [rollTwo, around, tyVar, Ty.weight, weights, loopS]; omega) (HX4.out.below hb18)
      (tabTwo t) ((tabTwo t).length + 1) HTT.1 (tabTwo_rises t) (tabTwo_args t0.out) (by omega) (by omega) (ad2 ad R A4 A2 A3) (by exact hEE) (by rw [hR]; rfl)
      (by
       rcases two_or t with h | ⟨g2, h⟩
       ·exact .inl (.inl h)
       ·exact .inr ⟨g2, h, two_graph (by have := HWG.out; omega) h⟩)
    have M20 := ((((M18.del 0).del 0).del 0).del 0).del 0
    have HM20 : Hid (Mem w4 (w17.alloc (.cells #[.int .i64 3, .string ⟨#[]⟩, .slice (some ⟨A2, 0, none⟩) 2 2, .slice (some ⟨L2, 0, none⟩) 2 2, .bool false] 28)) [cellsR b9 33 #[.slice a9 n9 c9, .int .i64 0], nodesR (.slice a9 n9 c9) d9, kidsR d9, cellsR bV 28 #[.int .i64 1, .string ⟨#[108, 111, 111, 112]⟩, .slice none 0 0, .slice none 0 0, .bool false]]) := M20
    clear m17 HM16 M17 M18 x0' x1' x2' x3' x4' M19 AR2 AR3 BR2 BR3 hR1 p0 p1 p2 hEE HTT HTL hb18 M20 hR
    simp only [objCells]
    go_wp2_with fail
    try rw [hA4]
    clear hA4
    refine HL2.out.mono ?_
    rintro e w21 ⟨k2, v2, d2, rfl, m21, hor2⟩
    have M21 := HM20.out.call m21
    obtain ⟨aT, cT, rfl, _⟩ := M21.val 0 rfl
    obtain ⟨nT, hnT⟩ : ∃ nT, d2.length = nT := ⟨_, rfl⟩
    have M22 := M21.allocR #[.slice aT d2.length cT, .int .i64 0] 33
    obtain ⟨bG, hbG⟩ : ∃ bG, w21.heap.size = bG := ⟨_, rfl⟩
    rw [hbG, hnT] at M22
    rw [hnT]
    have M23 : Mem w4 (w21.alloc (.cells #[.slice aT nT cT, .int .i64 0] 33)) [cellsR bG 33 #[.slice aT nT cT, .int .i64 0], nodesR (.slice aT nT cT) d2, kidsR d2, cellsR b9 33 #[.slice a9 n9 c9, .int .i64 0], nodesR (.slice a9 n9 c9) d9, kidsR d9, cellsR bV 28 #[.int .i64 1, .string ⟨#[108, 111, 111, 112]⟩, .slice none 0 0, .slice none 0 0, .bool false]] := by
     have h := M22
     unfold nodesR at h ⊢
     rw [hnT] at h ⊢
     exact h
    have HM23 := Tre.hid M23
    have HNT2 := Tre.hid hnT
    have HOR2 := Tre.hid hor2
    have y0 := M23.cell 0 rfl 0 rfl
    have y1 := M23.cell 0 rfl 1 rfl
    have y2 := M23.cell 3 rfl 0 rfl
    have y3 := M23.cell 3 rfl 1 rfl
    clear m21 M21 M22 M23 hor2 hnT HL2 HM20
    by_cases h9 : kc = 0
    rotate_left
    ·have e9 : (kc == 0) = false := beq_eq_false_iff_ne.2 h9
     have HM := HM23.out.below
     have HB := Tre.hid HM
     clear h9 HM HM23 HOR9 HOR2
     go_wp2_with fail
     go_ret
     exact ⟨rfl, HB4.out.trans (HB.out.mono HB4.out.size)⟩
    subst h9
    by_cases h2 : k2 = 0
    rotate_left
    ·have e2 : (k2 == 0) = false := beq_eq_false_iff_ne.2 h2
     have HM := HM23.out.below
     have HB := Tre.hid HM
     clear h2 HM HM23 HOR9 HOR2
     go_wp2_with fail
     go_ret
     exact ⟨rfl, HB4.out.trans (HB.out.mono HB4.out.size)⟩
    subst h2
    obtain ⟨v9', g9, hg9, hd9⟩ : verdictI (walkT (rollOne t)) = 0 ∧ ∃ g, LoadsAs (rollOne t) g ∧ d9.map NodeV.n = g.trim.ns := by
     rcases HOR9.out with ⟨_, h1, h2⟩ | ⟨h, _⟩ | ⟨h, h2⟩
     ·exact ⟨h1, h2⟩
     ·omega
     ·exact absurd h.symm h2
    obtain ⟨g2, hg2, hd2, hw2⟩ : ∃ g, TabLoads (tabTwo t) ((tabTwo t).length + 1) g ∧ d2.map NodeV.n = g.trim.ns ∧ g.weight ≤ 2097152 := by
     rcases HOR2.out with ⟨_, h⟩ | h
     ·exact h
     ·exact absurd rfl h
    have w1 : 0 ≤ walkT (rollOne t) := by
     unfold verdictI at v9'
     split at v9'
     ·cases v9'
     ·omega
    have hS := unroll_same t0.out (by have := count_weight t; have := HWG.out; omega) HG.out HO2.out w1 hg9 hg2
    have gw9 := graph_small v9' (by have := HWG.out; simp [rollOne, around, tyVar, Ty.weight, weights, loopS]; omega) hg9
    have gw2 := Nat.le_trans (Graph.trim_weight g2) hw2
    have n1 : g9.trim.ns.length = n9 := by rw [← hd9, List.length_map]; exact HN9.out
    have n2 : g2.trim.ns.length = nT := by rw [← hd2, List.length_map]; exact HNT2.out
    have r9 : NodesAt (w21.alloc (.cells #[.slice aT nT cT, .int .i64 0] 33)) a9 g9.trim.ns := by have := nodes_read (n := n9) (HM23.out.at_ 4 rfl) (HM23.out.at_ 5 rfl); rwa [hd9] at this
    have r2 : NodesAt (w21.alloc (.cells #[.slice aT nT cT, .int .i64 0] 33)) aT g2.trim.ns := by have := nodes_read (n := nT) (HM23.out.at_ 1 rfl) (HM23.out.at_ 2 rfl); rwa [hd2] at this
    have HSM := Tre.hid (same_any a9 aT c9 cT g9.trim g2.trim (w21.alloc (.cells #[.slice aT nT cT, .int .i64 0] 33)) r9 r2 (by omega) gw2 (HX4.out.below HM23.out.below))
    rw [n1, n2, show sameB g9.trim g2.trim = true by unfold sameB; simp [hS]] at HSM
    have HB := Tre.hid HM23.out.below
    clear hS gw9 gw2 n1 n2 r9 r2 w1 hg9 hd9 hg2 hd2 hw2 v9' HM23 HOR9 HOR2
    have hr9 : g9.trim.root = 0 := rfl
    have hr2 : g2.trim.root = 0 := rfl
    rw [hr9, hr2] at HSM
    go_wp2_with fail
    refine HSM.out.mono ?_
    rintro e w24 ⟨rfl, b24⟩
    have HB24 := Tre.hid b24
    clear b24 HSM y0 y1 y2 y3
    go_wp2_with fail
    go_ret
    exact ⟨rfl, HB4.out.trans ((HB.out.trans (HB24.out.mono HB.out.size)).mono HB4.out.size)⟩
end Go.Proofs.YtljmcmdabdlldaaGreatDoor.load
namespace Go.Proofs.YtljmcmdabdlldaaGreatDoor.lex
open Go.ChangeShapes Go.WideShapes Go.RowKit Go.Tre
theorem envMax {w : World} (h : w.ShapedOpen Tryz.prog) : MaxAt w :=
 Go.Proofs.cell_of_shapedOpen_int (zero := #[.int .i64 0]) (t := 3) h (of_decide_eq_true (by kernel_rfl)) (by kernel_rfl) rfl (by kernel_rfl) (by kernel_rfl) Tryz.underlying3
def spaceTab : List Int := (List.range 256).map fun c => if spB (UInt8.ofNat c) = true then 1 else 0
theorem spaceData : (Rows.laid_strings_asciiSpace : DataW Unit) = Lib.tabData .u8 spaceTab := by kernel_rfl
theorem envSpace {W : World} {l : List (String × DataW Unit)} (h : laidMetH Tryz.prog l W) (e : l.filter (fun x => x.1 == "strings.asciiSpace") = [("strings.asciiSpace", Rows.laid_strings_asciiSpace)]) : SpaceAt W := by
 have h1 := laidMetH.filter (fun x => x.1 == "strings.asciiSpace") h
 rw [e, spaceData] at h1
 have h2 : Lib.TabIs Tryz.prog W "strings.asciiSpace" .u8 spaceTab :=
  Lib.tabIs_of_head (rest := []) (g := 1) (t := 216) (e := 5) (n := 256) (by kernel_rfl) (by kernel_rfl) Tryz.underlying216 Tryz.underlying5 (by kernel_rfl) (by kernel_rfl) h1
 intro c
 have hc := c.toNat_lt
 have h3 := h2.cell (g := 1) (by kernel_rfl) c.toNat (by unfold spaceTab; simp; omega)
 rw [h3]
 unfold spaceTab
 rw [List.getD_eq_getElem?_getD, List.getElem?_map, List.getElem?_range (by omega)]
 simp
theorem envRange {W : World} {l : List (String × DataW Unit)} (h : laidMetH Tryz.prog l W) (e : l.filter (fun x => x.1 == "strconv.ErrRange") = [("strconv.ErrRange", Rows.laid_strconv_ErrRange)]) : RangeAt W := by
 have h1 := laidMetH.filter (fun x => x.1 == "strconv.ErrRange") h
 rw [e] at h1
 have h2 : laidMet Tryz.prog [("strconv.ErrRange", Rows.laid_strconv_ErrRange)] W := h1
 obtain ⟨ps, ⟨g', t', cs, fuel, p, q, hg', ht', hvar, hd, _, _⟩, _⟩ := h2
 obtain rfl := Option.some.inj ((show Tryz.prog.globalNamed "strconv.ErrRange" = some 5 by kernel_rfl).symm.trans hg')
 obtain rfl := Option.some.inj ((show (Tryz.prog.globals[5]?).map (·.type) = some 58 by kernel_rfl).symm.trans ht')
 obtain ⟨f1, u, v, hcs, _, _⟩ := iface_of_trod Tryz.underlying58 hd
 refine ⟨u, v, ?_⟩
 have h3 := World.var?_cell hg' hvar 0
 have h4 : cs[0]? = some (.iface u v) := by rw [← Array.getElem?_toList, hcs]; rfl
 rw [h3, h4]
theorem errRows : ((List.range Tryz.prog.types.size).filter fun t => Tryz.prog.rowNamed t [101, 114, 114, 111, 114]) = [58] := by kernel_rfl
theorem envErr {W : World} {l : List (String × DataW Unit)} (h : laidMetH Tryz.prog l W) (e : l.filter (fun x => x.1 == "errors.errorType") = [("errors.errorType", Rows.laid_errors_errorType)]) : ErrT W := by
 have h1 := laidMetH.filter (fun x => x.1 == "errors.errorType") h
 rw [e] at h1
 have h' : laidMet Tryz.prog [] W ∧ handlesMet Tryz.prog [("errors.errorType", Rows.laid_errors_errorType)] W := h1
 obtain ⟨name, u, ty, e1, e2, e3, e4, e5⟩ := h'.2 _ (List.mem_singleton.2 rfl)
 have en : name = [101, 114, 114, 111, 114] := (Option.some.inj e1).symm
 subst en
 obtain rfl := Option.some.inj ((show (Tryz.prog.cutTypes.find? (·.1 == "internal/reflectlite.rtype")).map (·.2) = some 137 by kernel_rfl).symm.trans e2)
 have hm : ty ∈ (List.range Tryz.prog.types.size).filter fun t => Tryz.prog.rowNamed t [101, 114, 114, 111, 114] := List.mem_filter.2 ⟨List.mem_range.2 e3, e4⟩
 rw [errRows] at hm
 obtain rfl := List.mem_singleton.1 hm
 have hh : typeHandle Tryz.prog 58 = .pointer (some (rtA 58)) := by kernel_rfl
 rw [hh] at e5
 show W.cell? ⟨0, 0, none⟩ = _
 simpa using World.var?_cell (show Tryz.prog.globalNamed "errors.errorType" = some 0 by kernel_rfl) e5 0
theorem env_of {W : World} {l : List (String × DataW Unit)} (hsh : W.ShapedOpen Tryz.prog) (h : laidMetH Tryz.prog l W) (e1 : l.filter (fun x => x.1 == "strings.asciiSpace") = [("strings.asciiSpace", Rows.laid_strings_asciiSpace)])
  (e2 : l.filter (fun x => x.1 == "strconv.ErrRange") = [("strconv.ErrRange", Rows.laid_strconv_ErrRange)]) (e3 : l.filter (fun x => x.1 == "errors.errorType") = [("errors.errorType", Rows.laid_errors_errorType)]) : LexEnv W :=
 ⟨envMax hsh, envSpace h e1, envRange h e2, envErr h e3⟩
end Go.Proofs.YtljmcmdabdlldaaGreatDoor.lex
namespace Go.Tre
open Go.RowKit Go.ChangeShapes Go.Deep
theorem addr_plain {w : World} {a : Addr} {j : Nat} {u : Value} (h : w.cell? (a.add j) = some u) : (∃ b off, a = ⟨b, off, none⟩) ∨ 0 < j := by
 by_cases hj : j = 0
 ·subst hj
  left
  obtain ⟨b, off, s⟩ := a
  simp [Addr.add, World.cell?] at h
  split at h
  ·by_cases hs : s = none
   ·subst hs; exact ⟨_, _, rfl⟩
   ·have : s.isSome = true := Option.isSome_iff_ne_none.2 hs
    simp [this] at h
  ·cases h
 ·exact .inr (by omega)
theorem add_plain (b off j : Nat) : (⟨b, off, none⟩ : Addr).add j = ⟨b, off + j, none⟩ := by
 unfold Addr.add
 by_cases h : j = 0 <;> simp [h]
section
variable {P : Program} {H : Type} {enc : TypeId × Value → H} {w : World} {base : Nat} {sp : Nat → Bool} {held : Bool}
end
end Go.Tre
namespace Go.Proofs.YtljmcmdabdlldaaGreatDoor.gr
open Go.RowKit Go.Maps Go.Tre lex Go.ChangeShapes Go.Deep
set_option maxRecDepth 100000
theorem bulk_map {H : Type} (D : Nat → DataW H) (W : Nat → Nat) : ∀ (l : List Nat), (∀ i ∈ l, W i ≤ Rows.uptoBulk (D i)) → (l.map W).sum ≤ Rows.uptoBulkAll (l.map D)
 | [], _ => by simp
 | i :: r, h => by
  have h1 := h i (by simp)
  have h2 := bulk_map D W r (fun j hj => h j (by simp [hj]))
  simp only [List.map_cons, List.sum_cons, Rows.uptoBulkAll]
  omega
theorem bulk_pos {H : Type} (d : DataW H) : 1 ≤ Rows.uptoBulk d := by unfold Rows.uptoBulk; split <;> omega
end Go.Proofs.YtljmcmdabdlldaaGreatDoor.gr
namespace Go.Proofs.YtljmcmdabdlldaaGreatDoor.part
open Go.RowKit Go.Maps Go.Tre Go.ChangeShapes Go.Deep gr
set_option maxRecDepth 100000
theorem sum_ones {α : Type} : ∀ l : List α, (l.map fun _ => 1).sum = l.length
 | [] => rfl
 | x :: r => by rw [List.map_cons, List.sum_cons, sum_ones r, List.length_cons]; omega
theorem cellsPart : Tryz.prog.cellsOf 46 = 4 := by kernel_rfl
section
variable {H : Type} {enc : TypeId × Value → H} {w : World} {base : Nat} {sp : Nat → Bool} {held : Bool}
theorem u8_bounds {k : Int} (h : Lit.wf (.int .u8 k) = true) : 0 ≤ k ∧ k < 256 := by
 simp [Lit.wf, IntKind.min, IntKind.max, IntKind.signed, IntKind.bits] at h
 omega
theorem open_part {fuel : Nat} {cs : List Value} {x : DataW H × List MemPlace} (h : DataW.trod enc Tryz.prog w base sp held fuel 46 cs = some x) :
  ∃ p : Prt, cs = [.int .u8 p.kind, .string ⟨p.s.toArray⟩, .int .u8 p.args, .bool p.opn] ∧ p.kind < 256 ∧ p.args < 256 ∧ p.s.length + 4 ≤ Rows.uptoBulk x.1 := by
 obtain ⟨xs, n, _, rfl, hl, hn, hf⟩ := DataW.trod_struct Tryz.underlying46 h
 rw [cellsPart] at hl
 match cs, hl, xs, hn with
 | [c0, c1, c2, c3], _, [y0, y1, y2, y3], _ =>
  have f0 := hf 0 _ rfl
  have f1 := hf 1 _ rfl
  have f2 := hf 2 _ rfl
  have f3 := hf 3 _ rfl
  simp only [zqc, zqb] at f0 f1 f2 f3
  obtain ⟨k, e0, z0, b0⟩ := DataW.trod_int Tryz.underlying5 f0
  obtain ⟨s, e1, z1, _⟩ := DataW.trod_string Tryz.underlying9 f1
  obtain ⟨m, e2, z2, b2⟩ := DataW.trod_int Tryz.underlying5 f2
  obtain ⟨b, e3, z3⟩ := DataW.trod_bool Tryz.underlying4 f3
  cases e0; cases e1; cases e2; cases e3
  have k0 := u8_bounds b0
  have k2 := u8_bounds b2
  obtain ⟨kn, rfl⟩ : ∃ kn : Nat, (kn : Int) = k := ⟨k.toNat, by omega⟩
  obtain ⟨mn, rfl⟩ : ∃ mn : Nat, (mn : Int) = m := ⟨m.toNat, by omega⟩
  refine ⟨⟨kn, s.data.toList, mn, b⟩, ?_, by show kn < 256; omega, by show mn < 256; omega, ?_⟩
  ·have : (⟨s.data.toList.toArray⟩ : ByteArray) = s := rfl
   simp only [this]
  ·have q0 : 1 ≤ Rows.uptoBulk y0.1 := bulk_pos _
   have q2 : 1 ≤ Rows.uptoBulk y2.1 := bulk_pos _
   have q3 : 1 ≤ Rows.uptoBulk y3.1 := bulk_pos _
   have q1 : s.data.toList.length + 1 ≤ Rows.uptoBulk y1.1 := by rw [z1]; simp only [Rows.uptoBulk]; exact Nat.le_refl _
   simp only [List.map_cons, List.map_nil, Rows.uptoBulk, Rows.uptoBulkAll]
   omega
theorem open_parts' {fuel : Nat} {cs : List Value} {x : DataW H × List MemPlace} (h : DataW.trod enc Tryz.prog w base sp held fuel 22 cs = some x) :
  ∃ (a : Option Addr) (cap : Nat) (l : List Prt), cs = [.slice a l.length cap] ∧ PrtsAt w a l ∧ l.length ≤ cap ∧ l.length + 1 ≤ Rows.uptoBulk x.1 := by
 rcases open_slice Tryz.underlying22 h with ⟨h1, h2⟩ | ⟨a, len, cap, m, fu, D, Pl, h1, _, h3, _, h5, rfl, h7⟩
 ·exact ⟨none, 0, [], h1, PrtsAt.nil _ _, Nat.le_refl _, by rw [h2]; simp [Rows.uptoBulk]⟩
 ·rw [cellsPart] at h7
  have hm : len ≤ m := by rw [h5]; split <;> omega
  have step : ∀ i, i < len → ∃ n : Prt, 1 ≤ Rows.uptoBulk (D i) ∧ ∃ b off, a = ⟨b, off, none⟩ ∧ PrtAt w b (off + i * 4) n := by
   intro i hi
   obtain ⟨cs', hc, ht⟩ := h7 i (by omega)
   obtain ⟨n, e, hk, ha, hw⟩ := open_part ht
   obtain ⟨_, _, hcell⟩ := World.cells?_some hc
   subst e
   have k0 : w.cell? ((a.add (i * 4)).add 0) = some (.int .u8 n.kind) := hcell 0 (by omega)
   have hp : ∃ b off, a = ⟨b, off, none⟩ := by
    by_cases hi0 : i = 0
    ·subst hi0
     rcases addr_plain k0 with h' | h'
     ·obtain ⟨b, off, e⟩ := h'
      exact ⟨b, off, by simpa [Addr.add] using e⟩
     ·omega
    ·obtain ⟨cs0, hc0, ht0⟩ := h7 0 (by omega)
     obtain ⟨n0, e0, _⟩ := open_part ht0
     obtain ⟨_, _, hcell0⟩ := World.cells?_some hc0
     subst e0
     have k00 : w.cell? ((a.add (0 * 4)).add 0) = some (.int .u8 n0.kind) := hcell0 0 (by omega)
     rcases addr_plain k00 with h' | h'
     ·obtain ⟨b, off, e⟩ := h'
      exact ⟨b, off, by simpa [Addr.add] using e⟩
     ·omega
   obtain ⟨b, off, rfl⟩ := hp
   have g : ∀ j, j < 4 → w.cell? ⟨b, off + i * 4 + j, none⟩ = ([.int .u8 n.kind, .string ⟨n.s.toArray⟩, .int .u8 n.args, .bool n.opn] : List Value)[j]? := fun j hj => by
    have := hcell j hj
    rwa [add_plain, add_plain] at this
   exact ⟨n, Nat.le_trans (by omega : 1 ≤ n.s.length + 4) hw, b, off, rfl, g 0 (by omega), g 1 (by omega), g 2 (by omega), g 3 (by omega), hk, ha⟩
  obtain ⟨f, hf⟩ : ∃ f : Nat → Prt, ∀ i, i < len → 1 ≤ Rows.uptoBulk (D i) ∧ ∃ b off, a = ⟨b, off, none⟩ ∧ PrtAt w b (off + i * 4) (f i) :=
   ⟨fun i => if h : i < len then Classical.choose (step i h) else ⟨0, [], 0, false⟩, fun i hi => by simp only [hi, dif_pos]; exact Classical.choose_spec (step i hi)⟩
  have hl : ((List.range len).map f).length = len := by simp
  refine ⟨some a, cap, (List.range len).map f, by rw [hl]; exact h1, ⟨fun k n hn => ?_⟩, by rw [hl]; exact h3, ?_⟩
  ·rw [List.getElem?_map] at hn
   obtain ⟨i, hi, rfl⟩ := Option.map_eq_some_iff.1 hn
   have hk : k < len := by have := (List.getElem?_eq_some_iff.1 hi).1; simpa using this
   rw [List.getElem?_range hk] at hi
   cases hi
   obtain ⟨_, b, off, e, hn⟩ := hf k hk
   exact ⟨b, off, by rw [e], hn⟩
  ·have h1 := bulk_map D (fun _ => 1) (List.range len) (fun i hi => (hf i (List.mem_range.1 hi)).1)
   have h2 : ((List.range len).map fun _ => 1).sum = len := by
    rw [sum_ones, List.length_range]
   rw [hl]
   simp only [Rows.uptoBulk]
   omega
theorem open_parts {r : Reach} {b0 : Nat} {v : Value} {d : DataW H} {ps : List MemPlace} (hval : Value.okWide Tryz.prog w r b0 22 v) (hd : DataW.Trod enc Tryz.prog w base sp held 22 v d ps) :
  ∃ (a : Option Addr) (cap : Nat) (l : List Prt), v = .slice a l.length cap ∧ (PrtsAt w a l ∧ l.length ≤ cap) ∧ l.length + 1 ≤ Rows.uptoBulk d := by
 obtain ⟨fuel, hf⟩ := hd
 obtain ⟨a, cap, l, e, h1, h2, h3⟩ := open_parts' hf
 refine ⟨a, cap, l, ?_, ⟨h1, h2⟩, h3⟩
 have hno : ∀ cs, v ≠ .agg cs := fun cs hcs => by
  subst hcs
  unfold Value.okWide at hval
  rw [Tryz.underlying22] at hval
  simp only [Cell.okWide, Tryz.underlying22] at hval
  simp [Cell.ok, Tryz.underlying22] at hval
 cases v with
 | agg cs => exact absurd rfl (hno cs)
 | _ => exact (List.cons.inj e).1
end
end Go.Proofs.YtljmcmdabdlldaaGreatDoor.part
