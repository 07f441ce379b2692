/- canon.free, canon.look, and its function of classes. -/
import Derived.Test.YtaleodkbghogfaaGreatDoorB33
import Derived.Test.YtaleodkbghogfaaGreatDoorB18
import Derived.Test.YtaleodkbghogfaaGreatDoorB09
import Derived.Test.YtaleodkbghogfaaGreatDoorB08
import Derived.Test.YtaleodkbghogfaaGreatDoorB04
import Derived.Deep.DeepCutAuto
import Derived.Lib.ItoaLen
set_option linter.unusedVariables false
namespace Go.Tre
open Go.RowKit
open Go.Lib (decDigits itoa)
def labText (l : List ByteArray) : List UInt8 := (l.map fun l => l.data.toList).flatMap (fun l => 32 :: l)
def argText (cl : Nat → Nat) (l : List Int) : List UInt8 := (l.map fun a => decDigits (cl a.toNat)).flatMap (fun l => 44 :: l)
theorem labText_succ {l : List ByteArray} {k : Nat} (h : k < l.length) : labText (l.take (k + 1)) = labText (l.take k) ++ (32 :: l[k].data.toList) := by
 unfold labText
 rw [List.take_add_one, List.getElem?_eq_getElem h, List.map_append, List.flatMap_append]
 simp only [Option.toList_some, List.map_cons, List.map_nil, List.flatMap_cons, List.flatMap_nil, List.append_nil]
theorem argText_succ {cl : Nat → Nat} {l : List Int} {k : Nat} (h : k < l.length) : argText cl (l.take (k + 1)) = argText cl (l.take k) ++ (44 :: decDigits (cl l[k].toNat)) := by
 unfold argText
 rw [List.take_add_one, List.getElem?_eq_getElem h, List.map_append, List.flatMap_append]
 simp only [Option.toList_some, List.map_cons, List.map_nil, List.flatMap_cons, List.flatMap_nil, List.append_nil]
theorem labText_len (l : List ByteArray) : (labText l).length = (l.map fun s => s.size + 1).sum := by
 unfold labText
 induction l with
 | nil => rfl
 | cons a l ih => simp only [List.map_cons, List.flatMap_cons, List.length_append, List.length_cons, List.sum_cons, ih]; rw [Lib.size_eq]
theorem dec_len {n : Nat} (h : n ≤ 8388608) : (decDigits n).length ≤ 21 := by
 have := Lib.itoa_length_le (n : Int) (by omega) (by omega)
 rwa [Lib.itoa_nonneg] at this
theorem argText_len {cl : Nat → Nat} (hc : ∀ a, cl a ≤ 8388608) (l : List Int) : (argText cl l).length ≤ 22 * l.length := by
 unfold argText
 induction l with
 | nil => simp
 | cons a l ih =>
  have := dec_len (hc a.toNat)
  simp only [List.map_cons, List.flatMap_cons, List.length_append, List.length_cons]
  omega
theorem lookL_eq (n : Tre.Node) (cl : Nat → Nat) : lookL n cl = itoa n.kind ++ n.name.data.toList ++ labText n.labels ++ argText cl n.args := rfl
theorem size_mk (l : List UInt8) : (⟨l.toArray⟩ : ByteArray).size = l.length := by simp [ByteArray.size]
structure LookM (w w' : World) (T e : TypeId) (acc : List UInt8) : Prop where
 below : Below w.heap.size w w'
 bld : Lib.IsBuilder T e w.heap.size w.heap.size (Lib.byteCells acc) w'
theorem LookM.size {w w' : World} {T e : TypeId} {acc : List UInt8} (h : LookM w w' T e acc) : w.heap.size ≤ w'.heap.size := h.below.size
theorem LookM.quiet {w w' w2 : World} {T e : TypeId} {acc : List UInt8} (h : LookM w w' T e acc) (k : Below w'.heap.size w' w2) : LookM w w2 T e acc :=
 ⟨h.below.trans (k.mono h.size), builder_below h.bld k⟩
theorem LookM.drew {w w' : World} {T e : TypeId} {acc : List UInt8} (h : LookM w w' T e acc) : LookM w w'.drew T e acc := h.quiet (Below.refl _ _).drew
theorem LookM.wrote {w w' w2 : World} {T e : TypeId} {acc acc2 : List UInt8} (h : LookM w w' T e acc) (hb : Lib.IsBuilder T e w.heap.size w.heap.size (Lib.byteCells acc2) w2) (k : Below w.heap.size w' w2) : LookM w w2 T e acc2 :=
 ⟨h.below.trans k, hb⟩
theorem LookM.cell {w w' : World} {T e : TypeId} {acc : List UInt8} (h : LookM w w' T e acc) {p : Addr} {v : Value} (hc : w.cell? p = some v) : w'.cell? p = some v := cell_below h.below hc
end Go.Tre
namespace Go.Proofs.YtaleodkbghogfaaGreatDoor.gr
open Go.RowKit Go.Shelf Go.Maps Go.Tre lex
open Go.Lib (decDigits itoa)
theorem itoa_any (n : Nat) (w : World) (hn : n ≤ 8388608) (ht : TabAt w) :
  Calls Tryz.prog 24 #[.int .i64 n] w fun e w' => e = .returned (.string ⟨(decDigits n).toArray⟩) ∧ Below w.heap.size w w' := by
 refine (Tryz.strconv_Itoa (n : Int) (by omega) (by omega) w ht).mono ?_
 rintro e w' ⟨rfl, k, os, rfl⟩
 refine ⟨by rw [Lib.itoa_nonneg], ?_⟩
 have b1 : Below w.heap.size w (w.drewN k) := Go.below_drewN (Below.refl _ _) k
 refine b1.trans ⟨rfl, rfl, rfl, ?_, fun i hi => ?_⟩
 ·simp [Sort.grow]
 ·have hi' : i < (w.drewN k).heap.size := by have := b1.size; omega
  exact Array.getElem?_append_left hi'
theorem isFree (n : Tre.Node) (aa al : Option Addr) (ca cl : Nat) (w : World) :
  Calls Tryz.prog 48 #[.agg #[.int .i64 n.kind, .string n.name, .slice aa n.args.length ca, .slice al n.labels.length cl, .bool n.isOpen]] w fun e w' => e = .returned (.bool (freeC n)) ∧ Below w.heap.size w w' := by
 have BA : Below w.heap.size w (w.alloc (.cells #[.int .i64 n.kind, .string n.name, .slice aa n.args.length ca, .slice al n.labels.length cl, .bool n.isOpen] 33)) := (Below.refl _ _).alloc (Nat.le_refl _) _
 have HB := Tre.hid BA
 clear BA
 unfold freeC
 by_cases h : n.kind = 1
 ·have h1 : (n.kind == 1) = true := by simp [h]
  have h2 : decide (n.kind = 1) = true := by simp [h]
  rw [h2]
  clear h h2
  go_enter Tryz.func48, Tryz.ntmps48
  go_wp2_with fail
  go_ret
  exact ⟨rfl, HB.out⟩
 ·have h1 : (n.kind == 1) = false := by simp [h]
  have h2 : decide (n.kind = 1) = false := by simp [h]
  rw [h2]
  clear h h2
  go_enter Tryz.func48, Tryz.ntmps48
  go_wp2_with fail
  go_ret
  exact ⟨by simp, HB.out⟩
set_option maxHeartbeats 1000000 in
theorem class_any (x bc : Nat) (ac : Option Addr) (cc : Nat) (L : List Nat) (w : World) (hbc : w.cell? ⟨bc, 0, none⟩ = some (.slice ac L.length cc)) (hx : x < L.length) (hc : IntsAt w ac (L.map fun k : Nat => (k : Int))) :
  Calls Tryz.prog 50 #[.int .i64 (x : Int), .pointer (some ⟨bc, 0, none⟩)] w fun e w' => e = .returned (.int .i64 ((L.getD x 0 : Nat) : Int)) ∧ Below w.heap.size w w' := by
 obtain ⟨b1, o1, rfl, hv⟩ := hc.at_ x (.int .i64 ((L.getD x 0 : Nat) : Int)) (by rw [List.getElem?_map, List.getElem?_map, List.getElem?_eq_getElem hx, List.getD_eq_getElem?_getD, List.getElem?_eq_getElem hx]; rfl)
 have i1 : (0 : Int) ≤ (x : Int) := by omega
 have i2 : (x : Int) < (L.length : Int) := by omega
 generalize ((L.getD x 0 : Nat) : Int) = y at *
 clear hc
 go_enter Tryz.func50, Tryz.ntmps50
 go_wp2_with fail
 go_ret
 exact ⟨rfl, Below.refl _ _⟩
theorem ret_str {a b : List UInt8} (h : a = b) : Ending.returned (.string ⟨a.toArray⟩) = .returned (.string ⟨b.toArray⟩) := by rw [h]
theorem hcfR (args : Array Value) (w : World) : (callFunc 50 args).run Tryz.prog w = .ok (.enter 50 args) w := by kernel_rfl

set_option maxRecDepth 100000 in
set_option maxHeartbeats 4000000 in
theorem look_any (x : Tre.Node) (aa al : Option Addr) (ca cl : Nat) (bc : Nat) (ac : Option Addr) (cc : Nat) (L : List Nat) (w : World) (hA : IntsAt w aa x.args) (hB : StrsAt w al x.labels) (hbc : w.cell? ⟨bc, 0, none⟩ = some (.slice ac L.length cc)) (hc : IntsAt w ac (L.map fun k : Nat => (k : Int)))
  (hn : ∀ z ∈ x.args, ∃ y : Nat, z = (y : Int) ∧ y < L.length) (hL : ∀ y ∈ L, y ≤ 8388608) (wx : x.weight ≤ 2097152) (hk : x.kind = 1 ∨ x.kind = 2 ∨ x.kind = 3) (ht : TabAt w) :
  Calls Tryz.prog 49 #[.agg #[.int .i64 x.kind, .string x.name, .slice aa x.args.length ca, .slice al x.labels.length cl, .bool x.isOpen], .func (.func 50) #[] #[.pointer (some ⟨bc, 0, none⟩)]] w fun e w' =>
   e = .returned (.string ⟨(lookL x (fun a => L.getD a 0)).toArray⟩) ∧ Below w.heap.size w w' := by
 obtain ⟨kn, hkn, hkb⟩ : ∃ kn : Nat, x.kind = (kn : Int) ∧ kn ≤ 3 := by
  rcases hk with h | h | h
  ·exact ⟨1, h, by decide⟩
  ·exact ⟨2, h, by decide⟩
  ·exact ⟨3, h, by decide⟩
 have hcl : ∀ a, L.getD a 0 ≤ 8388608 := fun a => by
  rw [List.getD_eq_getElem?_getD]
  cases h : L[a]? with
  | none => simp
  | some y => exact hL y (List.mem_of_getElem? h)
 have BX := Tre.hid ((Below.refl w.heap.size w).alloc (Nat.le_refl _) (.cells #[.int .i64 (kn : Int), .string x.name, .slice aa x.args.length ca, .slice al x.labels.length cl, .bool x.isOpen] 33))
 have hx0 := heap_alloc_new w (.cells #[.int .i64 (kn : Int), .string x.name, .slice aa x.args.length ca, .slice al x.labels.length cl, .bool x.isOpen] 33)
 have x0 := cell_of_heap hx0 (j := 0) rfl
 have x1 := cell_of_heap hx0 (j := 1) rfl
 have x2 := cell_of_heap hx0 (j := 2) rfl
 have x3 := cell_of_heap hx0 (j := 3) rfl
 have HA := Tre.hid (hA.below BX.out)
 have HB := Tre.hid (hB.below BX.out)
 have HBC := Tre.hid (cell_below BX.out hbc)
 have HC := Tre.hid (hc.below BX.out)
 have HN := Tre.hid hn
 have HCL := Tre.hid hcl
 have HT := Tre.hid ht
 have HK := Tre.hid hkn
 have hwn : x.name.size + x.args.length + (x.labels.map fun s => s.size + 1).sum ≤ 2097152 := by unfold Node.weight at wx; omega
 have hkl := dec_len (n := kn) (by omega)
 have E0 := Tre.hid (show lookL x (fun a => L.getD a 0) = decDigits kn ++ x.name.data.toList ++ labText x.labels ++ argText (fun a => L.getD a 0) x.args by rw [lookL_eq, hkn, Lib.itoa_nonneg])
 have acc0 : ([] : List UInt8) ++ ((⟨(decDigits kn).toArray⟩ : ByteArray) ++ x.name).data.toList = decDigits kn ++ x.name.data.toList := by simp [ByteArray.data_append]
 have HACC := Tre.hid acc0
 have hcat : ¬ (9223372036854775807 < (decDigits kn).length + x.name.size) := by omega
 have HNS : Hid (∀ k, (labText (x.labels.take k)).length ≤ (x.labels.map fun s => s.size + 1).sum) := fun k => by rw [labText_len]; exact sum_take_le _ _ _
 have HLL : Hid (∀ k, k < x.labels.length → x.labels[k]!.size ≤ 2097152) := fun k hk => by
  rw [getElem!_pos x.labels k hk]
  have h1 := sum_take_succ (fun s : ByteArray => s.size + 1) x.labels k x.labels[k] (List.getElem?_eq_getElem hk)
  have h2 := sum_take_le (fun s : ByteArray => s.size + 1) x.labels (k + 1)
  omega
 rw [hkn]
 have hll : x.labels.length ≤ 2097152 := Nat.le_trans (length_le_sum _ (fun s => by omega) x.labels) (by omega : (x.labels.map fun s => s.size + 1).sum ≤ 2097152)
 clear hA hB hbc hc hn hL wx hk ht hkn hcl acc0
 obtain ⟨wb, hwb⟩ : ∃ wb : World, w.alloc (.cells #[.int .i64 (kn : Int), .string x.name, .slice aa x.args.length ca, .slice al x.labels.length cl, .bool x.isOpen] 33) = wb := ⟨_, rfl⟩
 have hsz : wb.heap.size = w.heap.size + 1 := by rw [← hwb]; simp
 have LM0 := Tre.hid (show LookM wb (wb.alloc (.cells #[.pointer none, .slice none 0 0] 52)) 52 5 [] from ⟨(Below.refl _ _).alloc (Nat.le_refl _) _, builder_new wb _ _⟩)
 rw [hwb] at BX x0 x1 x2 x3 HA HB HBC HC
 rw [hsz] at *
 clear hx0
 go_enter Tryz.func49, Tryz.ntmps49
 go_upto_region 2 with fail
 go_cut [] (fun wx => Hid (LookM wb wx 52 5 (decDigits kn ++ x.name.data.toList)))
 case first =>
  refine wp_region_keep (S := (fun w' => w'.cell? ⟨w.heap.size, 0, none⟩ = some (.int .i64 (kn : Int)) ∧ w'.cell? ⟨w.heap.size, 1, none⟩ = some (.string x.name))) [] (by kernel_rfl) ?_ (fun hH0 => ?_)
  ·exact ⟨LM0.out.cell x0, LM0.out.cell x1⟩
  have H0 := Tre.hid LM0.out.drew
  generalize hq : World.drew _ = wq0 at H0 hH0 ⊢
  clear hq
  refine lPure (i := 0) (some 10) (v := ?_) (by rfl) (by kernel_rfl) (by kernel_rfl) (by kernel_rfl) (by kernel_rfl) (fun _ _ _ h => h) (by rfl) ?_ (keep_of hH0) ?_
  rotate_left
  ·intro w; simp only [Tre.qa, Tre.qc, Tre.qd, Tre.qe]; (first | (go_simp; done) | (go_simp; with_reducible rfl))
  try simp only [Act.put, Tre.qf, Tre.qg, Tre.qh]
  refine lPure (i := 3) (some 13) (v := ?_) (by rfl) (by kernel_rfl) (by kernel_rfl) (by kernel_rfl) (by kernel_rfl) (fun _ _ _ h => h) (by rfl) ?_ (keep_of hH0) ?_
  rotate_left
  ·intro w; simp only [Tre.qa, Tre.qb, Tre.qc, Tre.qd, Tre.qe]; (first | (go_simp; done) | (go_simp; with_reducible rfl))
  try simp only [Act.put, Tre.qf, Tre.qg, Tre.qh]
  refine lTake (i := 1) (some 11) (v := ?_) (by rfl) (by kernel_rfl) (by kernel_rfl) (by kernel_rfl) (by kernel_rfl) (by kernel_rfl) (fun _ _ _ h => h) (by rfl) ?_ hH0 ?_
  rotate_left
  ·intro w hSw; (try dsimp only at hSw); simp only [Tre.qa, Tre.qb, Tre.qc, Tre.qd, Tre.qe]; (first | (go_simp; done) | (go_simp; with_reducible rfl))
  try simp only [Act.put, Tre.qf, Tre.qg, Tre.qh]
  refine lTake (i := 4) (some 14) (v := ?_) (by rfl) (by kernel_rfl) (by kernel_rfl) (by kernel_rfl) (by kernel_rfl) (by kernel_rfl) (fun _ _ _ h => h) (by rfl) ?_ hH0 ?_
  rotate_left
  ·intro w hSw; (try dsimp only at hSw); simp only [Tre.qa, Tre.qb, Tre.qc, Tre.qd, Tre.qe]; (first | (go_simp; done) | (go_simp; with_reducible rfl))
  try simp only [Act.put, Tre.qf, Tre.qg, Tre.qh]
  refine lOne 2 (by kernel_rfl) (LStep.op (fun K hK => ?_))
  go_simp
  refine (itoa_any kn _ (by omega) (HT.out.below (BX.out.trans (H0.out.below.mono BX.out.size)))).mono ?_
  rintro e wq1 ⟨rfl, bq⟩
  have H1 := Tre.hid (H0.out.quiet bq)
  clear bq
  (try dsimp only)
  refine hK.out _ _ ?_ (fun hH1 => ?_)
  ·exact ⟨H1.out.cell x0, H1.out.cell x1⟩
  clear hK K hH0
  try simp only [Act.put, Tre.qf, Tre.qg, Tre.qh]
  refine lPure (i := 5) (some 15) (v := ?_) (by rfl) (by kernel_rfl) (by kernel_rfl) (by kernel_rfl) (by kernel_rfl) (fun _ _ _ h => h) (by rfl) ?_ (keep_of hH1) ?_
  rotate_left
  ·intro w; simp only [Tre.qa, Tre.qb, Tre.qc, Tre.qd, Tre.qe]; (first | (go_simp; done) | (go_simp; with_reducible rfl))
  try simp only [Act.put, Tre.qf, Tre.qg, Tre.qh]
  refine lOne 6 (by kernel_rfl) (LStep.op (fun K hK => ?_))
  go_simp
  have hsz : ([] : List UInt8).length + ((⟨(Lib.decDigits kn).toArray⟩ : ByteArray) ++ x.name).size ≤ 140737488355328 := by rw [ByteArray.size_append, size_mk]; simp only [List.length_nil]; omega
  refine (writeString _ _ [] _ _ H1.out.bld hsz H1.out.size).mono ?_
  rintro e wq2 ⟨rfl, hb9, bq⟩
  have H2 := Tre.hid (H1.out.wrote hb9 bq)
  clear bq hb9 hsz
  (try dsimp only)
  refine hK.out _ _ ?_ (fun hH2 => ?_)
  ·exact ⟨H2.out.cell x0, H2.out.cell x1⟩
  clear hK K hH1
  try simp only [Act.put, Tre.qf, Tre.qg, Tre.qh]
  refine lDone (by kernel_rfl) ?_
  clear hH2
  go_wp2_with fail
  go_meet
  have HQ := H2.out
  rw [HACC.out] at HQ
  exact Tre.hid HQ
 case rest =>
  have l3 := hcut.out.cell x3
  go_wp2_with fail
  go_loopw [20] (fun v20 wr => ∃ k : Nat, k ≤ x.labels.length ∧ v20 = .int .i64 k ∧ Hid (LookM wb wr 52 5 (decDigits kn ++ x.name.data.toList ++ labText (x.labels.take k)))) (fun v20 _ => x.labels.length - (intOf v20).toNat)
  case atStart => exact ⟨0, Nat.zero_le _, rfl, by have h := hcut.out; show LookM _ _ _ _ _; rw [List.take_zero, show labText [] = [] from rfl, List.append_nil]; exact h⟩
  case round =>
   obtain ⟨k, hk, rfl, hM⟩ := hrel
   have hns := HNS.out k
   by_cases hlt : k < x.labels.length
   ·have hsl := HLL.out k hlt
    rw [getElem!_pos x.labels k hlt] at hsl
    have HS := Tre.hid (labText_succ hlt)
    obtain ⟨bl, ol, rfl, hv⟩ := (HB.out.below hM.out.below).at_ k (.string x.labels[k]) (by rw [List.getElem?_map, List.getElem?_eq_getElem hlt]; rfl)
    generalize x.labels[k] = s at *
    have i1 : (0 : Int) ≤ (k : Int) := by omega
    have i2 : (k : Int) < (x.labels.length : Int) := by omega
    have hlen : (decDigits kn ++ x.name.data.toList ++ labText (x.labels.take k)).length + ((⟨#[32]⟩ : ByteArray) ++ s).size ≤ 140737488355328 := by
     have e2 : ((⟨#[32]⟩ : ByteArray) ++ s).size = 1 + s.size := by rw [ByteArray.size_append]; rfl
     rw [e2, List.length_append, List.length_append, ← Lib.size_eq]; omega
    have HE : Hid (decDigits kn ++ x.name.data.toList ++ labText (x.labels.take k) ++ ((⟨#[32]⟩ : ByteArray) ++ s).data.toList = decDigits kn ++ x.name.data.toList ++ labText (x.labels.take (k + 1))) := by
     show _ = _; rw [HS.out, ByteArray.data_append]; simp
    have HLEN := Tre.hid hlen
    clear hlen hns l3
    go_wp2_with fail
    refine (writeString _ _ _ _ _ hM.out.bld HLEN.out hM.out.size).mono ?_
    rintro e w3 ⟨rfl, hb3, bq⟩
    have HM3 := Tre.hid (hM.out.wrote hb3 bq)
    clear hb3 bq
    go_wp2_with fail
    go_roundw
    case rel => exact ⟨k + 1, by omega, by go_num, by have h := HM3.out; rw [HE.out] at h; exact h⟩
    case measure => simp [intOf]; omega
   ·have e : k = x.labels.length := by omega
    have hM' := hM.out
    rw [e, List.take_length] at hM'
    have HM2 := Tre.hid hM'
    have l2 := hM'.cell x2
    clear hM hM' e l3
    go_wp2_with fail
    obtain ⟨wo, rfl⟩ : ∃ wo : World, wo = wr := ⟨_, rfl⟩
    go_loopw [31] (fun v31 wr => ∃ j : Nat, j ≤ x.args.length ∧ v31 = .int .i64 j ∧ Hid (LookM wb wr 52 5 (decDigits kn ++ x.name.data.toList ++ labText x.labels ++ argText (fun a => L.getD a 0) (x.args.take j)))) (fun v31 _ => x.args.length - (intOf v31).toNat)
    case atStart => exact ⟨0, Nat.zero_le _, rfl, by have h := HM2.out; show LookM _ _ _ _ _; rw [List.take_zero, show argText (fun a => L.getD a 0) [] = [] from rfl, List.append_nil]; exact h⟩
    case round =>
     obtain ⟨j, hj, rfl, hI⟩ := hrel
     by_cases hjl : j < x.args.length
     ·have HS := Tre.hid (argText_succ (cl := fun a => L.getD a 0) hjl)
      obtain ⟨y, hy, hyl⟩ := HN.out x.args[j] (List.getElem_mem hjl)
      obtain ⟨bl, ol, rfl, hv⟩ := (HA.out.below hI.out.below).at_ j (.int .i64 x.args[j]) (by rw [List.getElem?_map, List.getElem?_eq_getElem hjl]; rfl)
      have hcy := HCL.out y
      rw [hy] at hv HS
      have HYL := Tre.hid hyl
      have hdl := dec_len hcy
      have hal := argText_len (cl := fun a => L.getD a 0) HCL.out (x.args.take j)
      have htl : (x.args.take j).length ≤ j := List.length_take_le _ _
      have hns := HNS.out x.labels.length
      rw [List.take_length] at hns
      have hlen : (decDigits kn ++ x.name.data.toList ++ labText x.labels ++ argText (fun a => L.getD a 0) (x.args.take j)).length + ((⟨#[44]⟩ : ByteArray) ++ ⟨(decDigits (L.getD y 0)).toArray⟩).size ≤ 140737488355328 := by
       have e2 : ((⟨#[44]⟩ : ByteArray) ++ ⟨(decDigits (L.getD y 0)).toArray⟩).size = 1 + (decDigits (L.getD y 0)).length := by rw [ByteArray.size_append, size_mk]; rfl
       rw [e2, List.length_append, List.length_append, List.length_append, ← Lib.size_eq]; omega
      have HE : Hid (decDigits kn ++ x.name.data.toList ++ labText x.labels ++ argText (fun a => L.getD a 0) (x.args.take j) ++ ((⟨#[44]⟩ : ByteArray) ++ ⟨(decDigits (L.getD y 0)).toArray⟩).data.toList = decDigits kn ++ x.name.data.toList ++ labText x.labels ++ argText (fun a => L.getD a 0) (x.args.take (j + 1))) := by
       show _ = _; rw [HS.out, ByteArray.data_append]; simp
      have i1 : (0 : Int) ≤ (j : Int) := by omega
      have i2 : (j : Int) < (x.args.length : Int) := by omega
      have HCB := Tre.hid (hI.out.cell HBC.out)
      have HLEN := Tre.hid hlen
      have HCY := Tre.hid hcy
      clear hlen hal htl hns hy hyl l2 hcy
      go_wp2_with fail
      refine (class_any y bc ac cc L _ HCB.out HYL.out (HC.out.below hI.out.below)).mono ?_
      rintro e w3 ⟨rfl, b3⟩
      have HI3 := Tre.hid (hI.out.quiet b3)
      generalize hv : L.getD y 0 = v at *
      clear b3 hv
      go_wp2_with fail
      refine (itoa_any v _ HCY.out (HT.out.below (BX.out.trans (HI3.out.below.mono BX.out.size)))).mono ?_
      rintro e w4 ⟨rfl, b4⟩
      have HI4 := Tre.hid (HI3.out.quiet b4)
      clear b4
      go_wp2_with fail
      refine (writeString _ _ _ _ _ HI4.out.bld HLEN.out HI4.out.size).mono ?_
      rintro e w5 ⟨rfl, hb5, bq⟩
      have HM5 := Tre.hid (HI4.out.wrote hb5 bq)
      clear hb5 bq
      go_wp2_with fail
      go_roundw
      case rel => exact ⟨j + 1, by omega, by go_num, by have h := HM5.out; rw [HE.out] at h; exact h⟩
      case measure => simp [intOf]; omega
     ·have e : j = x.args.length := by omega
      have hI' := hI.out
      rw [e, List.take_length] at hI'
      have HI2 := Tre.hid hI'
      clear hI hI' e l2
      go_wp2_with fail
      refine (builderText _ _ _ _ HI2.out.bld HI2.out.size).mono ?_
      rintro e w6 ⟨rfl, b6⟩
      have HB6 := Tre.hid b6
      clear b6
      go_wp2_with fail
      go_ret
      refine ⟨by first | exact ret_str E0.out.symm | (rw [E0.out]; simp; done), BX.out.trans ?_⟩
      exact (HI2.out.below.trans HB6.out).mono BX.out.size
end Go.Proofs.YtaleodkbghogfaaGreatDoor.gr
