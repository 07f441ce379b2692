/- graph.may: whether a node may be. -/
import Derived.Test.YtlkfhbmjemjohaaGreatDoorB01
set_option linter.unusedVariables false
namespace Go.Proofs.YtlkfhbmjemjohaaGreatDoor.gr
open Go.RowKit Go.Maps Go.Tre lex

theorem zi (w : World) : (zeroValue 3).run Tryz.prog w = .ok (.int .i64 0) w := by kernel_rfl
theorem hcf1 (args : Array Value) (w : World) : (callFunc 35 args).run Tryz.prog w = .ok (.enter 35 args) w := by kernel_rfl

theorem cell_new2 (w : World) (o1 : Obj) (v : Value) (t : TypeId) (z : Nat × Nat) : ((w.alloc o1).alloc (.cells #[v] t z)).cell? ⟨w.heap.size + 1, 0, none⟩ = some v := by
 have h : ((w.alloc o1).alloc (.cells #[v] t z)).heap[w.heap.size + 1]? = some (.cells #[v] t z) := by
  have := heap_alloc_new (w.alloc o1) (.cells #[v] t z)
  rwa [World.size_alloc] at this
 simp only [World.cell?, h]; rfl
theorem cell_old2 (w : World) (cs : Array Value) (t t' : TypeId) (v : Value) (j : Nat) (u : Value) (h : cs[j]? = some u) : ((w.alloc (.cells cs t)).alloc (.cells #[v] t')).cell? ⟨w.heap.size, j, none⟩ = some u := by
 have h1 : ((w.alloc (.cells cs t)).alloc (.cells #[v] t')).heap[w.heap.size]? = some (.cells cs t) := by
  rw [Below.heap_alloc _ _ _ (by simp), heap_alloc_new]
 simp only [World.cell?, h1]; exact h
theorem after2 {w w1 : World} {o1 o2 : Obj} (b : Below ((w.alloc o1).alloc o2).heap.size ((w.alloc o1).alloc o2) w1) : Below w.heap.size w w1 :=
 (((Below.refl _ _).alloc (Nat.le_refl _) _).alloc (by simp) _).trans (b.mono (by simp; omega))
theorem after1 {w w1 : World} {o1 : Obj} (b : Below (w.alloc o1).heap.size (w.alloc o1) w1) : Below w.heap.size w w1 :=
 ((Below.refl _ _).alloc (Nat.le_refl _) _).trans (b.mono (by simp))

set_option maxHeartbeats 8000000 in
theorem may_any (n : Tre.Node) (size : Nat) (aa : Option Addr) (ca : Nat) (al : Option Addr) (cl : Nat) (bm : Nat) (w : World) (ha : IntsAt w aa n.args) (hl : StrsAt w al n.labels) (hw : n.weight ≤ 8388608)
  (hmap : MapIs Tryz.prog 9 Value.string ei w bm 6 arity) (hm : MaxAt w) :
  Calls Tryz.prog 14 #[.agg #[.int .i64 n.kind, .string n.name, .slice aa n.args.length ca, .slice al n.labels.length cl, .bool n.isOpen], .int .i64 size, .map (some bm)] w
   fun e w' => e = .returned (.bool (mayB n size)) ∧ Below w.heap.size w w' := by
 have hla : n.args.length ≤ 8388608 := by unfold Tre.Node.weight at hw; omega
 have hln : n.name.size ≤ 8388608 := by unfold Tre.Node.weight at hw; omega
 have hll : (n.labels.map fun s => s.size + 1).sum ≤ 8388608 := by unfold Tre.Node.weight at hw; omega
 have hll2 : n.labels.length ≤ 8388608 := Nat.le_trans (length_le_sum _ (fun x => by omega) _) hll
 have IA : Hid (IntsAt ((w.alloc (.cells #[.int .i64 n.kind, .string n.name, .slice aa n.args.length ca, .slice al n.labels.length cl, .bool n.isOpen] 40)).alloc (.cells #[.int .i64 size] 3)) aa n.args) := ha.below (((Below.refl _ _).alloc (Nat.le_refl _) _).alloc (by simp) _)
 have HL := Tre.hid hl
 have HW := Tre.hid hll
 have HM := Tre.hid hm
 have HK := Tre.hid hmap
 clear ha hl hw hll hm hmap
 by_cases hany : n.args.any (outside size) = true
 ·have H : Hid (mayB n size = false) := by show _ = _; unfold mayB; rw [hany]; rfl
  go_enter Tryz.func14, Tryz.ntmps14
  go_wp2_with fail
  refine (containsInts 35 #[.pointer (some ⟨w.heap.size + 1, 0, none⟩)] hcf1 (outside size) _ _ n.args _ IA.out hla (fun x wx _ hbx => may1 x size _ wx (cell_below hbx (cell_new2 w _ _ _ _)))).mono ?_
  rintro e w1 ⟨rfl, b1⟩
  have B1 := after2 b1
  have c0 := cell_below b1 (cell_old2 w _ _ _ (.int .i64 size) 0 (.int .i64 n.kind) rfl)
  have c1 := cell_below b1 (cell_old2 w _ _ _ (.int .i64 size) 1 (.string n.name) rfl)
  have c2 := cell_below b1 (cell_old2 w _ _ _ (.int .i64 size) 2 (.slice aa n.args.length ca) rfl)
  have c3 := cell_below b1 (cell_old2 w _ _ _ (.int .i64 size) 3 (.slice al n.labels.length cl) rfl)
  have c4 := cell_below b1 (cell_old2 w _ _ _ (.int .i64 size) 4 (.bool n.isOpen) rfl)
  clear b1
  go_wp2_with fail
  go_ret
  exact ⟨ret_bool H.out.symm, B1⟩
 ·have hany' : n.args.any (outside size) = false := by simpa using hany
  clear hany
  have hany := hany'
  clear hany'
  have hkinds : n.kind = 1 ∨ n.kind = 2 ∨ n.kind = 3 ∨ (n.kind ≠ 1 ∧ n.kind ≠ 2 ∧ n.kind ≠ 3) := by omega
  rcases hkinds with hkind | hkind | hkind | hkind
  ·have e_k : (n.kind == 1) = true := by rw [hkind]; rfl
   by_cases h_lab : n.labels.length = 0
   ·have e_lab : ((n.labels.length : Int) == 0) = true := by rw [h_lab]; rfl
    by_cases h_opn : n.isOpen = false
    ·have e_opn : (!n.isOpen) = true := by rw [h_opn]; rfl
     by_cases h_nam : n.name.size = 0
     ·have e_nam := emp1 h_nam
      by_cases h_arg : n.args.length = 0
      ·have e_arg : ((n.args.length : Int) == 0) = true := by rw [h_arg]; rfl
       have H : Hid (mayB n size = true) := by show _ = _; unfold mayB; simp [hany, hkind, h_lab, h_opn, h_nam, h_arg]
       clear hkind h_lab h_opn h_nam h_arg
       go_enter Tryz.func14, Tryz.ntmps14
       go_wp2_with fail
       refine (containsInts 35 #[.pointer (some ⟨w.heap.size + 1, 0, none⟩)] hcf1 (outside size) _ _ n.args _ IA.out hla (fun x wx _ hbx => may1 x size _ wx (cell_below hbx (cell_new2 w _ _ _ _)))).mono ?_
       rintro e w1 ⟨rfl, b1⟩
       have B1 := after2 b1
       have c0 := cell_below b1 (cell_old2 w _ _ _ (.int .i64 size) 0 (.int .i64 n.kind) rfl)
       have c1 := cell_below b1 (cell_old2 w _ _ _ (.int .i64 size) 1 (.string n.name) rfl)
       have c2 := cell_below b1 (cell_old2 w _ _ _ (.int .i64 size) 2 (.slice aa n.args.length ca) rfl)
       have c3 := cell_below b1 (cell_old2 w _ _ _ (.int .i64 size) 3 (.slice al n.labels.length cl) rfl)
       have c4 := cell_below b1 (cell_old2 w _ _ _ (.int .i64 size) 4 (.bool n.isOpen) rfl)
       clear b1
       go_wp2_with fail
       go_ret
       exact ⟨ret_bool H.out.symm, B1⟩
      ·have e_arg : ((n.args.length : Int) == 0) = false := beq_eq_false_iff_ne.2 (by omega)
       have H : Hid (mayB n size = false) := by show _ = _; unfold mayB; simp [hkind, h_arg]
       clear hkind h_lab h_opn h_nam h_arg
       go_enter Tryz.func14, Tryz.ntmps14
       go_wp2_with fail
       refine (containsInts 35 #[.pointer (some ⟨w.heap.size + 1, 0, none⟩)] hcf1 (outside size) _ _ n.args _ IA.out hla (fun x wx _ hbx => may1 x size _ wx (cell_below hbx (cell_new2 w _ _ _ _)))).mono ?_
       rintro e w1 ⟨rfl, b1⟩
       have B1 := after2 b1
       have c0 := cell_below b1 (cell_old2 w _ _ _ (.int .i64 size) 0 (.int .i64 n.kind) rfl)
       have c1 := cell_below b1 (cell_old2 w _ _ _ (.int .i64 size) 1 (.string n.name) rfl)
       have c2 := cell_below b1 (cell_old2 w _ _ _ (.int .i64 size) 2 (.slice aa n.args.length ca) rfl)
       have c3 := cell_below b1 (cell_old2 w _ _ _ (.int .i64 size) 3 (.slice al n.labels.length cl) rfl)
       have c4 := cell_below b1 (cell_old2 w _ _ _ (.int .i64 size) 4 (.bool n.isOpen) rfl)
       clear b1
       go_wp2_with fail
       go_ret
       exact ⟨ret_bool H.out.symm, B1⟩
     ·have e_nam := emp0 h_nam
      have H : Hid (mayB n size = false) := by show _ = _; unfold mayB; simp [hkind, h_nam]
      clear hkind h_lab h_opn h_nam
      go_enter Tryz.func14, Tryz.ntmps14
      go_wp2_with fail
      refine (containsInts 35 #[.pointer (some ⟨w.heap.size + 1, 0, none⟩)] hcf1 (outside size) _ _ n.args _ IA.out hla (fun x wx _ hbx => may1 x size _ wx (cell_below hbx (cell_new2 w _ _ _ _)))).mono ?_
      rintro e w1 ⟨rfl, b1⟩
      have B1 := after2 b1
      have c0 := cell_below b1 (cell_old2 w _ _ _ (.int .i64 size) 0 (.int .i64 n.kind) rfl)
      have c1 := cell_below b1 (cell_old2 w _ _ _ (.int .i64 size) 1 (.string n.name) rfl)
      have c2 := cell_below b1 (cell_old2 w _ _ _ (.int .i64 size) 2 (.slice aa n.args.length ca) rfl)
      have c3 := cell_below b1 (cell_old2 w _ _ _ (.int .i64 size) 3 (.slice al n.labels.length cl) rfl)
      have c4 := cell_below b1 (cell_old2 w _ _ _ (.int .i64 size) 4 (.bool n.isOpen) rfl)
      clear b1
      go_wp2_with fail
      go_ret
      exact ⟨ret_bool H.out.symm, B1⟩
    ·have h_opn2 : n.isOpen = true := by simpa using h_opn
     have e_opn : (!n.isOpen) = false := by rw [h_opn2]; rfl
     clear h_opn2
     have H : Hid (mayB n size = false) := by show _ = _; unfold mayB; simp [hkind, h_opn]
     clear hkind h_lab h_opn
     go_enter Tryz.func14, Tryz.ntmps14
     go_wp2_with fail
     refine (containsInts 35 #[.pointer (some ⟨w.heap.size + 1, 0, none⟩)] hcf1 (outside size) _ _ n.args _ IA.out hla (fun x wx _ hbx => may1 x size _ wx (cell_below hbx (cell_new2 w _ _ _ _)))).mono ?_
     rintro e w1 ⟨rfl, b1⟩
     have B1 := after2 b1
     have c0 := cell_below b1 (cell_old2 w _ _ _ (.int .i64 size) 0 (.int .i64 n.kind) rfl)
     have c1 := cell_below b1 (cell_old2 w _ _ _ (.int .i64 size) 1 (.string n.name) rfl)
     have c2 := cell_below b1 (cell_old2 w _ _ _ (.int .i64 size) 2 (.slice aa n.args.length ca) rfl)
     have c3 := cell_below b1 (cell_old2 w _ _ _ (.int .i64 size) 3 (.slice al n.labels.length cl) rfl)
     have c4 := cell_below b1 (cell_old2 w _ _ _ (.int .i64 size) 4 (.bool n.isOpen) rfl)
     clear b1
     go_wp2_with fail
     go_ret
     exact ⟨ret_bool H.out.symm, B1⟩
   ·have e_lab : ((n.labels.length : Int) == 0) = false := beq_eq_false_iff_ne.2 (by omega)
    have H : Hid (mayB n size = false) := by show _ = _; unfold mayB; simp [hkind, h_lab]
    clear hkind h_lab
    go_enter Tryz.func14, Tryz.ntmps14
    go_wp2_with fail
    refine (containsInts 35 #[.pointer (some ⟨w.heap.size + 1, 0, none⟩)] hcf1 (outside size) _ _ n.args _ IA.out hla (fun x wx _ hbx => may1 x size _ wx (cell_below hbx (cell_new2 w _ _ _ _)))).mono ?_
    rintro e w1 ⟨rfl, b1⟩
    have B1 := after2 b1
    have c0 := cell_below b1 (cell_old2 w _ _ _ (.int .i64 size) 0 (.int .i64 n.kind) rfl)
    have c1 := cell_below b1 (cell_old2 w _ _ _ (.int .i64 size) 1 (.string n.name) rfl)
    have c2 := cell_below b1 (cell_old2 w _ _ _ (.int .i64 size) 2 (.slice aa n.args.length ca) rfl)
    have c3 := cell_below b1 (cell_old2 w _ _ _ (.int .i64 size) 3 (.slice al n.labels.length cl) rfl)
    have c4 := cell_below b1 (cell_old2 w _ _ _ (.int .i64 size) 4 (.bool n.isOpen) rfl)
    clear b1
    go_wp2_with fail
    go_ret
    exact ⟨ret_bool H.out.symm, B1⟩
  ·have e_k : (n.kind == 2) = true := by rw [hkind]; rfl
   have e_k1 : (n.kind == 1) = false := by rw [hkind]; rfl
   by_cases h_lab : n.labels.length = 0
   ·have e_lab : ((n.labels.length : Int) == 0) = true := by rw [h_lab]; rfl
    by_cases h_opn : n.isOpen = false
    ·have e_opn : (!n.isOpen) = true := by rw [h_opn]; rfl
     cases hk : arity n.name with
     | none =>
      have H : Hid (mayB n size = false) := by show _ = _; unfold mayB; simp [hkind, hk]
      have HKK := Tre.hid hk
      clear hkind hk h_lab h_opn
      go_enter Tryz.func14, Tryz.ntmps14
      go_wp2_with fail
      refine (containsInts 35 #[.pointer (some ⟨w.heap.size + 1, 0, none⟩)] hcf1 (outside size) _ _ n.args _ IA.out hla (fun x wx _ hbx => may1 x size _ wx (cell_below hbx (cell_new2 w _ _ _ _)))).mono ?_
      rintro e w1 ⟨rfl, b1⟩
      have B1 := after2 b1
      have c0 := cell_below b1 (cell_old2 w _ _ _ (.int .i64 size) 0 (.int .i64 n.kind) rfl)
      have c1 := cell_below b1 (cell_old2 w _ _ _ (.int .i64 size) 1 (.string n.name) rfl)
      have c2 := cell_below b1 (cell_old2 w _ _ _ (.int .i64 size) 2 (.slice aa n.args.length ca) rfl)
      have c3 := cell_below b1 (cell_old2 w _ _ _ (.int .i64 size) 3 (.slice al n.labels.length cl) rfl)
      have c4 := cell_below b1 (cell_old2 w _ _ _ (.int .i64 size) 4 (.bool n.isOpen) rfl)
      clear b1
      have mm := HK.out.block (w' := w1) (B1.block _ HK.out.lt)
      go_wp2_with (refine wpList_look_none rfl _ _ 44 rfl 3 K inj Tryz.underlying44 (zi _) rfl mm n.name rfl (ky _ (by unfold maxLen; omega)) HKK.out ?_)
      go_ret
      exact ⟨ret_bool H.out.symm, B1⟩
     | some m =>
      have HKK := Tre.hid hk
      by_cases hal : (n.args.length : Int) = m
      ·have H : Hid (mayB n size = true) := by show _ = _; unfold mayB; simp [hany, hkind, hk, hal, h_lab, h_opn]
       have e_al : ((n.args.length : Int) == m) = true := by rw [hal]; simp
       clear hkind hk hal h_lab h_opn
       go_enter Tryz.func14, Tryz.ntmps14
       go_wp2_with fail
       refine (containsInts 35 #[.pointer (some ⟨w.heap.size + 1, 0, none⟩)] hcf1 (outside size) _ _ n.args _ IA.out hla (fun x wx _ hbx => may1 x size _ wx (cell_below hbx (cell_new2 w _ _ _ _)))).mono ?_
       rintro e w1 ⟨rfl, b1⟩
       have B1 := after2 b1
       have c0 := cell_below b1 (cell_old2 w _ _ _ (.int .i64 size) 0 (.int .i64 n.kind) rfl)
       have c1 := cell_below b1 (cell_old2 w _ _ _ (.int .i64 size) 1 (.string n.name) rfl)
       have c2 := cell_below b1 (cell_old2 w _ _ _ (.int .i64 size) 2 (.slice aa n.args.length ca) rfl)
       have c3 := cell_below b1 (cell_old2 w _ _ _ (.int .i64 size) 3 (.slice al n.labels.length cl) rfl)
       have c4 := cell_below b1 (cell_old2 w _ _ _ (.int .i64 size) 4 (.bool n.isOpen) rfl)
       clear b1
       have mm := HK.out.block (w' := w1) (B1.block _ HK.out.lt)
       go_wp2_with (refine wpList_look_some rfl _ _ 44 rfl 3 K inj Tryz.underlying44 (zi _) rfl mm n.name rfl (ky _ (by unfold maxLen; omega)) m HKK.out ?_)
       go_ret
       exact ⟨ret_bool H.out.symm, B1⟩
      ·have H : Hid (mayB n size = false) := by show _ = _; unfold mayB; simp [hkind, hk, hal]
       have e_al : ((n.args.length : Int) == m) = false := beq_eq_false_iff_ne.2 hal
       clear hkind hk hal h_lab h_opn
       go_enter Tryz.func14, Tryz.ntmps14
       go_wp2_with fail
       refine (containsInts 35 #[.pointer (some ⟨w.heap.size + 1, 0, none⟩)] hcf1 (outside size) _ _ n.args _ IA.out hla (fun x wx _ hbx => may1 x size _ wx (cell_below hbx (cell_new2 w _ _ _ _)))).mono ?_
       rintro e w1 ⟨rfl, b1⟩
       have B1 := after2 b1
       have c0 := cell_below b1 (cell_old2 w _ _ _ (.int .i64 size) 0 (.int .i64 n.kind) rfl)
       have c1 := cell_below b1 (cell_old2 w _ _ _ (.int .i64 size) 1 (.string n.name) rfl)
       have c2 := cell_below b1 (cell_old2 w _ _ _ (.int .i64 size) 2 (.slice aa n.args.length ca) rfl)
       have c3 := cell_below b1 (cell_old2 w _ _ _ (.int .i64 size) 3 (.slice al n.labels.length cl) rfl)
       have c4 := cell_below b1 (cell_old2 w _ _ _ (.int .i64 size) 4 (.bool n.isOpen) rfl)
       clear b1
       have mm := HK.out.block (w' := w1) (B1.block _ HK.out.lt)
       go_wp2_with (refine wpList_look_some rfl _ _ 44 rfl 3 K inj Tryz.underlying44 (zi _) rfl mm n.name rfl (ky _ (by unfold maxLen; omega)) m HKK.out ?_)
       go_ret
       exact ⟨ret_bool H.out.symm, B1⟩
    ·have h_opn2 : n.isOpen = true := by simpa using h_opn
     have e_opn : (!n.isOpen) = false := by rw [h_opn2]; rfl
     clear h_opn2
     have H : Hid (mayB n size = false) := by show _ = _; unfold mayB; simp [hkind, h_opn]
     clear hkind h_lab h_opn
     go_enter Tryz.func14, Tryz.ntmps14
     go_wp2_with fail
     refine (containsInts 35 #[.pointer (some ⟨w.heap.size + 1, 0, none⟩)] hcf1 (outside size) _ _ n.args _ IA.out hla (fun x wx _ hbx => may1 x size _ wx (cell_below hbx (cell_new2 w _ _ _ _)))).mono ?_
     rintro e w1 ⟨rfl, b1⟩
     have B1 := after2 b1
     have c0 := cell_below b1 (cell_old2 w _ _ _ (.int .i64 size) 0 (.int .i64 n.kind) rfl)
     have c1 := cell_below b1 (cell_old2 w _ _ _ (.int .i64 size) 1 (.string n.name) rfl)
     have c2 := cell_below b1 (cell_old2 w _ _ _ (.int .i64 size) 2 (.slice aa n.args.length ca) rfl)
     have c3 := cell_below b1 (cell_old2 w _ _ _ (.int .i64 size) 3 (.slice al n.labels.length cl) rfl)
     have c4 := cell_below b1 (cell_old2 w _ _ _ (.int .i64 size) 4 (.bool n.isOpen) rfl)
     clear b1
     have mm := HK.out.block (w' := w1) (B1.block _ HK.out.lt)
     go_wp2_with (refine wpList_look_ok rfl _ _ 44 rfl 3 K inj Tryz.underlying44 (zi _) rfl mm n.name rfl (ky _ (by unfold maxLen; omega)) ?_)
     go_ret
     exact ⟨ret_bool H.out.symm, B1⟩
   ·have e_lab : ((n.labels.length : Int) == 0) = false := beq_eq_false_iff_ne.2 (by omega)
    have H : Hid (mayB n size = false) := by show _ = _; unfold mayB; simp [hkind, h_lab]
    clear hkind h_lab
    go_enter Tryz.func14, Tryz.ntmps14
    go_wp2_with fail
    refine (containsInts 35 #[.pointer (some ⟨w.heap.size + 1, 0, none⟩)] hcf1 (outside size) _ _ n.args _ IA.out hla (fun x wx _ hbx => may1 x size _ wx (cell_below hbx (cell_new2 w _ _ _ _)))).mono ?_
    rintro e w1 ⟨rfl, b1⟩
    have B1 := after2 b1
    have c0 := cell_below b1 (cell_old2 w _ _ _ (.int .i64 size) 0 (.int .i64 n.kind) rfl)
    have c1 := cell_below b1 (cell_old2 w _ _ _ (.int .i64 size) 1 (.string n.name) rfl)
    have c2 := cell_below b1 (cell_old2 w _ _ _ (.int .i64 size) 2 (.slice aa n.args.length ca) rfl)
    have c3 := cell_below b1 (cell_old2 w _ _ _ (.int .i64 size) 3 (.slice al n.labels.length cl) rfl)
    have c4 := cell_below b1 (cell_old2 w _ _ _ (.int .i64 size) 4 (.bool n.isOpen) rfl)
    clear b1
    have mm := HK.out.block (w' := w1) (B1.block _ HK.out.lt)
    go_wp2_with (refine wpList_look_ok rfl _ _ 44 rfl 3 K inj Tryz.underlying44 (zi _) rfl mm n.name rfl (ky _ (by unfold maxLen; omega)) ?_)
    go_ret
    exact ⟨ret_bool H.out.symm, B1⟩
  ·have e_k : (n.kind == 3) = true := by rw [hkind]; rfl
   have e_k1 : (n.kind == 1) = false := by rw [hkind]; rfl
   have e_k2 : (n.kind == 2) = false := by rw [hkind]; rfl
   by_cases h_lab : n.labels.length = 0
   ·have e_lab : ((n.labels.length : Int) == 0) = true := by rw [h_lab]; rfl
    clear h_lab
    by_cases h_nam : n.name.size = 0
    ·have e_nam := emp1 h_nam
     by_cases h_len : n.labels.length = n.args.length
     ·have e_len : ((n.labels.length : Int) == (n.args.length : Int)) = true := by rw [h_len]; simp
      have H : Hid (mayB n size = rising n.labels) := by show _ = _; unfold mayB; simp [hany, hkind, h_nam, h_len]
      clear hkind h_nam h_len
      go_enter Tryz.func14, Tryz.ntmps14
      go_wp2_with fail
      refine (containsInts 35 #[.pointer (some ⟨w.heap.size + 1, 0, none⟩)] hcf1 (outside size) _ _ n.args _ IA.out hla (fun x wx _ hbx => may1 x size _ wx (cell_below hbx (cell_new2 w _ _ _ _)))).mono ?_
      rintro e w1 ⟨rfl, b1⟩
      have B1 := after2 b1
      have c0 := cell_below b1 (cell_old2 w _ _ _ (.int .i64 size) 0 (.int .i64 n.kind) rfl)
      have c1 := cell_below b1 (cell_old2 w _ _ _ (.int .i64 size) 1 (.string n.name) rfl)
      have c2 := cell_below b1 (cell_old2 w _ _ _ (.int .i64 size) 2 (.slice aa n.args.length ca) rfl)
      have c3 := cell_below b1 (cell_old2 w _ _ _ (.int .i64 size) 3 (.slice al n.labels.length cl) rfl)
      have c4 := cell_below b1 (cell_old2 w _ _ _ (.int .i64 size) 4 (.bool n.isOpen) rfl)
      clear b1
      go_wp2_with fail
      refine (rising_any _ _ n.labels _ (HL.out.below B1) HW.out (HM.out.below B1)).mono ?_
      rintro e w2 ⟨rfl, rfl⟩
      go_wp2_with fail
      go_ret
      exact ⟨ret_bool H.out.symm, B1⟩
     ·have e_len : ((n.labels.length : Int) == (n.args.length : Int)) = false := beq_eq_false_iff_ne.2 (by omega)
      have H : Hid (mayB n size = false) := by show _ = _; unfold mayB; simp [hkind, h_len]
      clear hkind h_nam h_len
      go_enter Tryz.func14, Tryz.ntmps14
      go_wp2_with fail
      refine (containsInts 35 #[.pointer (some ⟨w.heap.size + 1, 0, none⟩)] hcf1 (outside size) _ _ n.args _ IA.out hla (fun x wx _ hbx => may1 x size _ wx (cell_below hbx (cell_new2 w _ _ _ _)))).mono ?_
      rintro e w1 ⟨rfl, b1⟩
      have B1 := after2 b1
      have c0 := cell_below b1 (cell_old2 w _ _ _ (.int .i64 size) 0 (.int .i64 n.kind) rfl)
      have c1 := cell_below b1 (cell_old2 w _ _ _ (.int .i64 size) 1 (.string n.name) rfl)
      have c2 := cell_below b1 (cell_old2 w _ _ _ (.int .i64 size) 2 (.slice aa n.args.length ca) rfl)
      have c3 := cell_below b1 (cell_old2 w _ _ _ (.int .i64 size) 3 (.slice al n.labels.length cl) rfl)
      have c4 := cell_below b1 (cell_old2 w _ _ _ (.int .i64 size) 4 (.bool n.isOpen) rfl)
      clear b1
      go_wp2_with fail
      go_ret
      exact ⟨ret_bool H.out.symm, B1⟩
    ·have e_nam := emp0 h_nam
     have H : Hid (mayB n size = false) := by show _ = _; unfold mayB; simp [hkind, h_nam]
     clear hkind h_nam
     go_enter Tryz.func14, Tryz.ntmps14
     go_wp2_with fail
     refine (containsInts 35 #[.pointer (some ⟨w.heap.size + 1, 0, none⟩)] hcf1 (outside size) _ _ n.args _ IA.out hla (fun x wx _ hbx => may1 x size _ wx (cell_below hbx (cell_new2 w _ _ _ _)))).mono ?_
     rintro e w1 ⟨rfl, b1⟩
     have B1 := after2 b1
     have c0 := cell_below b1 (cell_old2 w _ _ _ (.int .i64 size) 0 (.int .i64 n.kind) rfl)
     have c1 := cell_below b1 (cell_old2 w _ _ _ (.int .i64 size) 1 (.string n.name) rfl)
     have c2 := cell_below b1 (cell_old2 w _ _ _ (.int .i64 size) 2 (.slice aa n.args.length ca) rfl)
     have c3 := cell_below b1 (cell_old2 w _ _ _ (.int .i64 size) 3 (.slice al n.labels.length cl) rfl)
     have c4 := cell_below b1 (cell_old2 w _ _ _ (.int .i64 size) 4 (.bool n.isOpen) rfl)
     clear b1
     go_wp2_with fail
     go_ret
     exact ⟨ret_bool H.out.symm, B1⟩
   ·have e_lab : ((n.labels.length : Int) == 0) = false := beq_eq_false_iff_ne.2 (by omega)
    clear h_lab
    by_cases h_nam : n.name.size = 0
    ·have e_nam := emp1 h_nam
     by_cases h_len : n.labels.length = n.args.length
     ·have e_len : ((n.labels.length : Int) == (n.args.length : Int)) = true := by rw [h_len]; simp
      have H : Hid (mayB n size = rising n.labels) := by show _ = _; unfold mayB; simp [hany, hkind, h_nam, h_len]
      clear hkind h_nam h_len
      go_enter Tryz.func14, Tryz.ntmps14
      go_wp2_with fail
      refine (containsInts 35 #[.pointer (some ⟨w.heap.size + 1, 0, none⟩)] hcf1 (outside size) _ _ n.args _ IA.out hla (fun x wx _ hbx => may1 x size _ wx (cell_below hbx (cell_new2 w _ _ _ _)))).mono ?_
      rintro e w1 ⟨rfl, b1⟩
      have B1 := after2 b1
      have c0 := cell_below b1 (cell_old2 w _ _ _ (.int .i64 size) 0 (.int .i64 n.kind) rfl)
      have c1 := cell_below b1 (cell_old2 w _ _ _ (.int .i64 size) 1 (.string n.name) rfl)
      have c2 := cell_below b1 (cell_old2 w _ _ _ (.int .i64 size) 2 (.slice aa n.args.length ca) rfl)
      have c3 := cell_below b1 (cell_old2 w _ _ _ (.int .i64 size) 3 (.slice al n.labels.length cl) rfl)
      have c4 := cell_below b1 (cell_old2 w _ _ _ (.int .i64 size) 4 (.bool n.isOpen) rfl)
      clear b1
      go_wp2_with fail
      refine (rising_any _ _ n.labels _ (HL.out.below B1) HW.out (HM.out.below B1)).mono ?_
      rintro e w2 ⟨rfl, rfl⟩
      go_wp2_with fail
      go_ret
      exact ⟨ret_bool H.out.symm, B1⟩
     ·have e_len : ((n.labels.length : Int) == (n.args.length : Int)) = false := beq_eq_false_iff_ne.2 (by omega)
      have H : Hid (mayB n size = false) := by show _ = _; unfold mayB; simp [hkind, h_len]
      clear hkind h_nam h_len
      go_enter Tryz.func14, Tryz.ntmps14
      go_wp2_with fail
      refine (containsInts 35 #[.pointer (some ⟨w.heap.size + 1, 0, none⟩)] hcf1 (outside size) _ _ n.args _ IA.out hla (fun x wx _ hbx => may1 x size _ wx (cell_below hbx (cell_new2 w _ _ _ _)))).mono ?_
      rintro e w1 ⟨rfl, b1⟩
      have B1 := after2 b1
      have c0 := cell_below b1 (cell_old2 w _ _ _ (.int .i64 size) 0 (.int .i64 n.kind) rfl)
      have c1 := cell_below b1 (cell_old2 w _ _ _ (.int .i64 size) 1 (.string n.name) rfl)
      have c2 := cell_below b1 (cell_old2 w _ _ _ (.int .i64 size) 2 (.slice aa n.args.length ca) rfl)
      have c3 := cell_below b1 (cell_old2 w _ _ _ (.int .i64 size) 3 (.slice al n.labels.length cl) rfl)
      have c4 := cell_below b1 (cell_old2 w _ _ _ (.int .i64 size) 4 (.bool n.isOpen) rfl)
      clear b1
      go_wp2_with fail
      go_ret
      exact ⟨ret_bool H.out.symm, B1⟩
    ·have e_nam := emp0 h_nam
     have H : Hid (mayB n size = false) := by show _ = _; unfold mayB; simp [hkind, h_nam]
     clear hkind h_nam
     go_enter Tryz.func14, Tryz.ntmps14
     go_wp2_with fail
     refine (containsInts 35 #[.pointer (some ⟨w.heap.size + 1, 0, none⟩)] hcf1 (outside size) _ _ n.args _ IA.out hla (fun x wx _ hbx => may1 x size _ wx (cell_below hbx (cell_new2 w _ _ _ _)))).mono ?_
     rintro e w1 ⟨rfl, b1⟩
     have B1 := after2 b1
     have c0 := cell_below b1 (cell_old2 w _ _ _ (.int .i64 size) 0 (.int .i64 n.kind) rfl)
     have c1 := cell_below b1 (cell_old2 w _ _ _ (.int .i64 size) 1 (.string n.name) rfl)
     have c2 := cell_below b1 (cell_old2 w _ _ _ (.int .i64 size) 2 (.slice aa n.args.length ca) rfl)
     have c3 := cell_below b1 (cell_old2 w _ _ _ (.int .i64 size) 3 (.slice al n.labels.length cl) rfl)
     have c4 := cell_below b1 (cell_old2 w _ _ _ (.int .i64 size) 4 (.bool n.isOpen) rfl)
     clear b1
     go_wp2_with fail
     go_ret
     exact ⟨ret_bool H.out.symm, B1⟩
  ·have H : Hid (mayB n size = false) := by show _ = _; unfold mayB; simp [hkind.1, hkind.2.1, hkind.2.2]
   have e_k1 : (n.kind == 1) = false := beq_eq_false_iff_ne.2 hkind.1
   have e_k2 : (n.kind == 2) = false := beq_eq_false_iff_ne.2 hkind.2.1
   have e_k3 : (n.kind == 3) = false := beq_eq_false_iff_ne.2 hkind.2.2
   clear hkind
   by_cases h_lab : n.labels.length = 0
   ·have e_lab : ((n.labels.length : Int) == 0) = true := by rw [h_lab]; rfl
    clear h_lab
    go_enter Tryz.func14, Tryz.ntmps14
    go_wp2_with fail
    refine (containsInts 35 #[.pointer (some ⟨w.heap.size + 1, 0, none⟩)] hcf1 (outside size) _ _ n.args _ IA.out hla (fun x wx _ hbx => may1 x size _ wx (cell_below hbx (cell_new2 w _ _ _ _)))).mono ?_
    rintro e w1 ⟨rfl, b1⟩
    have B1 := after2 b1
    have c0 := cell_below b1 (cell_old2 w _ _ _ (.int .i64 size) 0 (.int .i64 n.kind) rfl)
    have c1 := cell_below b1 (cell_old2 w _ _ _ (.int .i64 size) 1 (.string n.name) rfl)
    have c2 := cell_below b1 (cell_old2 w _ _ _ (.int .i64 size) 2 (.slice aa n.args.length ca) rfl)
    have c3 := cell_below b1 (cell_old2 w _ _ _ (.int .i64 size) 3 (.slice al n.labels.length cl) rfl)
    have c4 := cell_below b1 (cell_old2 w _ _ _ (.int .i64 size) 4 (.bool n.isOpen) rfl)
    clear b1
    go_wp2_with fail
    go_ret
    exact ⟨ret_bool H.out.symm, B1⟩
   ·have e_lab : ((n.labels.length : Int) == 0) = false := beq_eq_false_iff_ne.2 (by omega)
    clear h_lab
    go_enter Tryz.func14, Tryz.ntmps14
    go_wp2_with fail
    refine (containsInts 35 #[.pointer (some ⟨w.heap.size + 1, 0, none⟩)] hcf1 (outside size) _ _ n.args _ IA.out hla (fun x wx _ hbx => may1 x size _ wx (cell_below hbx (cell_new2 w _ _ _ _)))).mono ?_
    rintro e w1 ⟨rfl, b1⟩
    have B1 := after2 b1
    have c0 := cell_below b1 (cell_old2 w _ _ _ (.int .i64 size) 0 (.int .i64 n.kind) rfl)
    have c1 := cell_below b1 (cell_old2 w _ _ _ (.int .i64 size) 1 (.string n.name) rfl)
    have c2 := cell_below b1 (cell_old2 w _ _ _ (.int .i64 size) 2 (.slice aa n.args.length ca) rfl)
    have c3 := cell_below b1 (cell_old2 w _ _ _ (.int .i64 size) 3 (.slice al n.labels.length cl) rfl)
    have c4 := cell_below b1 (cell_old2 w _ _ _ (.int .i64 size) 4 (.bool n.isOpen) rfl)
    clear b1
    go_wp2_with fail
    go_ret
    exact ⟨ret_bool H.out.symm, B1⟩
end Go.Proofs.YtlkfhbmjemjohaaGreatDoor.gr
