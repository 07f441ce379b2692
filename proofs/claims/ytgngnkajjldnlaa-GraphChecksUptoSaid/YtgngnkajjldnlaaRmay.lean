/- The reference's may and Check. -/
import Derived.Test.YtgngnkajjldnlaaRefg
import Derived.Test.YtgngnkajjldnlaaRefk
import Derived.Test.YtgngnkajjldnlaaSama
namespace Go.Tre
theorem name_list {s : ByteArray} {l : List UInt8} : s.toList = l ↔ s = ⟨l.toArray⟩ := by
  rw [ByteArray.toList_eq]
  constructor
  · rintro rfl; cases s; simp
  · rintro rfl; simp
theorem arity_other {s : ByteArray} (h1 : ¬ s.toList = [45, 62]) (h2 : ¬ s.toList = [42]) (h3 : ¬ s.toList = [105, 110, 116]) (h4 : ¬ s.toList = [98, 111, 111, 108]) (h5 : ¬ s.toList = [115, 116, 114, 105, 110, 103]) (h6 : ¬ s.toList = [117, 110, 105, 116]) : arity s = none := by
  rw [name_list] at h1 h2 h3 h4 h5 h6
  unfold arity upd
  simp [h1, h2, h3, h4, h5, h6]
end Go.Tre
namespace Go.Proofs.Ytgngnkajjldnlaa.gr
open Go.RowKit Go.Shelf Go.Maps Go.Tre lex

set_option maxRecDepth 100000 in
set_option maxHeartbeats 8000000 in
theorem refMay (n : Tre.Node) (size : Nat) (aa : Option Addr) (ca : Nat) (al : Option Addr) (cl : Nat) (w : World) (ha : IntsAt w aa n.args) (hl : StrsAt w al n.labels) (hw : n.weight ≤ 8388608) (_hs : size ≤ 8388608) :
    Calls Try.prog 35 #[nodeVal n aa ca al cl, .int .i64 size] w fun e w' => e = .returned (.bool (mayB n size)) ∧ Below w.heap.size w w' := by
  have M := (Mem.nil w).allocR #[.int .i64 n.kind, .string n.name, .slice aa n.args.length ca, .slice al n.labels.length cl, .bool n.isOpen] 33
  have h1 := args_len n
  have h2 := labels_len n
  have h3 : (n.labels.map fun s => s.size + 1).sum ≤ 8388608 := by unfold Tre.Node.weight at hw; omega
  have ha' : n.args.length ≤ 8388608 := by omega
  have hl' : n.labels.length ≤ 8388608 := by omega
  have HA := Tre.hid (ha.below M.below)
  have HL := Tre.hid (hl.below M.below)
  have HM0 := Tre.hid M.below
  have HSZ := Tre.hid h3
  clear M ha hl h1 h2 h3 hw
  go_enter Try.func35, Try.ntmps35
  go_wp2_with fail
  go_loop [12] (fun v12 => ∃ k : Nat, k ≤ n.args.length ∧ v12 = .int .i64 k ∧ Hid (∀ j (hj : j < n.args.length), j < k → outside size n.args[j] = false)) (fun v12 => n.args.length - (intOf v12).toNat)
  case atStart => exact ⟨0, Nat.zero_le _, rfl, fun j _ h => by omega⟩
  case round =>
    obtain ⟨k, hk, rfl, hr⟩ := hrel
    by_cases hlt : k < n.args.length
    · obtain ⟨b, off, rfl, hc⟩ := HA.out.at_ k (.int .i64 n.args[k]) (by rw [List.getElem?_map, List.getElem?_eq_getElem hlt]; rfl)
      have hno : outside size n.args[k] = true → mayB n size = false := fun h => by
        unfold mayB
        rw [List.any_eq_true.2 ⟨_, List.getElem_mem hlt, h⟩]; rfl
      have hout : outside size n.args[k] = (decide (n.args[k] < 0) || decide ((size : Int) ≤ n.args[k])) := rfl
      have HNO := Tre.hid hno
      have HOU := Tre.hid hout
      have HX : Hid (∀ x, n.args[k] = x → ∀ j (hj : j < n.args.length), j = k → outside size n.args[j] = outside size x) := fun x e j hj e' => by subst e'; rw [e]
      generalize hx : n.args[k] = x at *
      have HXX := Tre.hid hx
      clear hno hout hx
      by_cases c0 : x < 0
      · have HO : Hid (mayB n size = false) := HNO.out (by rw [HOU.out]; simp [c0])
        go_wp2_with fail
        go_ret
        exact ⟨ret_bool HO.out.symm, (Below.refl _ _).alloc (Nat.le_refl _) _⟩
      · by_cases c1 : (size : Int) ≤ x
        · have HO : Hid (mayB n size = false) := HNO.out (by rw [HOU.out]; simp [c1])
          go_wp2_with fail
          go_ret
          exact ⟨ret_bool HO.out.symm, (Below.refl _ _).alloc (Nat.le_refl _) _⟩
        · have HO : Hid (outside size x = false) := by show _ = _; rw [HOU.out]; simp; omega
          go_wp2_with fail
          go_round
          case rel =>
            refine ⟨k + 1, by omega, by go_num, fun j hj hjk => ?_⟩
            by_cases e : j = k
            · rw [HX.out x rfl j hj e]; exact HO.out
            · exact hr.out j hj (by omega)
          case measure => simp [intOf]; omega
    · have HAN : Hid (n.args.any (outside size) = false) := by
        show _ = _
        rw [List.any_eq_false]
        intro x hx
        obtain ⟨j, hj, rfl⟩ := List.getElem_of_mem hx
        rw [hr.out j hj (by omega)]; simp
      clear hr
      by_cases k1 : n.kind = 1
      · have e1 : (n.kind == 1) = true := by rw [k1]; rfl
        by_cases q1 : n.name.size = 0
        · have x1 := emp1 q1
          by_cases q2 : n.args.length = 0
          · have x2 : ((n.args.length : Int) == 0) = true := by rw [q2]; rfl
            by_cases q3 : n.labels.length = 0
            · have x3 : ((n.labels.length : Int) == 0) = true := by rw [q3]; rfl
              have H : Hid (mayB n size = !n.isOpen) := by
                show _ = _; unfold mayB; rw [HAN.out]; simp [k1, q1, List.eq_nil_of_length_eq_zero q2, List.eq_nil_of_length_eq_zero q3]
              clear k1 q1 q2 q3
              go_wp2_with fail
              go_ret
              exact ⟨ret_bool H.out.symm, (Below.refl _ _).alloc (Nat.le_refl _) _⟩
            · have x3 : ((n.labels.length : Int) == 0) = false := beq_eq_false_iff_ne.2 (by omega)
              have q3n : ¬ n.labels = [] := fun e => q3 (by rw [e]; rfl)
              have H : Hid (mayB n size = false) := by
                show _ = _; unfold mayB; rw [HAN.out]; simp [k1, q3n]
              clear k1 q1 q2 q3 q3n
              go_wp2_with fail
              go_ret
              exact ⟨ret_bool H.out.symm, (Below.refl _ _).alloc (Nat.le_refl _) _⟩
          · have x2 : ((n.args.length : Int) == 0) = false := beq_eq_false_iff_ne.2 (by omega)
            have q2n : ¬ n.args = [] := fun e => q2 (by rw [e]; rfl)
            have H : Hid (mayB n size = false) := by
              show _ = _; unfold mayB; rw [HAN.out]; simp [k1, q2n]
            clear k1 q1 q2 q2n
            go_wp2_with fail
            go_ret
            exact ⟨ret_bool H.out.symm, (Below.refl _ _).alloc (Nat.le_refl _) _⟩
        · have x1 := emp0 q1
          have H : Hid (mayB n size = false) := by
            show _ = _; unfold mayB; rw [HAN.out]; simp [k1, q1]
          clear k1 q1
          go_wp2_with fail
          go_ret
          exact ⟨ret_bool H.out.symm, (Below.refl _ _).alloc (Nat.le_refl _) _⟩
      have e1 : (n.kind == 1) = false := beq_eq_false_iff_ne.2 k1
      by_cases k2 : n.kind = 2
      · have e2 : (n.kind == 2) = true := by rw [k2]; rfl
        by_cases q3 : (0 : Int) < (n.labels.length : Int)
        · have q3d : decide ((0 : Int) < (n.labels.length : Int)) = true := by rw [decide_eq_true_iff]; exact q3
          have q3' : ¬ n.labels = [] := fun e => by rw [e] at q3; simp at q3
          have H : Hid (mayB n size = false) := by
            show _ = _; unfold mayB; rw [HAN.out]; simp [k2, q3']
          clear k1 k2
          go_wp2_with fail
          go_ret
          exact ⟨ret_bool H.out.symm, (Below.refl _ _).alloc (Nat.le_refl _) _⟩
        have q3d : decide ((0 : Int) < (n.labels.length : Int)) = false := by rw [decide_eq_false_iff_not]; exact q3
        have q3t : (n.labels = []) = True := eq_true (List.eq_nil_of_length_eq_zero (by omega))
        have q3h : Hid (n.labels = []) := List.eq_nil_of_length_eq_zero (by omega)
        cases ho : n.isOpen with
        | true =>
          have H : Hid (mayB n size = false) := by
            show _ = _; unfold mayB; rw [HAN.out]; simp [k2, ho]
          clear k1 k2
          go_wp2_with fail
          go_ret
          exact ⟨ret_bool H.out.symm, (Below.refl _ _).alloc (Nat.le_refl _) _⟩
        | false =>
          by_cases n0 : n.name.toList = [45, 62]
          · have y0 : (n.name.toList == [45, 62]) = true := by rw [n0]; rfl
            have ar : arity n.name = some 2 := by rw [name_list.1 n0]; decide +kernel
            by_cases q2 : n.args.length = 2
            · have x2 : ((n.args.length : Int) == 2) = true := by rw [q2]; rfl
              have H : Hid (mayB n size = true) := by
                show _ = _; unfold mayB; rw [HAN.out]; simp [k2, q3h.out, ho, ar, q2]
              clear k1 k2 ar q2
              go_wp2_with fail
              go_ret
              exact ⟨ret_bool H.out.symm, (Below.refl _ _).alloc (Nat.le_refl _) _⟩
            · have x2 : ((n.args.length : Int) == 2) = false := beq_eq_false_iff_ne.2 (by omega)
              have q2' : ¬ ((n.args.length : Int) = 2) := by omega
              have H : Hid (mayB n size = false) := by
                show _ = _; unfold mayB; rw [HAN.out]; simp [k2, q3h.out, ho, ar, q2']
              clear k1 k2 ar q2 q2'
              go_wp2_with fail
              go_ret
              exact ⟨ret_bool H.out.symm, (Below.refl _ _).alloc (Nat.le_refl _) _⟩
          have y0 : (n.name.toList == [45, 62]) = false := beq_eq_false_iff_ne.2 n0
          by_cases n1 : n.name.toList = [42]
          · have y1 : (n.name.toList == [42]) = true := by rw [n1]; rfl
            have ar : arity n.name = some 2 := by rw [name_list.1 n1]; decide +kernel
            by_cases q2 : n.args.length = 2
            · have x2 : ((n.args.length : Int) == 2) = true := by rw [q2]; rfl
              have H : Hid (mayB n size = true) := by
                show _ = _; unfold mayB; rw [HAN.out]; simp [k2, q3h.out, ho, ar, q2]
              clear k1 k2 ar q2
              go_wp2_with fail
              go_ret
              exact ⟨ret_bool H.out.symm, (Below.refl _ _).alloc (Nat.le_refl _) _⟩
            · have x2 : ((n.args.length : Int) == 2) = false := beq_eq_false_iff_ne.2 (by omega)
              have q2' : ¬ ((n.args.length : Int) = 2) := by omega
              have H : Hid (mayB n size = false) := by
                show _ = _; unfold mayB; rw [HAN.out]; simp [k2, q3h.out, ho, ar, q2']
              clear k1 k2 ar q2 q2'
              go_wp2_with fail
              go_ret
              exact ⟨ret_bool H.out.symm, (Below.refl _ _).alloc (Nat.le_refl _) _⟩
          have y1 : (n.name.toList == [42]) = false := beq_eq_false_iff_ne.2 n1
          by_cases n2 : n.name.toList = [105, 110, 116]
          · have y2 : (n.name.toList == [105, 110, 116]) = true := by rw [n2]; rfl
            have ar : arity n.name = some 0 := by rw [name_list.1 n2]; decide +kernel
            by_cases q2 : n.args.length = 0
            · have x2 : ((n.args.length : Int) == 0) = true := by rw [q2]; rfl
              have H : Hid (mayB n size = true) := by
                show _ = _; unfold mayB; rw [HAN.out]; simp [k2, q3h.out, ho, ar, q2]
              clear k1 k2 ar q2
              go_wp2_with fail
              go_ret
              exact ⟨ret_bool H.out.symm, (Below.refl _ _).alloc (Nat.le_refl _) _⟩
            · have x2 : ((n.args.length : Int) == 0) = false := beq_eq_false_iff_ne.2 (by omega)
              have q2' : ¬ ((n.args.length : Int) = 0) := by omega
              have q2n : ¬ n.args = [] := fun e => q2 (by rw [e]; rfl)
              have H : Hid (mayB n size = false) := by
                show _ = _; unfold mayB; rw [HAN.out]; simp [k2, q3h.out, ho, ar, q2n]
              clear k1 k2 ar q2 q2' q2n
              go_wp2_with fail
              go_ret
              exact ⟨ret_bool H.out.symm, (Below.refl _ _).alloc (Nat.le_refl _) _⟩
          have y2 : (n.name.toList == [105, 110, 116]) = false := beq_eq_false_iff_ne.2 n2
          by_cases n3 : n.name.toList = [98, 111, 111, 108]
          · have y3 : (n.name.toList == [98, 111, 111, 108]) = true := by rw [n3]; rfl
            have ar : arity n.name = some 0 := by rw [name_list.1 n3]; decide +kernel
            by_cases q2 : n.args.length = 0
            · have x2 : ((n.args.length : Int) == 0) = true := by rw [q2]; rfl
              have H : Hid (mayB n size = true) := by
                show _ = _; unfold mayB; rw [HAN.out]; simp [k2, q3h.out, ho, ar, q2]
              clear k1 k2 ar q2
              go_wp2_with fail
              go_ret
              exact ⟨ret_bool H.out.symm, (Below.refl _ _).alloc (Nat.le_refl _) _⟩
            · have x2 : ((n.args.length : Int) == 0) = false := beq_eq_false_iff_ne.2 (by omega)
              have q2' : ¬ ((n.args.length : Int) = 0) := by omega
              have q2n : ¬ n.args = [] := fun e => q2 (by rw [e]; rfl)
              have H : Hid (mayB n size = false) := by
                show _ = _; unfold mayB; rw [HAN.out]; simp [k2, q3h.out, ho, ar, q2n]
              clear k1 k2 ar q2 q2' q2n
              go_wp2_with fail
              go_ret
              exact ⟨ret_bool H.out.symm, (Below.refl _ _).alloc (Nat.le_refl _) _⟩
          have y3 : (n.name.toList == [98, 111, 111, 108]) = false := beq_eq_false_iff_ne.2 n3
          by_cases n4 : n.name.toList = [115, 116, 114, 105, 110, 103]
          · have y4 : (n.name.toList == [115, 116, 114, 105, 110, 103]) = true := by rw [n4]; rfl
            have ar : arity n.name = some 0 := by rw [name_list.1 n4]; decide +kernel
            by_cases q2 : n.args.length = 0
            · have x2 : ((n.args.length : Int) == 0) = true := by rw [q2]; rfl
              have H : Hid (mayB n size = true) := by
                show _ = _; unfold mayB; rw [HAN.out]; simp [k2, q3h.out, ho, ar, q2]
              clear k1 k2 ar q2
              go_wp2_with fail
              go_ret
              exact ⟨ret_bool H.out.symm, (Below.refl _ _).alloc (Nat.le_refl _) _⟩
            · have x2 : ((n.args.length : Int) == 0) = false := beq_eq_false_iff_ne.2 (by omega)
              have q2' : ¬ ((n.args.length : Int) = 0) := by omega
              have q2n : ¬ n.args = [] := fun e => q2 (by rw [e]; rfl)
              have H : Hid (mayB n size = false) := by
                show _ = _; unfold mayB; rw [HAN.out]; simp [k2, q3h.out, ho, ar, q2n]
              clear k1 k2 ar q2 q2' q2n
              go_wp2_with fail
              go_ret
              exact ⟨ret_bool H.out.symm, (Below.refl _ _).alloc (Nat.le_refl _) _⟩
          have y4 : (n.name.toList == [115, 116, 114, 105, 110, 103]) = false := beq_eq_false_iff_ne.2 n4
          by_cases n5 : n.name.toList = [117, 110, 105, 116]
          · have y5 : (n.name.toList == [117, 110, 105, 116]) = true := by rw [n5]; rfl
            have ar : arity n.name = some 0 := by rw [name_list.1 n5]; decide +kernel
            by_cases q2 : n.args.length = 0
            · have x2 : ((n.args.length : Int) == 0) = true := by rw [q2]; rfl
              have H : Hid (mayB n size = true) := by
                show _ = _; unfold mayB; rw [HAN.out]; simp [k2, q3h.out, ho, ar, q2]
              clear k1 k2 ar q2
              go_wp2_with fail
              go_ret
              exact ⟨ret_bool H.out.symm, (Below.refl _ _).alloc (Nat.le_refl _) _⟩
            · have x2 : ((n.args.length : Int) == 0) = false := beq_eq_false_iff_ne.2 (by omega)
              have q2' : ¬ ((n.args.length : Int) = 0) := by omega
              have q2n : ¬ n.args = [] := fun e => q2 (by rw [e]; rfl)
              have H : Hid (mayB n size = false) := by
                show _ = _; unfold mayB; rw [HAN.out]; simp [k2, q3h.out, ho, ar, q2n]
              clear k1 k2 ar q2 q2' q2n
              go_wp2_with fail
              go_ret
              exact ⟨ret_bool H.out.symm, (Below.refl _ _).alloc (Nat.le_refl _) _⟩
          have y5 : (n.name.toList == [117, 110, 105, 116]) = false := beq_eq_false_iff_ne.2 n5
          have ar := arity_other n0 n1 n2 n3 n4 n5
          by_cases q2 : n.args = []
          · have q2t : (n.args = []) = True := eq_true q2
            have H : Hid (mayB n size = false) := by
              show _ = _; unfold mayB; rw [HAN.out]; simp [k2, ar]
            clear k1 k2 ar q2
            go_wp2_with fail
            go_ret
            exact ⟨ret_bool H.out.symm, (Below.refl _ _).alloc (Nat.le_refl _) _⟩
          · have q2t := q2
            have H : Hid (mayB n size = false) := by
              show _ = _; unfold mayB; rw [HAN.out]; simp [k2, ar]
            clear k1 k2 ar
            go_wp2_with fail
            go_ret
            exact ⟨ret_bool H.out.symm, (Below.refl _ _).alloc (Nat.le_refl _) _⟩
      have e2 : (n.kind == 2) = false := beq_eq_false_iff_ne.2 k2
      by_cases k3 : n.kind = 3
      · have e3 : (n.kind == 3) = true := by rw [k3]; rfl
        have HMB : Hid (mayB n size = (decide (n.name.size = 0) && decide (n.labels.length = n.args.length) && rising n.labels)) := by
          show _ = _; unfold mayB; rw [HAN.out]; simp [k3]
        clear k1 k2 k3 HAN
        go_wp2_with fail
        go_loop [99] (fun v99 => ∃ i : Nat, i ≤ n.labels.length ∧ v99 = .int .i64 i ∧ Hid (∀ j, j < i → labelOk n.labels j = true)) (fun v99 => n.labels.length - (intOf v99).toNat)
        case atStart => exact ⟨0, Nat.zero_le _, rfl, fun j h => by omega⟩
        case round =>
          obtain ⟨i, hi, rfl, hrl⟩ := hrel
          by_cases hil : i < n.labels.length
          · obtain ⟨b, off, rfl, hc⟩ := HL.out.at_ i (.string n.labels[i]) (by simp [List.getElem?_eq_getElem hil])
            have hsz := labels_small (List.getElem_mem hil) HSZ.out
            have hok : labelOk n.labels i = (isName n.labels[i] && (i == 0 || Op.bytesLess (n.labels.getD (i - 1) ByteArray.empty).toList n.labels[i].toList)) := by
              unfold labelOk; rw [List.getD_eq_getElem?_getD, List.getElem?_eq_getElem hil, Option.getD_some]
            have no : labelOk n.labels i = false → mayB n size = false := fun h => by
              rw [HMB.out]
              have : rising n.labels = false := by
                unfold rising
                rw [← Bool.not_eq_true, List.all_eq_true]
                exact fun hh => by have := hh i (List.mem_range.2 hil); rw [h] at this; cases this
              rw [this, Bool.and_false]
            by_cases hn : isName n.labels[i] = true
            · by_cases hk0 : i = 0
              · have HO : Hid (labelOk n.labels i = true) := by show _ = _; rw [hok, hn]; simp [hk0]
                have e0 : ¬ (0 : Int) < (i : Int) := by omega
                clear hok no hk0
                go_wp2_with (go_at_call 44; refine (refName _ _ hsz).mono ?_; rintro e w' ⟨rfl, rfl⟩)
                go_round
                case rel =>
                  refine ⟨i + 1, by omega, by go_num, fun j hj => ?_⟩
                  by_cases hjk : j = i
                  · rw [hjk]; exact HO.out
                  · exact hrl.out j (by omega)
                case measure => simp [intOf]; omega
              · have hp : i - 1 < n.labels.length := by omega
                obtain ⟨b', off', hbb, hc'⟩ := HL.out.at_ (i - 1) (.string n.labels[i - 1]) (by simp [List.getElem?_eq_getElem hp])
                cases hbb
                have e0 : (0 : Int) < (i : Int) := by omega
                have e1 : (0 : Int) ≤ (i : Int) - 1 := by omega
                have hgd : n.labels.getD (i - 1) ByteArray.empty = n.labels[i - 1] := by rw [List.getD_eq_getElem?_getD, List.getElem?_eq_getElem hp, Option.getD_some]
                have hb0 : (i == 0) = false := by simpa using hk0
                by_cases hlo : Op.bytesLess n.labels[i - 1].toList n.labels[i].toList = true
                · have HO : Hid (labelOk n.labels i = true) := by show _ = _; rw [hok, hn, hb0, hgd, hlo]; rfl
                  clear hok no hgd hb0
                  go_wp2_with (go_at_call 44; refine (refName _ _ hsz).mono ?_; rintro e w' ⟨rfl, rfl⟩)
                  go_round
                  case rel =>
                    refine ⟨i + 1, by omega, by go_num, fun j hj => ?_⟩
                    by_cases hjk : j = i
                    · rw [hjk]; exact HO.out
                    · exact hrl.out j (by omega)
                  case measure => simp [intOf]; omega
                · have HO : Hid (mayB n size = false) := no (by rw [hok, hn, hb0, hgd]; simpa using hlo)
                  have hlo' : Op.bytesLess n.labels[i - 1].toList n.labels[i].toList = false := by simpa using hlo
                  clear hok no hgd hb0 hlo
                  go_wp2_with (go_at_call 44; refine (refName _ _ hsz).mono ?_; rintro e w' ⟨rfl, rfl⟩)
                  go_ret
                  exact ⟨ret_bool HO.out.symm, (Below.refl _ _).alloc (Nat.le_refl _) _⟩
            · have hn' : isName n.labels[i] = false := by simpa using hn
              have HO : Hid (mayB n size = false) := no (by rw [hok, hn']; rfl)
              clear hok no hn
              go_wp2_with (go_at_call 44; refine (refName _ _ hsz).mono ?_; rintro e w' ⟨rfl, rfl⟩)
              go_ret
              exact ⟨ret_bool HO.out.symm, (Below.refl _ _).alloc (Nat.le_refl _) _⟩
          · have HR : Hid (rising n.labels = true) := by
              show _ = _
              unfold rising
              rw [List.all_eq_true]
              exact fun j hj => hrl.out j (by have := List.mem_range.1 hj; omega)
            by_cases q1 : n.name.size = 0
            · have x1 := emp1 q1
              by_cases q2 : n.labels.length = n.args.length
              · have x2 : ((n.labels.length : Int) == (n.args.length : Int)) = true := by rw [q2]; simp
                have H : Hid (mayB n size = true) := by show _ = _; rw [HMB.out, HR.out]; simp [q1, q2]
                clear q1 q2
                go_wp2_with fail
                go_ret
                exact ⟨ret_bool H.out.symm, (Below.refl _ _).alloc (Nat.le_refl _) _⟩
              · have x2 : ((n.labels.length : Int) == (n.args.length : Int)) = false := beq_eq_false_iff_ne.2 (by omega)
                have H : Hid (mayB n size = false) := by show _ = _; rw [HMB.out]; simp [q2]
                clear q1 q2
                go_wp2_with fail
                go_ret
                exact ⟨ret_bool H.out.symm, (Below.refl _ _).alloc (Nat.le_refl _) _⟩
            · have x1 := emp0 q1
              have H : Hid (mayB n size = false) := by show _ = _; rw [HMB.out]; simp [q1]
              clear q1
              go_wp2_with fail
              go_ret
              exact ⟨ret_bool H.out.symm, (Below.refl _ _).alloc (Nat.le_refl _) _⟩
      have e3 : (n.kind == 3) = false := beq_eq_false_iff_ne.2 k3
      have H : Hid (mayB n size = false) := by
        show _ = _; unfold mayB; rw [HAN.out]; simp [k1, k2, k3]
      clear k1 k2 k3
      go_wp2_with fail
      go_ret
      exact ⟨ret_bool H.out.symm, (Below.refl _ _).alloc (Nat.le_refl _) _⟩
end Go.Proofs.Ytgngnkajjldnlaa.gr
