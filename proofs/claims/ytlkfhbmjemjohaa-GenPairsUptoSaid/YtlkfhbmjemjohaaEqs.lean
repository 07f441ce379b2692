/- slices.Equal over strings; graph.alike, graph.free. -/
import Derived.Test.YtlkfhbmjemjohaaChk
import Derived.Deep.QuietTactic
import Derived.BigQuiet
namespace Go.Tre
def alikeB (x y : Tre.Node) : Bool := decide (x.kind = y.kind) && decide (x.name = y.name) && decide (x.isOpen = y.isOpen) && decide (x.args.length = y.args.length) && decide (x.labels = y.labels)
def freeB (n : Tre.Node) : Bool := decide (n.kind = 1) || (decide (n.kind = 3) && n.isOpen)
end Go.Tre
namespace Go.Proofs.Ytlkfhbmjemjohaa.gr
open Go.RowKit Go.Maps Go.Tre lex

theorem str_eq {a b : ByteArray} : (a.toList == b.toList) = decide (a = b) := by
  rw [Bool.eq_iff_iff, beq_iff_eq, decide_eq_true_iff, ByteArray.toList_eq, ByteArray.toList_eq]
  constructor
  · intro h
    cases a; cases b
    simp only [ByteArray.mk.injEq]
    exact Array.toList_inj.1 h
  · rintro rfl; rfl

set_option maxHeartbeats 2000000 in
theorem equalStrs (a b : Option Addr) (ca cb : Nat) (xs ys : List ByteArray) (w : World) (hx : StrsAt w a xs) (hy : StrsAt w b ys) (hlx : xs.length ≤ 8388608) (hly : ys.length ≤ 8388608) :
    Calls Try.prog 44 #[.slice a xs.length ca, .slice b ys.length cb] w fun e w' => e = .returned (.bool (decide (xs = ys))) ∧ Below w.heap.size w w' := by
  by_cases hl : xs.length = ys.length
  · have e0 : ((xs.length : Int) != (ys.length : Int)) = false := by rw [hl]; simp
    have HL := Tre.hid hl
    clear hl
    go_enter Try.func44, Try.ntmps44
    go_wp2_with fail
    go_loopw [13] (fun i wr => ∃ k : Nat, k ≤ xs.length ∧ i = .int .i64 k ∧ xs.take k = ys.take k ∧ Below w.heap.size w wr) (fun i _ => xs.length - (intOf i).toNat)
    case atStart => exact ⟨0, Nat.zero_le _, rfl, rfl, Below.refl _ _⟩
    case round =>
      obtain ⟨k, hk, rfl, hrel, hb⟩ := hrel
      have HR := Tre.hid hrel
      clear hrel
      by_cases hlt : k < xs.length
      · have hlt2 : k < ys.length := by have := HL.out; omega
        obtain ⟨b1, o1, rfl, hc1⟩ := (hx.below hb).at_ k (.string xs[k]) (by simp [List.getElem?_eq_getElem hlt])
        obtain ⟨b2, o2, rfl, hc2⟩ := (hy.below hb).at_ k (.string ys[k]) (by simp [List.getElem?_eq_getElem hlt2])
        have T1 : Hid (xs.take (k + 1) = xs.take k ++ [xs[k]]) := List.take_succ_eq_append_getElem hlt
        have T2 : Hid (ys.take (k + 1) = ys.take k ++ [ys[k]]) := List.take_succ_eq_append_getElem hlt2
        generalize hxk : xs[k] = x at *
        generalize hyk : ys[k] = y at *
        have i1 : (k : Int) < xs.length := by omega
        have i2 : (k : Int) < ys.length := by omega
        have i3 : (0 : Int) ≤ k := by omega
        have HX := Tre.hid hxk
        have HY := Tre.hid hyk
        clear hxk hyk
        by_cases he : x = y
        · have e1 : (!(x.toList == y.toList)) = false := by rw [str_eq]; simp [he]
          have HE := Tre.hid he
          clear he
          go_wp2_with fail
          go_quiet (fail)
          go_wp2_with fail
          go_roundw
          case rel => exact ⟨k + 1, by omega, by go_num, by rw [T1.out, T2.out, HR.out, HE.out], by first | exact below_drewN hb _ | exact hb⟩
          case measure => simp [intOf]; omega
        · have e1 : (!(x.toList == y.toList)) = true := by rw [str_eq]; simp [he]
          have HE : Hid (¬ xs = ys) := by
            show ¬ _
            intro e
            subst e
            exact he (HX.out.symm.trans HY.out)
          clear he
          go_wp2_with fail
          go_quiet (fail)
          go_wp2_with fail
          go_ret
          exact ⟨ret_bool (by simp [HE.out]), by first | exact below_drewN hb _ | exact hb⟩
      · have HE : Hid (xs = ys) := by
          have h1 := HR.out
          rw [List.take_of_length_le (by omega), List.take_of_length_le (by have := HL.out; omega)] at h1
          exact h1
        go_wp2_with fail
        go_ret
        exact ⟨ret_bool (by simp [HE.out]), hb⟩
  · have e0 : ((xs.length : Int) != (ys.length : Int)) = true := by rw [bne_iff_ne]; omega
    have HE : Hid (¬ xs = ys) := fun e => hl (by rw [e])
    clear hl
    go_enter Try.func44, Try.ntmps44
    go_wp2_with fail
    go_ret
    exact ⟨ret_bool (by simp [HE.out]), Below.refl _ _⟩

/-- the two copies that a call lays first -/
abbrev nodeObj (n : Tre.Node) (aa : Option Addr) (ca : Nat) (al : Option Addr) (cl : Nat) : Obj := .cells #[.int .i64 n.kind, .string n.name, .slice aa n.args.length ca, .slice al n.labels.length cl, .bool n.isOpen] 38
abbrev nodeVal (n : Tre.Node) (aa : Option Addr) (ca : Nat) (al : Option Addr) (cl : Nat) : Value := .agg #[.int .i64 n.kind, .string n.name, .slice aa n.args.length ca, .slice al n.labels.length cl, .bool n.isOpen]

set_option maxHeartbeats 4000000 in
theorem alike_any (x y : Tre.Node) (ax : Option Addr) (cx : Nat) (lx : Option Addr) (dx : Nat) (ay : Option Addr) (cy : Nat) (ly : Option Addr) (dy : Nat) (w : World) (hx : StrsAt w lx x.labels) (hy : StrsAt w ly y.labels) (hlx : x.labels.length ≤ 8388608) (hly : y.labels.length ≤ 8388608) (_hax : x.args.length ≤ 8388608) (_hay : y.args.length ≤ 8388608) :
    Calls Try.prog 33 #[nodeVal x ax cx lx dx, nodeVal y ay cy ly dy] w fun e w' => e = .returned (.bool (alikeB x y)) ∧ Below w.heap.size w w' := by
  have b2 : Below w.heap.size w ((w.alloc (nodeObj x ax cx lx dx)).alloc (nodeObj y ay cy ly dy)) := ((Below.refl _ _).alloc (Nat.le_refl _) _).alloc (by simp) _
  have C := Tre.hid (equalStrs lx ly dx dy x.labels y.labels _ (hx.below b2) (hy.below b2) hlx hly)
  clear hx hy
  by_cases h_kind : x.kind = y.kind
  · have e_kind : (x.kind == y.kind) = true := by rw [h_kind]; simp
    by_cases h_name : x.name = y.name
    · have e_name : (x.name.toList == y.name.toList) = true := by rw [str_eq]; simp [h_name]
      by_cases h_open : x.isOpen = y.isOpen
      · have e_open : (x.isOpen == y.isOpen) = true := by rw [h_open]; simp
        by_cases h_args : x.args.length = y.args.length
        · have e_args : ((x.args.length : Int) == (y.args.length : Int)) = true := by rw [h_args]; simp
          have H : Hid (alikeB x y = decide (x.labels = y.labels)) := by show _ = _; unfold alikeB; simp [h_kind, h_name, h_open, h_args]
          clear h_kind h_name h_open h_args
          go_enter Try.func33, Try.ntmps33
          go_wp2_with fail
          refine C.out.mono ?_
          rintro e w1 ⟨rfl, b1⟩
          go_wp2_with fail
          go_ret
          exact ⟨ret_bool H.out.symm, after2 b1⟩
        · have e_args : ((x.args.length : Int) == (y.args.length : Int)) = false := beq_eq_false_iff_ne.2 (by omega)
          have H : Hid (alikeB x y = false) := by show _ = _; unfold alikeB; simp [h_args]
          clear h_kind h_name h_open h_args
          go_enter Try.func33, Try.ntmps33
          go_wp2_with fail
          go_ret
          exact ⟨ret_bool H.out.symm, b2⟩
      · have e_open : (x.isOpen == y.isOpen) = false := by simpa using h_open
        have H : Hid (alikeB x y = false) := by show _ = _; unfold alikeB; simp [h_open]
        clear h_kind h_name h_open
        go_enter Try.func33, Try.ntmps33
        go_wp2_with fail
        go_ret
        exact ⟨ret_bool H.out.symm, b2⟩
    · have e_name : (x.name.toList == y.name.toList) = false := by rw [str_eq]; simp [h_name]
      have H : Hid (alikeB x y = false) := by show _ = _; unfold alikeB; simp [h_name]
      clear h_kind h_name
      go_enter Try.func33, Try.ntmps33
      go_wp2_with fail
      go_ret
      exact ⟨ret_bool H.out.symm, b2⟩
  · have e_kind : (x.kind == y.kind) = false := beq_eq_false_iff_ne.2 h_kind
    have H : Hid (alikeB x y = false) := by show _ = _; unfold alikeB; simp [h_kind]
    clear h_kind
    go_enter Try.func33, Try.ntmps33
    go_wp2_with fail
    go_ret
    exact ⟨ret_bool H.out.symm, b2⟩

theorem free_any (n : Tre.Node) (aa : Option Addr) (ca : Nat) (al : Option Addr) (cl : Nat) (w : World) :
    Calls Try.prog 32 #[nodeVal n aa ca al cl] w fun e w' => e = .returned (.bool (freeB n)) ∧ Below w.heap.size w w' := by
  have b1 : Below w.heap.size w (w.alloc (nodeObj n aa ca al cl)) := (Below.refl _ _).alloc (Nat.le_refl _) _
  by_cases h1 : n.kind = 1
  · have e1 : (n.kind == 1) = true := by rw [h1]; rfl
    have H : Hid (freeB n = true) := by show _ = _; unfold freeB; simp [h1]
    clear h1
    go_enter Try.func32, Try.ntmps32
    go_wp2_with fail
    go_ret
    exact ⟨ret_bool H.out.symm, b1⟩
  · have e1 : (n.kind == 1) = false := beq_eq_false_iff_ne.2 h1
    by_cases h3 : n.kind = 3
    · have e3 : (n.kind == 3) = true := by rw [h3]; rfl
      have H : Hid (freeB n = n.isOpen) := by show _ = _; unfold freeB; simp [h3]
      clear h1 h3
      go_enter Try.func32, Try.ntmps32
      go_wp2_with fail
      go_ret
      exact ⟨ret_bool H.out.symm, b1⟩
    · have e3 : (n.kind == 3) = false := beq_eq_false_iff_ne.2 h3
      have H : Hid (freeB n = false) := by show _ = _; unfold freeB; simp [h1, h3]
      clear h1 h3
      go_enter Try.func32, Try.ntmps32
      go_wp2_with fail
      go_ret
      exact ⟨ret_bool H.out.symm, b1⟩
end Go.Proofs.Ytlkfhbmjemjohaa.gr
