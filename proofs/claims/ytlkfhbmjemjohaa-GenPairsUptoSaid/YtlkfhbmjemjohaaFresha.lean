/- gen.Fresh's closures. -/
import Derived.Test.YtlkfhbmjemjohaaDelf
namespace Go.Tre
def toMap (n : Nat) (C : List Nat) (k : Nat) : Nat → Option Nat := fun x => if x ∈ C.take k then some (n + C.idxOf x) else none
theorem toMap_zero (n : Nat) (C : List Nat) : toMap n C 0 = fun _ => none := by funext x; simp [toMap]
theorem toMap_succ {n : Nat} {C : List Nat} (hn : C.Nodup) {k : Nat} (h : k < C.length) : upd (toMap n C k) C[k] (n + k) = toMap n C (k + 1) := by
  funext x
  have h1 := congrFun (idxMap_succ hn h) x
  unfold upd idxMap at h1
  unfold upd toMap
  by_cases hx : x = C[k]
  · rw [if_pos hx, if_pos (by rw [hx, take_snoc_n h]; exact List.mem_append.2 (.inr (List.mem_singleton.2 rfl))), hx, idxOf_nodup hn h]
  · rw [if_neg hx]
    have : (x ∈ C.take (k + 1)) = (x ∈ C.take k) := by rw [take_snoc_n h, List.mem_append, List.mem_singleton]; simp only [hx, or_false]
    simp only [this]
theorem toMap_yes {n : Nat} {C : List Nat} {x : Nat} (h : x ∈ C) : toMap n C C.length x = some (n + C.idxOf x) := by unfold toMap; rw [List.take_length, if_pos h]
theorem toMap_no {n : Nat} {C : List Nat} {x : Nat} (h : x ∉ C) : toMap n C C.length x = none := by unfold toMap; rw [List.take_length, if_neg h]
end Go.Tre
namespace Go.Proofs.Ytlkfhbmjemjohaa.gr
open Go.RowKit Go.Shelf Go.Maps Go.Tre lex
theorem hcfI (args : Array Value) (w : World) : (callFunc 28 args).run Try.prog w = .ok (.enter 28 args) w := by kernel_rfl
theorem isnt (x n : Nat) (b8 bm c : Nat) (b : Bool) (w : World) (h8 : w.cell? ⟨b8, 0, none⟩ = some (.slice (some ⟨bm, 0, none⟩) n c)) (hx : x < n) (hm : w.cell? ⟨bm, x, none⟩ = some (.bool b)) :
    Calls Try.prog 28 #[.int .i64 (x : Int), .pointer (some ⟨b8, 0, none⟩)] w fun e w' => e = .returned (.bool (!b)) ∧ Below w.heap.size w w' := by
  have i1 : (0 : Int) ≤ (x : Int) := by omega
  have i2 : (x : Int) < (n : Int) := by omega
  cases b
  all_goals
    go_enter Try.func28, Try.ntmps28
    go_wp2_with fail
    go_ret
    exact ⟨rfl, Below.refl _ _⟩
set_option maxHeartbeats 1000000 in
theorem now_any (x n : Nat) (C : List Nat) (b10 bm N : Nat) (w : World) (h10 : w.cell? ⟨b10, 0, none⟩ = some (.map (some bm))) (hm : MapIs Try.prog 3 en en w bm N (toMap n C C.length)) (hx : x ≤ 8388608) :
    Calls Try.prog 29 #[.int .i64 (x : Int), .pointer (some ⟨b10, 0, none⟩)] w fun e w' => e = .returned (.int .i64 ((nowF n C x : Nat) : Int)) ∧ Below w.heap.size w w' := by
  have HM := Tre.hid hm
  clear hm
  by_cases h : x ∈ C
  · have HY := Tre.hid (toMap_yes (n := n) h)
    have HN : Hid (nowF n C x = n + C.idxOf x) := by show _ = _; unfold nowF; rw [if_pos h]
    clear h
    go_enter Try.func29, Try.ntmps29
    go_wp2_with (refine wpList_look_some rfl _ _ 56 rfl 3 KI injN Try.underlying56 (zi _) rfl HM.out x rfl (kn x hx) (n + C.idxOf x) HY.out ?_)
    go_ret
    exact ⟨ret_int (by rw [HN.out]), Below.refl _ _⟩
  · have HY := Tre.hid (toMap_no (n := n) h)
    have HN : Hid (nowF n C x = x) := by show _ = _; unfold nowF; rw [if_neg h]
    clear h
    go_enter Try.func29, Try.ntmps29
    go_wp2_with (refine wpList_look_none rfl _ _ 56 rfl 3 KI injN Try.underlying56 (zi _) rfl HM.out x rfl (kn x hx) HY.out ?_)
    go_ret
    exact ⟨ret_int (by rw [HN.out]), Below.refl _ _⟩
end Go.Proofs.Ytlkfhbmjemjohaa.gr
