/- slices.Backward over ints: the iterator's contract. After the kit's text on slices.All. -/
import Derived.RangeFuncNested
import Derived.RangeFuncBox
import Derived.RangeFuncLeaves
import Derived.Shelf.Abstract
import Derived.WalkKit
import Derived.OwnWalkIn
import Derived.TacticsInMore
import Derived.LoopNIn
import Derived.LoopIn
import Derived.Test.YtlkfhbmjemjohaaGreat
namespace Go.Tre
/-- what has come when k rounds are over -/
def upto {α : Type} (f : Nat → α) (k : Nat) : List α := (List.range k).map f
theorem upto_succ {α : Type} (f : Nat → α) (k : Nat) : upto f (k + 1) = upto f k ++ [f k] := by simp [upto, List.range_succ]
theorem upto_length {α : Type} (f : Nat → α) (k : Nat) : (upto f k).length = k := by simp [upto]
/-- the numbers xs, each in a block below n -/
def IntsIn (n : Nat) (w : World) (a : Option Addr) (xs : List Nat) : Prop :=
  ∀ (j u : Nat), xs[j]? = some u → ∃ b off, a = some ⟨b, off, none⟩ ∧ b < n ∧ w.cell? ⟨b, off + j, none⟩ = some (.int .i64 (u : Int))
open Go.RowKit in
theorem IntsIn.below {n : Nat} {w w' : World} {a : Option Addr} {xs : List Nat} (h : IntsIn n w a xs) (hb : Below n w w') : IntsIn n w' a xs :=
  fun j u hu => by
    obtain ⟨b, off, e, hl, hc⟩ := h j u hu
    exact ⟨b, off, e, hl, (hb.cell (p := ⟨b, off + j, none⟩) hl).trans hc⟩
open Go.RowKit in
/-- what a round keeps: all below n; the iterator's own box -/
def KeepBox (n Bs : Nat) (w w' : World) : Prop := Below n w w' ∧ w'.heap[Bs]? = w.heap[Bs]?
open Go.RowKit in
theorem KeepBox.refl (n Bs : Nat) (w : World) : KeepBox n Bs w w := ⟨Below.refl _ _, rfl⟩
open Go.RowKit in
theorem KeepBox.trans {n Bs : Nat} {a b c : World} (h : KeepBox n Bs a b) (k : KeepBox n Bs b c) : KeepBox n Bs a c := ⟨h.1.trans k.1, k.2.trans h.2⟩
open Go.RowKit in
theorem KeepBox.cell {n Bs : Nat} {a b : World} (h : KeepBox n Bs a b) {v : Value} (hc : a.cell? ⟨Bs, 0, none⟩ = some v) : b.cell? ⟨Bs, 0, none⟩ = some v := by
  simp only [World.cell?, h.2] at hc ⊢; exact hc
def back (xs : List Nat) (j : Nat) : Nat × Nat := (xs.length - 1 - j, xs[xs.length - 1 - j]?.getD 0)
end Go.Tre
namespace Go.Proofs.Ytlkfhbmjemjohaa.gr
open Go.RowKit Go.Shelf Go.Tre
attribute [local go_sem] Oper.semAt_some

set_option maxRecDepth 100000 in
set_option maxHeartbeats 2000000 in
theorem back1_in (F : Fence) (n : Nat) (hf : F.fn 47) (hro : F.round = none) (hn : 1 ≤ n) (l Bs n₀ : Nat) (a : Option Addr) (cap : Nat) (xs : List Nat) (hlen : xs.length ≤ 8388608) (J Jx : List (Nat × Nat) → World → Prop)
    (hY : ∀ pre x W, J pre W → pre.length < xs.length → YieldAt F (n - 1) Try.prog l #[.int .i64 (x.1 : Int), .int .i64 (x.2 : Int)] W fun e W' =>
      (e = .returned (.bool true) ∧ J (pre ++ [x]) W' ∧ KeepBox n₀ Bs W W') ∨ (e = .returned (.bool false) ∧ Jx (pre ++ [x]) W'))
    (W : World) (hBs : W.cell? ⟨Bs, 0, none⟩ = some (.slice a xs.length cap)) (hc : IntsIn n₀ W a xs) (h0 : J [] W) :
    CallsIn F n Try.prog 47 #[.func (.yield l) #[] #[], .pointer (some ⟨Bs, 0, none⟩)] W fun e W' => (∃ v, e = .returned v) ∧
      ((∃ ys, ys = upto (back xs) xs.length ∧ J ys W') ∨ (∃ pre, (∃ k, k ≤ xs.length ∧ pre = upto (back xs) k) ∧ Jx pre W')) := by
  refine callsIn_of_wp Try.func47 rfl hf ?_ hro
  simp only [Try.ntmps47, List.size_toArray, List.length_cons, List.length_nil, Nat.reduceAdd, Nat.reduceSub, Array.replicate_succ, Array.replicate_zero, List.push_toArray, List.append_toArray, List.nil_append, List.cons_append]
  have HC := Tre.hid hc
  clear hc
  gi_wp2
  gi_loopw [3] (fun i wr => ∃ t k : Nat, t + k = xs.length ∧ i = .int .i64 ((t : Int) - 1) ∧ J (upto (back xs) k) wr ∧ KeepBox n₀ Bs W wr)
    (fun i _ => (intOf i + 1).toNat)
  case atStart => exact ⟨xs.length, 0, rfl, rfl, h0, KeepBox.refl _ _ _⟩
  case round =>
    obtain ⟨t, k, hk, rfl, hJs, hnx⟩ := hrel
    have HK := Tre.hid hk
    clear hk
    cases t with
    | zero =>
      gi_wp2
      go_end0
      have := HK.out
      exact ⟨⟨_, rfl⟩, .inl ⟨_, by rw [← this]; simp, hJs⟩⟩
    | succ t =>
      rw [show (((t + 1 : Nat) : Int) - 1) = (t : Int) by omega]
      have hlt : t < xs.length := by have := HK.out; omega
      have hkl : k < xs.length := by have := HK.out; omega
      obtain ⟨b, off, rfl, hb, hcx⟩ := (HC.out.below hnx.1) t xs[t] (List.getElem?_eq_getElem hlt)
      have eb : back xs k = (t, xs[t]) := by
        have := HK.out
        unfold back
        rw [show xs.length - 1 - k = t by omega, List.getElem?_eq_getElem hlt]; rfl
      have hbs : wr.cell? ⟨Bs, 0, none⟩ = some (.slice (some ⟨b, off, none⟩) xs.length cap) := hnx.cell hBs
      obtain ⟨fn, tmps, assign, body, hy, hR⟩ := hY _ (t, xs[t]) wr hJs (by rw [upto_length]; exact hkl)
      dsimp only at hy hR
      generalize hx : xs[t] = x at *
      have HX := Tre.hid hx
      have EB := Tre.hid eb
      have i1 : (0 : Int) ≤ t := by omega
      have i2 : (t : Int) < xs.length := by omega
      clear hx eb
      gi_wp2
      refine hR.mono ?_
      rintro e W3 (⟨rfl, hJ3, hk3⟩ | ⟨rfl, hJx3⟩)
      · gi_wp2
        go_roundw
        case rel => exact ⟨t, k + 1, by have := HK.out; omega, by simp, by rw [upto_succ, EB.out]; exact hJ3, hnx.trans hk3⟩
        case measure => simp [intOf]
      · gi_wp2
        refine bodyPost_ret (results_none rfl _ _ _) rfl ?_
        exact ⟨⟨_, rfl⟩, .inr ⟨_, ⟨k + 1, by omega, by rw [upto_succ, EB.out]⟩, hJx3⟩⟩

set_option maxHeartbeats 1000000 in
theorem back_in (F : Fence) (n : Nat) (hf : F.fn 43) (hro : F.round = none) (a : Option Addr) (len cap : Nat) (w : World) :
    CallsIn F n Try.prog 43 #[.slice a len cap] w fun e w' => e = .returned (.func (.func 47) #[] #[.pointer (some ⟨w.heap.size, 0, none⟩)]) ∧ w' = w.alloc (.cells #[.slice a len cap] 25) := by
  refine callsIn_of_wp Try.func43 rfl hf ?_ hro
  simp only [Try.ntmps43, List.size_toArray, List.length_cons, List.length_nil, Nat.reduceAdd, Nat.reduceSub, Array.replicate_succ, Array.replicate_zero, List.push_toArray, List.append_toArray, List.nil_append, List.cons_append]
  gi_wp2
  go_ret
  exact ⟨rfl, rfl⟩

/-- the iterator's contract -/
theorem back_stops (F : Fence) (n : Nat) (hf : F.fn 47) (hro : F.round = none) (hn : 1 ≤ n) (Bs n₀ : Nat) (a : Option Addr) (cap : Nat) (xs : List Nat) (hlen : xs.length ≤ 8388608) (w : World) (hB : Bs < w.heap.size) (hn₀ : n₀ ≤ w.heap.size)
    (hc : w.cell? ⟨Bs, 0, none⟩ = some (.slice a xs.length cap)) (hI : IntsIn n₀ w a xs) :
    SeqStopsK F n Try.prog 47 #[.pointer (some ⟨Bs, 0, none⟩)] (fun x : Nat × Nat => #[Value.int .i64 (x.1 : Int), Value.int .i64 (x.2 : Int)]) (KeepBox n₀ Bs) (fun ys => ys = upto (back xs) xs.length)
      (fun pre => ∃ k, k ≤ xs.length ∧ pre = upto (back xs) k) xs.length w := fun l J Jx W hW _ _ hY h0 => by
  have hc' := (hW.cell (p := ⟨Bs, 0, none⟩) hB).trans hc
  exact back1_in F n hf hro hn l Bs n₀ a cap xs hlen J Jx hY W hc' (hI.below (hW.mono hn₀)) h0
end Go.Proofs.Ytlkfhbmjemjohaa.gr
