/- slices.Backward over ints: the iterator's contract. After the kit's text on slices.All. A function that goes through loops over functions in a plain loop leaves with many marks. slices.IndexFunc and ContainsFunc over numbers, at whatever function value that answers by a plain test. -/
import Derived.RangeFuncNested
import Derived.RangeFuncBox
import Derived.RangeFuncLeaves
import Derived.Shelf.Abstract
import Derived.WalkKit
import Derived.OwnWalkIn
import Derived.TacticsInMore
import Derived.LoopNIn
import Derived.LoopIn
import Derived.Test.YtaleodkbghogfaaGreatDoorB01
set_option linter.unusedVariables false
namespace Go.Tre
def upto {α : Type} (f : Nat → α) (k : Nat) : List α := (List.range k).map f
theorem upto_succ {α : Type} (f : Nat → α) (k : Nat) : upto f (k + 1) = upto f k ++ [f k] := by simp [upto, List.range_succ]
theorem upto_length {α : Type} (f : Nat → α) (k : Nat) : (upto f k).length = k := by simp [upto]
def IntsIn (n : Nat) (w : World) (a : Option Addr) (xs : List Nat) : Prop :=
 ∀ (j u : Nat), xs[j]? = some u → ∃ b off, a = some ⟨b, off, none⟩ ∧ b < n ∧ w.cell? ⟨b, off + j, none⟩ = some (.int .i64 (u : Int))
open Go.RowKit in
theorem IntsIn.below {n : Nat} {w w' : World} {a : Option Addr} {xs : List Nat} (h : IntsIn n w a xs) (hb : Below n w w') : IntsIn n w' a xs :=
 fun j u hu => by
  obtain ⟨b, off, e, hl, hc⟩ := h j u hu
  exact ⟨b, off, e, hl, (hb.cell (p := ⟨b, off + j, none⟩) hl).trans hc⟩
open Go.RowKit in
def KeepBox (n Bs : Nat) (w w' : World) : Prop := Below n w w' ∧ w'.heap[Bs]? = w.heap[Bs]?
open Go.RowKit in
theorem KeepBox.refl (n Bs : Nat) (w : World) : KeepBox n Bs w w := ⟨Below.refl _ _, rfl⟩
open Go.RowKit in
theorem KeepBox.trans {n Bs : Nat} {a b c : World} (h : KeepBox n Bs a b) (k : KeepBox n Bs b c) : KeepBox n Bs a c := ⟨h.1.trans k.1, k.2.trans h.2⟩
open Go.RowKit in
theorem KeepBox.cell {n Bs : Nat} {a b : World} (h : KeepBox n Bs a b) {v : Value} (hc : a.cell? ⟨Bs, 0, none⟩ = some v) : b.cell? ⟨Bs, 0, none⟩ = some v := by
 simp only [World.cell?, h.2] at hc ⊢; exact hc
def back (xs : List Nat) (j : Nat) : Nat × Nat := (xs.length - 1 - j, xs[xs.length - 1 - j]?.getD 0)
end Go.Tre
namespace Go.Proofs.YtaleodkbghogfaaGreatDoor.gr
open Go.RowKit Go.Shelf Go.Tre
attribute [local go_sem] Oper.semAt_some

set_option maxRecDepth 100000 in
set_option maxHeartbeats 2000000 in
theorem back1_in (F : Fence) (n : Nat) (hf : F.fn 47) (hro : F.round = none) (hn : 1 ≤ n) (l Bs n₀ : Nat) (a : Option Addr) (cap : Nat) (xs : List Nat) (hlen : xs.length ≤ 8388608) (J Jx : List (Nat × Nat) → World → Prop)
  (hY : ∀ pre x W, J pre W → pre.length < xs.length → YieldAt F (n - 1) Tryz.prog l #[.int .i64 (x.1 : Int), .int .i64 (x.2 : Int)] W fun e W' =>
   (e = .returned (.bool true) ∧ J (pre ++ [x]) W' ∧ KeepBox n₀ Bs W W') ∨ (e = .returned (.bool false) ∧ Jx (pre ++ [x]) W'))
  (W : World) (hBs : W.cell? ⟨Bs, 0, none⟩ = some (.slice a xs.length cap)) (hc : IntsIn n₀ W a xs) (h0 : J [] W) :
  CallsIn F n Tryz.prog 47 #[.func (.yield l) #[] #[], .pointer (some ⟨Bs, 0, none⟩)] W fun e W' => (∃ v, e = .returned v) ∧
   ((∃ ys, ys = upto (back xs) xs.length ∧ J ys W') ∨ (∃ pre, (∃ k, k ≤ xs.length ∧ pre = upto (back xs) k) ∧ Jx pre W')) := by
 refine callsIn_of_wp Tryz.func47 rfl hf ?_ hro
 simp only [Tryz.ntmps47, List.size_toArray, List.length_cons, List.length_nil, Nat.reduceAdd, Nat.reduceSub, Array.replicate_succ, Array.replicate_zero, List.push_toArray, List.append_toArray, List.nil_append, List.cons_append]
 have HC := Tre.hid hc
 clear hc
 gi_wp2
 gi_loopw [3] (fun i wr => ∃ t k : Nat, t + k = xs.length ∧ i = .int .i64 ((t : Int) - 1) ∧ J (upto (back xs) k) wr ∧ KeepBox n₀ Bs W wr)
  (fun i _ => (intOf i + 1).toNat)
 case atStart => exact ⟨xs.length, 0, rfl, rfl, h0, KeepBox.refl _ _ _⟩
 case round =>
  obtain ⟨t, k, hk, rfl, hJs, hnx⟩ := hrel
  have HK := Tre.hid hk
  clear hk
  cases t with
  | zero =>
   gi_wp2
   go_end0
   have := HK.out
   exact ⟨⟨_, rfl⟩, .inl ⟨_, by rw [← this]; simp, hJs⟩⟩
  | succ t =>
   rw [show (((t + 1 : Nat) : Int) - 1) = (t : Int) by omega]
   have hlt : t < xs.length := by have := HK.out; omega
   have hkl : k < xs.length := by have := HK.out; omega
   obtain ⟨b, off, rfl, hb, hcx⟩ := (HC.out.below hnx.1) t xs[t] (List.getElem?_eq_getElem hlt)
   have eb : back xs k = (t, xs[t]) := by
    have := HK.out
    unfold back
    rw [show xs.length - 1 - k = t by omega, List.getElem?_eq_getElem hlt]; rfl
   have hbs : wr.cell? ⟨Bs, 0, none⟩ = some (.slice (some ⟨b, off, none⟩) xs.length cap) := hnx.cell hBs
   obtain ⟨fn, tmps, assign, body, hy, hR⟩ := hY _ (t, xs[t]) wr hJs (by rw [upto_length]; exact hkl)
   dsimp only at hy hR
   generalize hx : xs[t] = x at *
   have HX := Tre.hid hx
   have EB := Tre.hid eb
   have i1 : (0 : Int) ≤ t := by omega
   have i2 : (t : Int) < xs.length := by omega
   clear hx eb
   gi_wp2
   refine hR.mono ?_
   rintro e W3 (⟨rfl, hJ3, hk3⟩ | ⟨rfl, hJx3⟩)
   ·gi_wp2
    go_roundw
    case rel => exact ⟨t, k + 1, by have := HK.out; omega, by simp, by rw [upto_succ, EB.out]; exact hJ3, hnx.trans hk3⟩
    case measure => simp [intOf]
   ·gi_wp2
    refine bodyPost_ret (results_none rfl _ _ _) rfl ?_
    exact ⟨⟨_, rfl⟩, .inr ⟨_, ⟨k + 1, by omega, by rw [upto_succ, EB.out]⟩, hJx3⟩⟩

set_option maxHeartbeats 1000000 in
theorem back_in (F : Fence) (n : Nat) (hf : F.fn 31) (hro : F.round = none) (a : Option Addr) (len cap : Nat) (w : World) :
  CallsIn F n Tryz.prog 31 #[.slice a len cap] w fun e w' => e = .returned (.func (.func 47) #[] #[.pointer (some ⟨w.heap.size, 0, none⟩)]) ∧ w' = w.alloc (.cells #[.slice a len cap] 30) := by
 refine callsIn_of_wp Tryz.func31 rfl hf ?_ hro
 simp only [Tryz.ntmps31, List.size_toArray, List.length_cons, List.length_nil, Nat.reduceAdd, Nat.reduceSub, Array.replicate_succ, Array.replicate_zero, List.push_toArray, List.append_toArray, List.nil_append, List.cons_append]
 gi_wp2
 go_ret
 exact ⟨rfl, rfl⟩

theorem back_stops (F : Fence) (n : Nat) (hf : F.fn 47) (hro : F.round = none) (hn : 1 ≤ n) (Bs n₀ : Nat) (a : Option Addr) (cap : Nat) (xs : List Nat) (hlen : xs.length ≤ 8388608) (w : World) (hB : Bs < w.heap.size) (hn₀ : n₀ ≤ w.heap.size)
  (hc : w.cell? ⟨Bs, 0, none⟩ = some (.slice a xs.length cap)) (hI : IntsIn n₀ w a xs) :
  SeqStopsK F n Tryz.prog 47 #[.pointer (some ⟨Bs, 0, none⟩)] (fun x : Nat × Nat => #[Value.int .i64 (x.1 : Int), Value.int .i64 (x.2 : Int)]) (KeepBox n₀ Bs) (fun ys => ys = upto (back xs) xs.length)
   (fun pre => ∃ k, k ≤ xs.length ∧ pre = upto (back xs) k) xs.length w := fun l J Jx W hW _ _ hY h0 => by
 have hc' := (hW.cell (p := ⟨Bs, 0, none⟩) hB).trans hc
 exact back1_in F n hf hro hn l Bs n₀ a cap xs hlen J Jx hY W hc' (hI.below (hW.mono hn₀)) h0
end Go.Proofs.YtaleodkbghogfaaGreatDoor.gr
namespace Go.Tre
open Go.RowKit Go.Shelf
def mark (D : Nat) : Deferred := { target := .collected D, args := #[] }
def Marks (base : Nat) (w : World) (Ds : List Nat) : Prop := Ds.Nodup ∧ ∀ D ∈ Ds, base ≤ D ∧ w.heap[D]? = some (.deferred (some []))
def CellsKept (w w' : World) : Prop := ∀ (b : Nat) (cs : Array Value) (t : TypeId) (z : Nat × Nat), w.heap[b]? = some (.cells cs t z) → w'.heap[b]? = some (.cells cs t z)
theorem heap_putObj {w : World} {l : Nat} {o o' : Obj} (h : w.heap[l]? = some o) : (w.putObj l o').heap[l]? = some o' := by
 have hlt := (Array.getElem?_eq_some_iff.1 h).1
 simp [World.putObj, hlt]
theorem leaves_marks {F : Fence} {n : Nat} {P : Program} {fn : Func} {tmps : Array Value} {R : Ending → World → Prop} {u : FrameMode} (hu : u ≠ .run) (base : Nat) : ∀ (Ds : List Nat) (w : World), Marks base w Ds →
  (∀ w', Below base w w' → CellsKept w w' → LeavesInM F n P fn tmps R [] u w') → LeavesInM F n P fn tmps R (Ds.map mark) u w
 | [], w, _, h => h w (Below.refl _ _) (fun _ _ _ _ e => e)
 | D :: Ds, w, hm, h => by
  obtain ⟨hn, hd⟩ := hm
  have hK := (hd D (by simp)).2
  have hg := grownBy_putObj' w D (.deferred none)
  refine ⟨hu, .inl ⟨D, _, rfl, run_takeDeferred hK, ?_⟩⟩
  refine leaves_marks hu base Ds _ ⟨(List.nodup_cons.1 hn).2, fun E hE => ⟨(hd E (by simp [hE])).1, ?_⟩⟩ (fun w' hb hc => h w' ?_ ?_)
  ·have hne : E ≠ D := fun e => (List.nodup_cons.1 hn).1 (e ▸ hE)
   have hk := (hd E (by simp [hE])).2
   exact (hg.block E (Array.getElem?_eq_some_iff.1 hk).1 (by simpa using hne)).trans hk
  ·have hlt := (Array.getElem?_eq_some_iff.1 hK).1
   exact Below.trans (Below.mk hg.os hg.tape hg.output hg.size (fun k hk => hg.block k (by have := (hd D (by simp)).1; omega) (by have := (hd D (by simp)).1; simp; omega))) hb
  ·intro b cs t z e
   refine hc b cs t z ((hg.block b (Array.getElem?_eq_some_iff.1 e).1 ?_).trans e)
   intro e'
   cases e'
   rw [hK] at e; cases e
end Go.Tre
namespace Go.Proofs.YtaleodkbghogfaaGreatDoor.gr
open Go.RowKit Go.Maps Go.Tre lex

set_option maxHeartbeats 2000000 in
theorem indexInts (F : Nat) (caps : Array Value) (hcf : ∀ (args : Array Value) (w : World), (callFunc F args).run Tryz.prog w = .ok (.enter F args) w) (p : Int → Bool)
  (a : Option Addr) (cap : Nat) (xs : List Int) (w : World) (hx : IntsAt w a xs) (hlen : xs.length ≤ 8388608)
  (hF : ∀ x wx, x ∈ xs → Below w.heap.size w wx → Calls Tryz.prog F (#[.int .i64 x] ++ caps) wx fun e w' => e = .returned (.bool (p x)) ∧ Below wx.heap.size wx w') :
  Calls Tryz.prog 59 #[.slice a xs.length cap, .func (.func F) #[] caps] w fun e w' => e = .returned (.int .i64 (idxFunc p xs)) ∧ Below w.heap.size w w' := by
 have HF := Tre.hid hF
 clear hF
 go_enter Tryz.func59, Tryz.ntmps59
 go_wp2_with fail
 go_loopw [8] (fun i wr => ∃ k : Nat, k ≤ xs.length ∧ i = .int .i64 k ∧ (∀ j (hj : j < xs.length), j < k → p xs[j] = false) ∧ Below w.heap.size w wr) (fun i _ => xs.length - (intOf i).toNat)
 case atStart => exact ⟨0, Nat.zero_le _, rfl, fun j _ h => by omega, Below.refl _ _⟩
 case round =>
  obtain ⟨k, hk, rfl, hrel, hb⟩ := hrel
  have HR := Tre.hid hrel
  clear hrel
  by_cases hlt : k < xs.length
  ·obtain ⟨b, off, rfl, hc⟩ := (hx.below hb).at_ k (.int .i64 xs[k]) (by simp [List.getElem?_eq_getElem hlt])
   have hmem := List.getElem_mem hlt
   by_cases hp : p xs[k] = true
   ·have HO := Tre.hid (idxFunc_hit hlt hp HR.out)
    go_wp2_with fail
    refine (HF.out xs[k] _ hmem hb).mono ?_
    rintro e w' ⟨rfl, hb'⟩
    go_wp2_with fail
    go_ret
    exact ⟨ret_int HO.out.symm, hb.trans (hb'.mono hb.size)⟩
   ·have hp' : p xs[k] = false := by simpa using hp
    have HP := Tre.hid hp'
    clear hp
    go_wp2_with fail
    refine (HF.out xs[k] _ hmem hb).mono ?_
    rintro e w' ⟨rfl, hb'⟩
    go_wp2_with fail
    go_roundw
    case rel =>
     refine ⟨k + 1, by omega, by go_num, fun j hj hjk => ?_, hb.trans (hb'.mono hb.size)⟩
     by_cases e : j = k
     ·subst e; exact HP.out
     ·exact HR.out j hj (by omega)
    case measure => simp [intOf]; omega
  ·have HO := Tre.hid (idxFunc_miss (p := p) (xs := xs) (fun j hj => HR.out j hj (by omega)))
   go_wp2_with fail
   go_ret
   exact ⟨ret_int HO.out.symm, hb⟩

set_option maxHeartbeats 1000000 in
theorem containsInts (F : Nat) (caps : Array Value) (hcf : ∀ (args : Array Value) (w : World), (callFunc F args).run Tryz.prog w = .ok (.enter F args) w) (p : Int → Bool)
  (a : Option Addr) (cap : Nat) (xs : List Int) (w : World) (hx : IntsAt w a xs) (hlen : xs.length ≤ 8388608)
  (hF : ∀ x wx, x ∈ xs → Below w.heap.size w wx → Calls Tryz.prog F (#[.int .i64 x] ++ caps) wx fun e w' => e = .returned (.bool (p x)) ∧ Below wx.heap.size wx w') :
  Calls Tryz.prog 37 #[.slice a xs.length cap, .func (.func F) #[] caps] w fun e w' => e = .returned (.bool (xs.any p)) ∧ Below w.heap.size w w' := by
 have HI := Tre.hid (indexInts F caps hcf p a cap xs w hx hlen hF)
 have HA := Tre.hid (idxFunc_any p xs)
 clear hF hx hcf
 go_enter Tryz.func37, Tryz.ntmps37
 go_wp2_with fail
 refine HI.out.mono ?_
 rintro e w' ⟨rfl, hb'⟩
 go_wp2_with fail
 go_ret
 exact ⟨ret_bool HA.out, hb'⟩

theorem may1 (x : Int) (n : Nat) (b : Nat) (w : World) (hc : w.cell? ⟨b, 0, none⟩ = some (.int .i64 n)) :
  Calls Tryz.prog 38 #[.int .i64 x, .pointer (some ⟨b, 0, none⟩)] w fun e w' => e = .returned (.bool (outside n x)) ∧ Below w.heap.size w w' := by
 by_cases h0 : x < 0
 ·have H : Hid (outside n x = true) := by show _ = _; unfold outside; simp [h0]
  go_enter Tryz.func38, Tryz.ntmps38
  go_wp2_with fail
  go_ret
  exact ⟨ret_bool H.out.symm, Below.refl _ _⟩
 ·have H : Hid (outside n x = decide ((n : Int) ≤ x)) := by show _ = _; unfold outside; simp [h0]
  go_enter Tryz.func38, Tryz.ntmps38
  go_wp2_with fail
  go_ret
  exact ⟨ret_bool H.out.symm, Below.refl _ _⟩
end Go.Proofs.YtaleodkbghogfaaGreatDoor.gr
