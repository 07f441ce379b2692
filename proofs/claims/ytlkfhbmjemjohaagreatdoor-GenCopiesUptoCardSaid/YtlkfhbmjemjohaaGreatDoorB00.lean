/- How lists, nodes and graphs lie in memory; what stays while other blocks are written. Great: how much a graph is. slices.Backward over ints: the iterator's contract. After the kit's text on slices.All. A function that goes through loops over functions in a plain loop leaves with many marks. Names and words: lex.goes, lex.word, and the reference's letter, digit, small, word. Which words are keys: the text of all of them, blanks between, holds a word between blanks just if it is one of them. The walks of lex.IsKey, lex.IsName, of the reference's word, IsKey, IsName: one plain function each, the same on both sides. lex.IsName. -/
import Derived.WalkKit
import Derived.Test.YtlkfhbmjemjohaaGreatDoorRows
import Derived.WalkSpells
import Derived.WalkLawsBesides
import Derived.RangeFuncNested
import Derived.RangeFuncBox
import Derived.RangeFuncLeaves
import Derived.Shelf.Abstract
import Derived.OwnWalkIn
import Derived.TacticsInMore
import Derived.LoopNIn
import Derived.LoopIn
import Derived.Lib.IndexMore
import Derived.Test.YtlkfhbmjemjohaaGreatDoorShelf
set_option linter.unusedVariables false
namespace Go.Tre
open Go.RowKit

theorem hid {p : Prop} (h : p) : Hid p := h

/-- A slice of n elements of sz cells, at address a: its cells, one behind the other, are cs. -/
structure Row (w : World) (sz : Nat) (a : Option Addr) (n : Nat) (cs : List Value) : Prop where
  len : cs.length = n * sz
  at_ : ∀ j u, cs[j]? = some u → ∃ b off, a = some ⟨b, off, none⟩ ∧ w.cell? ⟨b, off + j, none⟩ = some u

theorem cell_below {w w' : World} (h : Below w.heap.size w w') {p : Addr} {v : Value} (hc : w.cell? p = some v) : w'.cell? p = some v :=
  (h.cell (World.block_lt_of_cell? w p hc)).trans hc

theorem Row.below {w w' : World} {sz : Nat} {a : Option Addr} {n : Nat} {cs : List Value} (h : Row w sz a n cs) (hb : Below w.heap.size w w') : Row w' sz a n cs :=
  ⟨h.len, fun j u hu => by obtain ⟨b, off, e, hc⟩ := h.at_ j u hu; exact ⟨b, off, e, cell_below hb hc⟩⟩

structure Node where
  kind : Int
  name : ByteArray
  args : List Int
  labels : List ByteArray
  isOpen : Bool

structure Graph where
  ns : List Node
  root : Int

abbrev IntsAt (w : World) (a : Option Addr) (xs : List Int) : Prop := Row w 1 a xs.length (xs.map (Value.int .i64))
abbrev StrsAt (w : World) (a : Option Addr) (xs : List ByteArray) : Prop := Row w 1 a xs.length (xs.map Value.string)

/-- The five cells from p on, in block b, are a node. -/
def NodeAt (w : World) (b p : Nat) (n : Node) : Prop :=
  ∃ aa ca al cl, w.cell? ⟨b, p, none⟩ = some (.int .i64 n.kind) ∧ w.cell? ⟨b, p + 1, none⟩ = some (.string n.name) ∧ w.cell? ⟨b, p + 2, none⟩ = some (.slice aa n.args.length ca) ∧
    w.cell? ⟨b, p + 3, none⟩ = some (.slice al n.labels.length cl) ∧ w.cell? ⟨b, p + 4, none⟩ = some (.bool n.isOpen) ∧ IntsAt w aa n.args ∧ StrsAt w al n.labels ∧ n.args.length ≤ ca ∧ n.labels.length ≤ cl

structure NodesAt (w : World) (a : Option Addr) (ns : List Node) : Prop where
  at_ : ∀ (k : Nat) (n : Node), ns[k]? = some n → ∃ b off, a = some ⟨b, off, none⟩ ∧ NodeAt w b (off + k * 5) n

theorem NodeAt.below {w w' : World} {b p : Nat} {n : Node} (h : NodeAt w b p n) (hb : Below w.heap.size w w') : NodeAt w' b p n := by
  obtain ⟨aa, ca, al, cl, h0, h1, h2, h3, h4, h5, h6, h7⟩ := h
  exact ⟨aa, ca, al, cl, cell_below hb h0, cell_below hb h1, cell_below hb h2, cell_below hb h3, cell_below hb h4, h5.below hb, h6.below hb, h7⟩

theorem NodesAt.below {w w' : World} {a : Option Addr} {ns : List Node} (h : NodesAt w a ns) (hb : Below w.heap.size w w') : NodesAt w' a ns :=
  ⟨fun k n hk => by
    obtain ⟨b, off, e, hn⟩ := h.at_ k n hk
    exact ⟨b, off, e, hn.below hb⟩⟩

/-- how much a node weighs -/
def Node.weight (n : Node) : Nat := 1 + n.name.size + n.args.length + (n.labels.map fun s => s.size + 1).sum
def Graph.weight (g : Graph) : Nat := (g.ns.map Node.weight).sum

theorem sum_take_succ {α : Type} (f : α → Nat) (l : List α) (k : Nat) (x : α) (h : l[k]? = some x) : ((l.take (k + 1)).map f).sum = ((l.take k).map f).sum + f x := by
  rw [List.take_add_one, h]; simp
theorem sum_take_le {α : Type} (f : α → Nat) (l : List α) (k : Nat) : ((l.take k).map f).sum ≤ (l.map f).sum := by
  have e : (l.map f).sum = ((l.take k).map f).sum + ((l.drop k).map f).sum := by rw [← List.sum_append, ← List.map_append, List.take_append_drop]
  omega
theorem length_le_sum {α : Type} (f : α → Nat) (h : ∀ x, 1 ≤ f x) (l : List α) : l.length ≤ (l.map f).sum := by
  induction l with
  | nil => simp
  | cons x r ih => simp; have := h x; omega
end Go.Tre
namespace Go.Tre
def big (s : ByteArray) : Nat := if 1000 < s.size then 1000 else 0
def Node.great (n : Node) : Nat := n.args.length + n.labels.length + big n.name + (n.labels.map big).sum
def Graph.great (g : Graph) : Nat := g.ns.length + (g.ns.map Node.great).sum
theorem big_le (s : ByteArray) : big s ≤ s.size := by unfold big; split <;> omega
theorem bigs_le (l : List ByteArray) : (l.map big).sum + l.length ≤ (l.map fun s => s.size + 1).sum := by
  induction l with
  | nil => simp
  | cons s r ih => have := big_le s; simp; omega
theorem Node.great_le (n : Node) : n.great + 1 ≤ n.weight := by
  have := big_le n.name; have := bigs_le n.labels
  unfold Node.great Node.weight; omega
theorem Graph.great_le (g : Graph) : g.great ≤ g.weight := by
  unfold Graph.great Graph.weight
  have : ∀ l : List Node, l.length + (l.map Node.great).sum ≤ (l.map Node.weight).sum := fun l => by
    induction l with
    | nil => simp
    | cons x r ih => have := x.great_le; simp; omega
  exact this g.ns
end Go.Tre
namespace Go.Tre
/-- what has come when k rounds are over -/
def upto {α : Type} (f : Nat → α) (k : Nat) : List α := (List.range k).map f
theorem upto_succ {α : Type} (f : Nat → α) (k : Nat) : upto f (k + 1) = upto f k ++ [f k] := by simp [upto, List.range_succ]
theorem upto_length {α : Type} (f : Nat → α) (k : Nat) : (upto f k).length = k := by simp [upto]
/-- the numbers xs, each in a block below n -/
def IntsIn (n : Nat) (w : World) (a : Option Addr) (xs : List Nat) : Prop :=
  ∀ (j u : Nat), xs[j]? = some u → ∃ b off, a = some ⟨b, off, none⟩ ∧ b < n ∧ w.cell? ⟨b, off + j, none⟩ = some (.int .i64 (u : Int))
open Go.RowKit in
theorem IntsIn.below {n : Nat} {w w' : World} {a : Option Addr} {xs : List Nat} (h : IntsIn n w a xs) (hb : Below n w w') : IntsIn n w' a xs :=
  fun j u hu => by
    obtain ⟨b, off, e, hl, hc⟩ := h j u hu
    exact ⟨b, off, e, hl, (hb.cell (p := ⟨b, off + j, none⟩) hl).trans hc⟩
open Go.RowKit in
/-- what a round keeps: all below n; the iterator's own box -/
def KeepBox (n Bs : Nat) (w w' : World) : Prop := Below n w w' ∧ w'.heap[Bs]? = w.heap[Bs]?
open Go.RowKit in
theorem KeepBox.refl (n Bs : Nat) (w : World) : KeepBox n Bs w w := ⟨Below.refl _ _, rfl⟩
open Go.RowKit in
theorem KeepBox.trans {n Bs : Nat} {a b c : World} (h : KeepBox n Bs a b) (k : KeepBox n Bs b c) : KeepBox n Bs a c := ⟨h.1.trans k.1, k.2.trans h.2⟩
open Go.RowKit in
theorem KeepBox.cell {n Bs : Nat} {a b : World} (h : KeepBox n Bs a b) {v : Value} (hc : a.cell? ⟨Bs, 0, none⟩ = some v) : b.cell? ⟨Bs, 0, none⟩ = some v := by
  simp only [World.cell?, h.2] at hc ⊢; exact hc
def back (xs : List Nat) (j : Nat) : Nat × Nat := (xs.length - 1 - j, xs[xs.length - 1 - j]?.getD 0)
end Go.Tre
namespace Go.Proofs.YtlkfhbmjemjohaaGreatDoor.gr
open Go.RowKit Go.Shelf Go.Tre
attribute [local go_sem] Oper.semAt_some

set_option maxRecDepth 100000 in
set_option maxHeartbeats 2000000 in
theorem back1_in (F : Fence) (n : Nat) (hf : F.fn 51) (hro : F.round = none) (hn : 1 ≤ n) (l Bs n₀ : Nat) (a : Option Addr) (cap : Nat) (xs : List Nat) (hlen : xs.length ≤ 8388608) (J Jx : List (Nat × Nat) → World → Prop)
    (hY : ∀ pre x W, J pre W → pre.length < xs.length → YieldAt F (n - 1) Tryz.prog l #[.int .i64 (x.1 : Int), .int .i64 (x.2 : Int)] W fun e W' =>
      (e = .returned (.bool true) ∧ J (pre ++ [x]) W' ∧ KeepBox n₀ Bs W W') ∨ (e = .returned (.bool false) ∧ Jx (pre ++ [x]) W'))
    (W : World) (hBs : W.cell? ⟨Bs, 0, none⟩ = some (.slice a xs.length cap)) (hc : IntsIn n₀ W a xs) (h0 : J [] W) :
    CallsIn F n Tryz.prog 51 #[.func (.yield l) #[] #[], .pointer (some ⟨Bs, 0, none⟩)] W fun e W' => (∃ v, e = .returned v) ∧
      ((∃ ys, ys = upto (back xs) xs.length ∧ J ys W') ∨ (∃ pre, (∃ k, k ≤ xs.length ∧ pre = upto (back xs) k) ∧ Jx pre W')) := by
  refine callsIn_of_wp Tryz.func51 rfl hf ?_ hro
  simp only [Tryz.ntmps51, List.size_toArray, List.length_cons, List.length_nil, Nat.reduceAdd, Nat.reduceSub, Array.replicate_succ, Array.replicate_zero, List.push_toArray, List.append_toArray, List.nil_append, List.cons_append]
  have HC := Tre.hid hc
  clear hc
  gi_wp2
  gi_loopw [3] (fun i wr => ∃ t k : Nat, t + k = xs.length ∧ i = .int .i64 ((t : Int) - 1) ∧ J (upto (back xs) k) wr ∧ KeepBox n₀ Bs W wr)
    (fun i _ => (intOf i + 1).toNat)
  case atStart => exact ⟨xs.length, 0, rfl, rfl, h0, KeepBox.refl _ _ _⟩
  case round =>
    obtain ⟨t, k, hk, rfl, hJs, hnx⟩ := hrel
    have HK := Tre.hid hk
    clear hk
    cases t with
    | zero =>
      gi_wp2
      go_end0
      have := HK.out
      exact ⟨⟨_, rfl⟩, .inl ⟨_, by rw [← this]; simp, hJs⟩⟩
    | succ t =>
      rw [show (((t + 1 : Nat) : Int) - 1) = (t : Int) by omega]
      have hlt : t < xs.length := by have := HK.out; omega
      have hkl : k < xs.length := by have := HK.out; omega
      obtain ⟨b, off, rfl, hb, hcx⟩ := (HC.out.below hnx.1) t xs[t] (List.getElem?_eq_getElem hlt)
      have eb : back xs k = (t, xs[t]) := by
        have := HK.out
        unfold back
        rw [show xs.length - 1 - k = t by omega, List.getElem?_eq_getElem hlt]; rfl
      have hbs : wr.cell? ⟨Bs, 0, none⟩ = some (.slice (some ⟨b, off, none⟩) xs.length cap) := hnx.cell hBs
      obtain ⟨fn, tmps, assign, body, hy, hR⟩ := hY _ (t, xs[t]) wr hJs (by rw [upto_length]; exact hkl)
      dsimp only at hy hR
      generalize hx : xs[t] = x at *
      have HX := Tre.hid hx
      have EB := Tre.hid eb
      have i1 : (0 : Int) ≤ t := by omega
      have i2 : (t : Int) < xs.length := by omega
      clear hx eb
      gi_wp2
      refine hR.mono ?_
      rintro e W3 (⟨rfl, hJ3, hk3⟩ | ⟨rfl, hJx3⟩)
      · gi_wp2
        go_roundw
        case rel => exact ⟨t, k + 1, by have := HK.out; omega, by simp, by rw [upto_succ, EB.out]; exact hJ3, hnx.trans hk3⟩
        case measure => simp [intOf]
      · gi_wp2
        refine bodyPost_ret (results_none rfl _ _ _) rfl ?_
        exact ⟨⟨_, rfl⟩, .inr ⟨_, ⟨k + 1, by omega, by rw [upto_succ, EB.out]⟩, hJx3⟩⟩

set_option maxHeartbeats 1000000 in
theorem back_in (F : Fence) (n : Nat) (hf : F.fn 40) (hro : F.round = none) (a : Option Addr) (len cap : Nat) (w : World) :
    CallsIn F n Tryz.prog 40 #[.slice a len cap] w fun e w' => e = .returned (.func (.func 51) #[] #[.pointer (some ⟨w.heap.size, 0, none⟩)]) ∧ w' = w.alloc (.cells #[.slice a len cap] 31) := by
  refine callsIn_of_wp Tryz.func40 rfl hf ?_ hro
  simp only [Tryz.ntmps40, List.size_toArray, List.length_cons, List.length_nil, Nat.reduceAdd, Nat.reduceSub, Array.replicate_succ, Array.replicate_zero, List.push_toArray, List.append_toArray, List.nil_append, List.cons_append]
  gi_wp2
  go_ret
  exact ⟨rfl, rfl⟩

/-- the iterator's contract -/
theorem back_stops (F : Fence) (n : Nat) (hf : F.fn 51) (hro : F.round = none) (hn : 1 ≤ n) (Bs n₀ : Nat) (a : Option Addr) (cap : Nat) (xs : List Nat) (hlen : xs.length ≤ 8388608) (w : World) (hB : Bs < w.heap.size) (hn₀ : n₀ ≤ w.heap.size)
    (hc : w.cell? ⟨Bs, 0, none⟩ = some (.slice a xs.length cap)) (hI : IntsIn n₀ w a xs) :
    SeqStopsK F n Tryz.prog 51 #[.pointer (some ⟨Bs, 0, none⟩)] (fun x : Nat × Nat => #[Value.int .i64 (x.1 : Int), Value.int .i64 (x.2 : Int)]) (KeepBox n₀ Bs) (fun ys => ys = upto (back xs) xs.length)
      (fun pre => ∃ k, k ≤ xs.length ∧ pre = upto (back xs) k) xs.length w := fun l J Jx W hW _ _ hY h0 => by
  have hc' := (hW.cell (p := ⟨Bs, 0, none⟩) hB).trans hc
  exact back1_in F n hf hro hn l Bs n₀ a cap xs hlen J Jx hY W hc' (hI.below (hW.mono hn₀)) h0
end Go.Proofs.YtlkfhbmjemjohaaGreatDoor.gr
namespace Go.Tre
open Go.RowKit Go.Shelf
def mark (D : Nat) : Deferred := { target := .collected D, args := #[] }
/-- the blocks of the rounds' deferred calls: there are none -/
def Marks (base : Nat) (w : World) (Ds : List Nat) : Prop := Ds.Nodup ∧ ∀ D ∈ Ds, base ≤ D ∧ w.heap[D]? = some (.deferred (some []))
def CellsKept (w w' : World) : Prop := ∀ (b : Nat) (cs : Array Value) (t : TypeId) (z : Nat × Nat), w.heap[b]? = some (.cells cs t z) → w'.heap[b]? = some (.cells cs t z)
theorem leaves_marks {F : Fence} {n : Nat} {P : Program} {fn : Func} {tmps : Array Value} {R : Ending → World → Prop} {u : FrameMode} (hu : u ≠ .run) (base : Nat) : ∀ (Ds : List Nat) (w : World), Marks base w Ds →
    (∀ w', Below base w w' → CellsKept w w' → LeavesInM F n P fn tmps R [] u w') → LeavesInM F n P fn tmps R (Ds.map mark) u w
  | [], w, _, h => h w (Below.refl _ _) (fun _ _ _ _ e => e)
  | D :: Ds, w, hm, h => by
    obtain ⟨hn, hd⟩ := hm
    have hK := (hd D (by simp)).2
    have hg := grownBy_putObj' w D (.deferred none)
    refine ⟨hu, .inl ⟨D, _, rfl, run_takeDeferred hK, ?_⟩⟩
    refine leaves_marks hu base Ds _ ⟨(List.nodup_cons.1 hn).2, fun E hE => ⟨(hd E (by simp [hE])).1, ?_⟩⟩ (fun w' hb hc => h w' ?_ ?_)
    · have hne : E ≠ D := fun e => (List.nodup_cons.1 hn).1 (e ▸ hE)
      have hk := (hd E (by simp [hE])).2
      exact (hg.block E (Array.getElem?_eq_some_iff.1 hk).1 (by simpa using hne)).trans hk
    · have hlt := (Array.getElem?_eq_some_iff.1 hK).1
      exact Below.trans (Below.mk hg.os hg.tape hg.output hg.size (fun k hk => hg.block k (by have := (hd D (by simp)).1; omega) (by have := (hd D (by simp)).1; simp; omega))) hb
    · intro b cs t z e
      refine hc b cs t z ((hg.block b (Array.getElem?_eq_some_iff.1 e).1 ?_).trans e)
      intro e'
      cases e'
      rw [hK] at e; cases e
end Go.Tre
namespace Go.Tre
/-- may a byte go on a word, or begin one? -/
def goesB (c : Int) (b : Bool) : Bool := if (48 ≤ c ∧ c ≤ 57) ∨ (65 ≤ c ∧ c ≤ 90) then !b else decide ((97 ≤ c ∧ c ≤ 122) ∨ c = 95)
def wordFrom (b : Bool) : List UInt8 → Nat
  | [] => 0
  | c :: r => if goesB c.toNat b then 1 + wordFrom false r else 0
def wordLen (s : ByteArray) : Nat := wordFrom true s.data.toList
end Go.Tre
namespace Go.Proofs.YtlkfhbmjemjohaaGreatDoor.lex
open Go.RowKit Go.Tre

theorem ret_int {k : IntKind} {a b : Int} (h : a = b) : Ending.returned (.int k a) = .returned (.int k b) := by rw [h]
theorem nat_beq0 (k : Nat) : ((k : Int) == 0) = (k == 0) := by
  cases k
  · rfl
  · simp; omega
theorem drop_at (s : ByteArray) (k : Nat) (h : k < s.size) : s.data.toList.drop k = s[k] :: s.data.toList.drop (k + 1) := by
  rw [List.drop_eq_getElem_cons (by simpa using h)]; rfl
theorem ret_bool {x y : Bool} (h : x = y) : Ending.returned (.bool x) = .returned (.bool y) := by rw [h]

set_option maxHeartbeats 1000000 in
theorem goes (c : Int) (b : Bool) (w : World) (h0 : 0 ≤ c) (h1 : c ≤ 255) :
    Calls Tryz.prog 74 #[.int .u8 c, .bool b] w fun e w' => e = .returned (.bool (goesB c b)) ∧ w = w' := by
  have H : c < 48 ∨ (48 ≤ c ∧ c ≤ 57) ∨ (57 < c ∧ c < 65) ∨ (65 ≤ c ∧ c ≤ 90) ∨ (90 < c ∧ c < 95) ∨ c = 95 ∨ c = 96 ∨ (97 ≤ c ∧ c ≤ 122) ∨ 122 < c := by omega
  cases b
  all_goals
    rcases H with h | ⟨h, h'⟩ | ⟨h, h'⟩ | ⟨h, h'⟩ | ⟨h, h'⟩ | rfl | rfl | ⟨h, h'⟩ | h
    all_goals
      go_enter Tryz.func74, Tryz.ntmps74
      go_wp2_with fail
      go_ret
      refine ⟨ret_bool ?_, rfl⟩
      unfold goesB
      simp
      try omega

set_option maxHeartbeats 1000000 in
theorem word (s : ByteArray) (w : World) (hs : s.size ≤ 8388608) :
    Calls Tryz.prog 60 #[.string s] w fun e w' => e = .returned (.int .i64 (wordLen s)) ∧ w = w' := by
  go_enter Tryz.func60, Tryz.ntmps60
  go_wp2_with fail
  go_loop [3] (fun n => ∃ k : Nat, k ≤ s.size ∧ n = .int .i64 k ∧ wordLen s = k + wordFrom (k == 0) (s.data.toList.drop k)) (fun n => s.size - (intOf n).toNat)
  case atStart => exact ⟨0, Nat.zero_le _, rfl, by simp [wordLen]⟩
  case round =>
    obtain ⟨k, hk, rfl, hrel⟩ := hrel
    have HR := Tre.hid hrel
    clear hrel
    by_cases hlt : k < s.size
    · have hd : s.data.toList.drop k = s[k] :: s.data.toList.drop (k + 1) := drop_at s k hlt
      have h255 := s[k].toNat_lt
      by_cases hg : goesB s[k].toNat ((k : Int) == 0) = true
      · have HW : Hid (wordLen s = (k + 1 : Nat) + wordFrom ((k + 1 : Nat) == 0) (s.data.toList.drop (k + 1))) := by
          show _ = _
          rw [HR.out, hd, wordFrom, ← nat_beq0, if_pos hg, show (k + 1 == 0) = false from rfl]; omega
        clear hd
        go_wp2_with (go_at_call 74; refine (goes _ _ _ (by omega) (by omega)).mono ?_; rintro e w' ⟨rfl, rfl⟩)
        go_round
        case rel => exact ⟨k + 1, by omega, rfl, HW.out⟩
        case measure => simp [intOf]; omega
      · have hg' : goesB s[k].toNat ((k : Int) == 0) = false := by simpa using hg
        have HW : Hid (wordLen s = k) := by
          show _ = _
          rw [HR.out, hd, wordFrom, ← nat_beq0, if_neg (by simpa using hg)]; omega
        clear hd hg
        go_wp2_with (go_at_call 74; refine (goes _ _ _ (by omega) (by omega)).mono ?_; rintro e w' ⟨rfl, rfl⟩)
        go_ret
        exact ⟨ret_int (by rw [HW.out]), rfl⟩
    · have HW : Hid (wordLen s = k) := by
        show _ = _
        rw [HR.out, List.drop_of_length_le (by simp; omega)]; rfl
      go_wp2_with fail
      go_ret
      exact ⟨ret_int (by rw [HW.out]), rfl⟩
end Go.Proofs.YtlkfhbmjemjohaaGreatDoor.lex
namespace Go
theorem zqa {α : Type} {xs : List α} {i : Nat} : xs.toArray[i]? = xs[i]? := List.getElem?_toArray
theorem zqb {α : Type} {a : α} {l : List α} {i : Nat} : (a :: l)[i + 1]? = l[i]? := rfl
theorem zqc {α : Type} {a : α} {l : List α} : (a :: l)[0]? = some a := rfl
theorem zqd {α β : Type} {a : α} {f : α → β} : Option.map f (some a) = some (f a) := rfl
theorem zqe {α : Type} {a b : α} : (some a = some b) = (a = b) := Option.some.injEq a b
theorem zqf {α : Type} {l : List α} {i : Nat} {a : α} : l.toArray.setIfInBounds i a = (l.set i a).toArray := List.setIfInBounds_toArray ..
theorem zqg {α : Type} {x : α} {xs : List α} {a : α} : (x :: xs).set 0 a = a :: xs := rfl
theorem zqh {α : Type} {x : α} {xs : List α} {n : Nat} {a : α} : (x :: xs).set (n + 1) a = x :: xs.set n a := rfl
end Go
namespace Go.Tre

def spaced : List (List UInt8) → List UInt8
 | [] => [32]
 | x :: r => 32 :: (x ++ spaced r)

theorem prefix_word : ∀ (s x r : List UInt8), (∀ c ∈ s, c ≠ 32) → (∀ c ∈ x, c ≠ 32) → (s ++ [32]) <+: (x ++ 32 :: r) → s = x
 | [], [], _, _, _, _ => rfl
 | [], c :: x, r, _, h2, h => by
  obtain ⟨t, ht⟩ := h
  simp at ht
  exact absurd ht.1.symm (h2 c (by simp))
 | a :: s, [], r, h1, _, h => by
  obtain ⟨t, ht⟩ := h
  simp at ht
  exact absurd ht.1 (h1 a (by simp))
 | a :: s, c :: x, r, h1, h2, h => by
  obtain ⟨t, ht⟩ := h
  simp at ht
  obtain ⟨rfl, ht⟩ := ht
  rw [prefix_word s x r (fun c hc => h1 c (by simp [hc])) (fun c hc => h2 c (by simp [hc])) ⟨t, by simpa using ht⟩]

theorem spaced_head : ∀ ws, ∃ r, spaced ws = 32 :: r
 | [] => ⟨[], rfl⟩
 | x :: r => ⟨x ++ spaced r, rfl⟩

theorem infix_skip (n x r : List UInt8) (h : (∀ c ∈ x, c ≠ 32)) (hi : (32 :: n) <:+: (x ++ r)) : (32 :: n) <:+: r := by
 induction x with
 | nil => simpa using hi
 | cons c x ih =>
  rw [List.cons_append, List.infix_cons_iff] at hi
  rcases hi with hi | hi
  ·obtain ⟨t, ht⟩ := hi
   simp at ht
   exact absurd ht.1.symm (h c (by simp))
  ·exact ih (fun d hd => h d (by simp [hd])) hi

theorem infix_spaced (s : List UInt8) (hs : ∀ c ∈ s, c ≠ 32) (h0 : s ≠ []) : ∀ ws : List (List UInt8), (∀ x ∈ ws, ∀ c ∈ x, c ≠ 32) → ((32 :: (s ++ [32])) <:+: spaced ws ↔ s ∈ ws)
 | [], _ => by
  constructor
  ·intro h
   have := h.length_le
   simp [spaced] at this
  ·intro h
   cases h
 | x :: ws, hw => by
  have ih := infix_spaced s hs h0 ws (fun y hy => hw y (by simp [hy]))
  obtain ⟨r, hr⟩ := spaced_head ws
  rw [spaced, List.infix_cons_iff]
  constructor
  ·rintro (h | h)
   ·obtain ⟨t, ht⟩ := h
    simp only [List.cons_append, List.cons.injEq, true_and] at ht
    rw [hr] at ht
    exact List.mem_cons.2 (.inl (prefix_word s x r hs (hw x (by simp)) ⟨t, ht⟩))
   ·exact List.mem_cons_of_mem _ (ih.1 (infix_skip _ x _ (hw x (by simp)) h))
  ·intro h
   rcases List.mem_cons.1 h with rfl | h
   ·refine .inl ⟨r, ?_⟩
    rw [hr]; simp
   ·exact .inr ((ih.2 h).trans ⟨x, [], by simp⟩)

theorem index_infix : ∀ (l s : List UInt8), 0 ≤ Lib.index l s ↔ s <:+: l
 | [], s => by
  unfold Lib.index
  cases s with
  | nil => simp
  | cons a s => simp
 | b :: l, s => by
  have ih := index_infix l s
  have hge := Lib.index_ge l s
  unfold Lib.index
  rw [List.infix_cons_iff]
  by_cases h : s.isPrefixOf (b :: l) = true
  ·rw [if_pos h]
   have := List.isPrefixOf_iff_prefix.1 h
   simp [this]
  ·rw [if_neg h]
   have h' : ¬ s <+: b :: l := fun hp => h (List.isPrefixOf_iff_prefix.2 hp)
   by_cases hm : Lib.index l s = -1
   ·have : ¬ s <:+: l := fun hh => by have := ih.2 hh; omega
    simp [hm, h', this]
   ·have h2 : 0 ≤ Lib.index l s := by omega
    have : s <:+: l := ih.1 h2
    have hm' : (Lib.index l s == -1) = false := by simpa using hm
    simp only [hm', this, or_true, iff_true]
    simp; omega

def keyWords : List (List UInt8) := [[97, 110, 100], [97, 115], [99, 108, 97, 115, 115], [101, 108, 115, 101], [101, 110, 100], [102, 97, 108, 115, 101], [102, 117, 110], [105, 102], [105, 110], [105, 110, 104, 101, 114, 105, 116], [108, 101, 116], [109, 101, 116, 104, 111, 100], [110, 101, 119], [111, 98, 106, 101, 99, 116], [114, 101, 99], [116, 104, 101, 110], [116, 114, 117, 101], [118, 97, 108], [118, 105, 114, 116, 117, 97, 108]]
def isKey (s : ByteArray) : Bool := keyWords.contains s.data.toList
theorem keyWords_no : ∀ x ∈ keyWords, ∀ c ∈ x, c ≠ 32 := by decide
theorem contains_blank (s : List UInt8) : Lib.contains s [32] = decide (32 ∈ s) := by
 unfold Lib.contains
 rw [decide_eq_decide, index_infix]
 constructor
 ·rintro ⟨a, b, rfl⟩; simp
 ·intro h
  obtain ⟨a, b, rfl⟩ := List.append_of_mem h
  exact ⟨a, b, by simp⟩
theorem contains_keys (s : List UInt8) (h : ¬ 32 ∈ s) (h0 : s ≠ []) : Lib.contains (spaced keyWords) (32 :: (s ++ [32])) = keyWords.contains s := by
 unfold Lib.contains
 rw [Bool.eq_iff_iff, decide_eq_true_iff, index_infix, infix_spaced s (fun c hc e => h (e ▸ hc)) h0 _ keyWords_no]
 simp
end Go.Tre
namespace Go.Tre
def MaxAt (w : World) : Prop := ∃ m, w.cell? ⟨1, 0, none⟩ = some (.int .i64 m)
theorem MaxAt.below {w w' : World} (h : MaxAt w) (hb : RowKit.Below w.heap.size w w') : MaxAt w' := by
 obtain ⟨m, hm⟩ := h
 exact ⟨m, cell_below hb hm⟩
def isName (s : ByteArray) : Bool := decide (s.size ≠ 0) && decide (s.size ≤ 100) && decide (wordLen s = s.size) && !isKey s
end Go.Tre
namespace Go.Proofs.YtlkfhbmjemjohaaGreatDoor.lex
open Go.RowKit Go.Tre

theorem contains (s sub : ByteArray) (r : Bool) (w : World) (hs : s.size < 4294967281) (hm : MaxAt w) (hr : Lib.contains s.data.toList sub.data.toList = r) :
  Calls Tryz.prog 75 #[.string s, .string sub] w fun e w' => e = .returned (.bool r) ∧ w = w' := by
 obtain ⟨m, hm⟩ := hm
 refine (Tryz.strings_Contains s sub m w hs hm).mono ?_
 rintro e w' ⟨rfl, hw⟩
 exact ⟨by rw [hr], hw.symm⟩

theorem isKey_blank {s : ByteArray} (h : (32 : UInt8) ∈ s.data.toList) : isKey s = false := by
 unfold isKey
 rw [← Bool.not_eq_true, List.contains_iff_mem]
 exact fun hm => keyWords_no _ hm _ h rfl
theorem toList_empty {s : ByteArray} : s.data.toList = [] ↔ s.size = 0 := by
 rw [← List.length_eq_zero_iff]; simp
theorem isKey_empty {s : ByteArray} (h : s.size = 0) : isKey s = false := by
 unfold isKey
 rw [toList_empty.2 h]
 decide
theorem app3 (s : ByteArray) : ((⟨#[32]⟩ : ByteArray) ++ s ++ ⟨#[32]⟩).data.toList = 32 :: (s.data.toList ++ [32]) := by
 simp [ByteArray.data_append]

theorem emp1 {s : ByteArray} (h : s.size = 0) : s.toList.isEmpty = true := by rw [ByteArray.toList_eq, toList_empty.2 h]; rfl
theorem emp0 {s : ByteArray} (h : ¬ s.size = 0) : s.toList.isEmpty = false := by
 rw [ByteArray.toList_eq]
 cases hl : s.data.toList with
 | nil => exact absurd (toList_empty.1 hl) h
 | cons a l => rfl
theorem keysText (s : ByteArray) (h : ¬ (32 : UInt8) ∈ s.data.toList) (h0 : ¬ s.size = 0) (K : List UInt8) (hK : K = spaced keyWords) : Lib.contains K ((⟨#[32]⟩ : ByteArray) ++ s ++ ⟨#[32]⟩).data.toList = isKey s := by
 rw [hK, app3]
 exact contains_keys _ h (fun e => h0 (toList_empty.1 e))

set_option maxHeartbeats 1000000 in
theorem isKey_any (s : ByteArray) (w : World) (hs : s.size ≤ 8388608) (hm : MaxAt w) :
  Calls Tryz.prog 61 #[.string s] w fun e w' => e = .returned (.bool (isKey s)) ∧ w = w' := by
 by_cases h0 : s.size = 0
 ·have H := Tre.hid (isKey_empty h0)
  have e0 := emp1 h0
  have e1 : (!s.toList.isEmpty) = false := by rw [e0]; rfl
  clear h0
  go_enter Tryz.func61, Tryz.ntmps61
  go_wp2_with fail
  go_ret
  exact ⟨ret_bool H.out.symm, rfl⟩
 ·have e0 := emp0 h0
  have e1 : (!s.toList.isEmpty) = true := by rw [e0]; rfl
  have hc := contains_blank s.data.toList
  by_cases hb : (32 : UInt8) ∈ s.data.toList
  ·have H := Tre.hid (isKey_blank hb)
   have C : Hid (Lib.contains s.data.toList [32] = true) := by show _ = _; rw [hc]; simp [hb]
   clear hc hb h0
   go_enter Tryz.func61, Tryz.ntmps61
   go_wp2_with fail
   refine (contains s _ true _ (by omega) hm C.out).mono ?_
   rintro e w' ⟨rfl, rfl⟩
   go_wp2_with fail
   go_ret
   exact ⟨ret_bool H.out.symm, rfl⟩
  ·have C : Hid (Lib.contains s.data.toList [32] = false) := by show _ = _; rw [hc]; simp [hb]
   have KT := Tre.hid (keysText s hb h0)
   clear hc hb h0
   go_enter Tryz.func61, Tryz.ntmps61
   go_wp2_with fail
   refine (contains s _ false _ (by omega) hm C.out).mono ?_
   rintro e w' ⟨rfl, rfl⟩
   go_wp2_with fail
   refine (contains _ _ (isKey s) _ ?_ hm (KT.out _ ?_)).mono ?_
   ·decide
   ·decide
   rintro e w' ⟨rfl, rfl⟩
   go_wp2_with fail
   go_ret
   exact ⟨rfl, rfl⟩

theorem isName_of {s : ByteArray} {b : Bool} (h : (decide (s.size ≠ 0) && decide (s.size ≤ 100) && decide (wordLen s = s.size) && !isKey s) = b) : isName s = b := h
theorem b0 (u : UInt8) : (0 : Int) ≤ u.toNat := Int.natCast_nonneg _
/-! the reference's -/
end Go.Proofs.YtlkfhbmjemjohaaGreatDoor.lex
namespace Go.Proofs.YtlkfhbmjemjohaaGreatDoor.lex
open Go.RowKit Go.Tre
set_option maxHeartbeats 1000000 in
theorem isName_any (s : ByteArray) (w : World) (hs : s.size ≤ 8388608) (hm : MaxAt w) :
  Calls Tryz.prog 50 #[.string s] w fun e w' => e = .returned (.bool (isName s)) ∧ w = w' := by
 by_cases h0 : s.size = 0
 ·have H : Hid (isName s = false) := isName_of (by simp [h0])
  have e0 := emp1 h0
  have e1 : (!s.toList.isEmpty) = false := by rw [e0]; rfl
  clear h0
  go_enter Tryz.func50, Tryz.ntmps50
  go_wp2_with fail
  go_ret
  exact ⟨ret_bool H.out.symm, rfl⟩
 ·have e0 := emp0 h0
  have e1 : (!s.toList.isEmpty) = true := by rw [e0]; rfl
  by_cases h1 : s.size ≤ 100
  ·by_cases h2 : wordLen s = s.size
   ·have H : Hid (isName s = !isKey s) := isName_of (by simp [h0, h1, h2])
    have e2 : ((wordLen s : Int) == (s.size : Int)) = true := by rw [h2]; simp
    clear h0 h2
    go_enter Tryz.func50, Tryz.ntmps50
    go_wp2_with fail
    refine (word s _ hs).mono ?_
    rintro e w' ⟨rfl, rfl⟩
    go_wp2_with fail
    refine (isKey_any s _ hs hm).mono ?_
    rintro e w' ⟨rfl, rfl⟩
    go_wp2_with fail
    go_ret
    exact ⟨ret_bool H.out.symm, rfl⟩
   ·have H : Hid (isName s = false) := isName_of (by simp [h2])
    have e2 : ((wordLen s : Int) == (s.size : Int)) = false := by simp; omega
    clear h0 h2
    go_enter Tryz.func50, Tryz.ntmps50
    go_wp2_with fail
    refine (word s _ hs).mono ?_
    rintro e w' ⟨rfl, rfl⟩
    go_wp2_with fail
    go_ret
    exact ⟨ret_bool H.out.symm, rfl⟩
  ·have H : Hid (isName s = false) := isName_of (by simp [h1])
   clear h0
   go_enter Tryz.func50, Tryz.ntmps50
   go_wp2_with fail
   go_ret
   exact ⟨ret_bool H.out.symm, rfl⟩

end Go.Proofs.YtlkfhbmjemjohaaGreatDoor.lex
