/- What a row that lists the library's variables tells of the world: what the lexer wants. How an argument that is a graph lies in memory, out of its reading; the wrap for a row with a bound, the world's shape kept. -/
import Derived.Test.YtoieknnnadgfpaaGreatDoorB20
import Derived.Test.YtoieknnnadgfpaaGreatDoorRows
import Derived.Lib.LaidTab
import Derived.LaidSub
import Derived.LaidMore
import Derived.LaidHandle
import Derived.LaidLaws
import Derived.WalkKit
import Derived.Test.YtoieknnnadgfpaaGreatDoorB00
import Derived.JoinedCond
import Derived.ChangeSlices
import Derived.SliceStrings
import Derived.Deep.Slices
import Derived.Shelf.Vars
set_option linter.unusedVariables false
namespace Go.Proofs.YtoieknnnadgfpaaGreatDoor.lex
open Go.ChangeShapes Go.WideShapes Go.RowKit Go.Tre
theorem envMax {w : World} (h : w.ShapedOpen Tryz.prog) : MaxAt w :=
 Go.Proofs.cell_of_shapedOpen_int (zero := #[.int .i64 0]) (t := 3) h (of_decide_eq_true (by kernel_rfl)) (by kernel_rfl) rfl (by kernel_rfl) (by kernel_rfl) Tryz.underlying3
def spaceTab : List Int := (List.range 256).map fun c => if spB (UInt8.ofNat c) = true then 1 else 0
theorem spaceData : (Rows.laid_strings_asciiSpace : DataW Unit) = Lib.tabData .u8 spaceTab := by kernel_rfl
theorem envSpace {W : World} {l : List (String × DataW Unit)} (h : laidMetH Tryz.prog l W) (e : l.filter (fun x => x.1 == "strings.asciiSpace") = [("strings.asciiSpace", Rows.laid_strings_asciiSpace)]) : SpaceAt W := by
 have h1 := laidMetH.filter (fun x => x.1 == "strings.asciiSpace") h
 rw [e, spaceData] at h1
 have h2 : Lib.TabIs Tryz.prog W "strings.asciiSpace" .u8 spaceTab :=
  Lib.tabIs_of_head (rest := []) (g := 1) (t := 220) (e := 5) (n := 256) (by kernel_rfl) (by kernel_rfl) Tryz.underlying220 Tryz.underlying5 (by kernel_rfl) (by kernel_rfl) h1
 intro c
 have hc := c.toNat_lt
 have h3 := h2.cell (g := 1) (by kernel_rfl) c.toNat (by unfold spaceTab; simp; omega)
 rw [h3]
 unfold spaceTab
 rw [List.getD_eq_getElem?_getD, List.getElem?_map, List.getElem?_range (by omega)]
 simp
theorem envRange {W : World} {l : List (String × DataW Unit)} (h : laidMetH Tryz.prog l W) (e : l.filter (fun x => x.1 == "strconv.ErrRange") = [("strconv.ErrRange", Rows.laid_strconv_ErrRange)]) : RangeAt W := by
 have h1 := laidMetH.filter (fun x => x.1 == "strconv.ErrRange") h
 rw [e] at h1
 have h2 : laidMet Tryz.prog [("strconv.ErrRange", Rows.laid_strconv_ErrRange)] W := h1
 obtain ⟨ps, ⟨g', t', cs, fuel, p, q, hg', ht', hvar, hd, _, _⟩, _⟩ := h2
 obtain rfl := Option.some.inj ((show Tryz.prog.globalNamed "strconv.ErrRange" = some 5 by kernel_rfl).symm.trans hg')
 obtain rfl := Option.some.inj ((show (Tryz.prog.globals[5]?).map (·.type) = some 100 by kernel_rfl).symm.trans ht')
 obtain ⟨f1, u, v, hcs, _, _⟩ := iface_of_trod Tryz.underlying100 hd
 refine ⟨u, v, ?_⟩
 have h3 := World.var?_cell hg' hvar 0
 have h4 : cs[0]? = some (.iface u v) := by rw [← Array.getElem?_toList, hcs]; rfl
 rw [h3, h4]
theorem errRows : ((List.range Tryz.prog.types.size).filter fun t => Tryz.prog.rowNamed t [101, 114, 114, 111, 114]) = [100] := by kernel_rfl
theorem envErr {W : World} {l : List (String × DataW Unit)} (h : laidMetH Tryz.prog l W) (e : l.filter (fun x => x.1 == "errors.errorType") = [("errors.errorType", Rows.laid_errors_errorType)]) : ErrT W := by
 have h1 := laidMetH.filter (fun x => x.1 == "errors.errorType") h
 rw [e] at h1
 have h' : laidMet Tryz.prog [] W ∧ handlesMet Tryz.prog [("errors.errorType", Rows.laid_errors_errorType)] W := h1
 obtain ⟨name, u, ty, e1, e2, e3, e4, e5⟩ := h'.2 _ (List.mem_singleton.2 rfl)
 have en : name = [101, 114, 114, 111, 114] := (Option.some.inj e1).symm
 subst en
 obtain rfl := Option.some.inj ((show (Tryz.prog.cutTypes.find? (·.1 == "internal/reflectlite.rtype")).map (·.2) = some 183 by kernel_rfl).symm.trans e2)
 have hm : ty ∈ (List.range Tryz.prog.types.size).filter fun t => Tryz.prog.rowNamed t [101, 114, 114, 111, 114] := List.mem_filter.2 ⟨List.mem_range.2 e3, e4⟩
 rw [errRows] at hm
 obtain rfl := List.mem_singleton.1 hm
 have hh : typeHandle Tryz.prog 100 = .pointer (some (rtA 100)) := by kernel_rfl
 rw [hh] at e5
 show W.cell? ⟨0, 0, none⟩ = _
 simpa using World.var?_cell (show Tryz.prog.globalNamed "errors.errorType" = some 0 by kernel_rfl) e5 0
theorem env_of {W : World} {l : List (String × DataW Unit)} (hsh : W.ShapedOpen Tryz.prog) (h : laidMetH Tryz.prog l W) (e1 : l.filter (fun x => x.1 == "strings.asciiSpace") = [("strings.asciiSpace", Rows.laid_strings_asciiSpace)])
  (e2 : l.filter (fun x => x.1 == "strconv.ErrRange") = [("strconv.ErrRange", Rows.laid_strconv_ErrRange)]) (e3 : l.filter (fun x => x.1 == "errors.errorType") = [("errors.errorType", Rows.laid_errors_errorType)]) : LexEnv W :=
 ⟨envMax hsh, envSpace h e1, envRange h e2, envErr h e3⟩
end Go.Proofs.YtoieknnnadgfpaaGreatDoor.lex
namespace Go.Tre
open Go.RowKit Go.ChangeShapes Go.Deep
theorem addr_plain {w : World} {a : Addr} {j : Nat} {u : Value} (h : w.cell? (a.add j) = some u) : (∃ b off, a = ⟨b, off, none⟩) ∨ 0 < j := by
 by_cases hj : j = 0
 ·subst hj
  left
  obtain ⟨b, off, s⟩ := a
  simp [Addr.add, World.cell?] at h
  split at h
  ·by_cases hs : s = none
   ·subst hs; exact ⟨_, _, rfl⟩
   ·have : s.isSome = true := Option.isSome_iff_ne_none.2 hs
    simp [this] at h
  ·cases h
 ·exact .inr (by omega)
theorem add_plain (b off j : Nat) : (⟨b, off, none⟩ : Addr).add j = ⟨b, off + j, none⟩ := by
 unfold Addr.add
 by_cases h : j = 0 <;> simp [h]
theorem row_of {w : World} {a : Addr} {sz n : Nat} {cs : List Value} (hl : cs.length = n * sz) (h : ∀ j u, cs[j]? = some u → w.cell? (a.add j) = some u) : Row w sz (some a) n cs := by
 refine ⟨hl, fun j u hu => ?_⟩
 obtain ⟨u0, h0⟩ : ∃ u0, cs[0]? = some u0 := ⟨cs[0]'(by have := (List.getElem?_eq_some_iff.1 hu).1; omega), List.getElem?_eq_getElem _⟩
 rcases addr_plain (h 0 u0 h0) with ⟨b, off, rfl⟩ | h'
 ·refine ⟨b, off, rfl, ?_⟩
  have := h j u hu
  rwa [add_plain] at this
 ·omega
theorem getD_map {α : Type} (f : α → Value) (l : List α) (d : α) {n j : Nat} {u : Value} (h : ((l.take n).map f)[j]? = some u) : j < l.length ∧ u = f (l.getD j d) := by
 rw [List.getElem?_map] at h
 obtain ⟨x, hx, rfl⟩ := Option.map_eq_some_iff.1 h
 rw [List.getElem?_take] at hx
 split at hx
 ·have hl := (List.getElem?_eq_some_iff.1 hx).1
  exact ⟨hl, by rw [List.getD_eq_getElem?_getD, hx]; rfl⟩
 ·cases hx

section
variable {P : Program} {H : Type} {enc : TypeId × Value → H} {w : World} {base : Nat} {sp : Nat → Bool} {held : Bool}
theorem open_ints' {t e : TypeId} {fuel : Nat} {cs : List Value} {x : DataW H × List MemPlace} (ht : P.underlying t = some (.slice e)) (he : P.underlying e = some (.int .i64)) (hc : P.cellsOf e = 1) (h : DataW.trod enc P w base sp held fuel t cs = some x) :
  ∃ (a : Option Addr) (cap : Nat) (xs : List Int), cs = [.slice a xs.length cap] ∧ IntsAt w a xs ∧ xs.length ≤ cap ∧ (x.1 = .nil ∧ xs = [] ∨ ∃ r, x.1 = .slice (xs.map fun n => .lit (.int .i64 n)) r) := by
 rcases open_ints ht he hc h with ⟨h1, h2⟩ | ⟨a, len, cap, zs, h1, _, h3, _, h5, h6, h7, _⟩
 ·exact ⟨none, 0, [], h1, ⟨rfl, fun j u hu => by simp at hu⟩, Nat.le_refl _, .inl ⟨by rw [h2], rfl⟩⟩
 ·have hl : (zs.take len).length = len := by rw [List.length_take, h5]; split <;> omega
  refine ⟨some a, cap, zs.take len, by rw [hl]; exact h1, row_of (by simp) (fun j u hu => ?_), by rw [hl]; exact h3, .inr ⟨_, by rw [h6]; rfl⟩⟩
  obtain ⟨hj, rfl⟩ := getD_map _ zs 0 hu
  exact h7 j hj
theorem open_strs' {t e : TypeId} {fuel : Nat} {cs : List Value} {x : DataW H × List MemPlace} (ht : P.underlying t = some (.slice e)) (he : P.underlying e = some .string) (hc : P.cellsOf e = 1) (h : DataW.trod enc P w base sp held fuel t cs = some x) :
  ∃ (a : Option Addr) (cap : Nat) (xs : List ByteArray), cs = [.slice a xs.length cap] ∧ StrsAt w a xs ∧ xs.length ≤ cap ∧ (x.1 = .nil ∧ xs = [] ∨ ∃ r, x.1 = .slice (xs.map fun s => .lit (.string s.data.toList)) r) := by
 rcases open_strings ht he hc h with ⟨h1, h2⟩ | ⟨a, len, cap, zs, h1, _, h3, _, h5, h6, h7, _⟩
 ·exact ⟨none, 0, [], h1, ⟨rfl, fun j u hu => by simp at hu⟩, Nat.le_refl _, .inl ⟨by rw [h2], rfl⟩⟩
 ·have hl : (zs.take len).length = len := by rw [List.length_take, h5]; split <;> omega
  refine ⟨some a, cap, zs.take len, by rw [hl]; exact h1, row_of (by simp) (fun j u hu => ?_), by rw [hl]; exact h3, .inr ⟨_, by rw [h6]; rfl⟩⟩
  obtain ⟨hj, rfl⟩ := getD_map _ zs ByteArray.empty hu
  exact h7 j hj
end
end Go.Tre
namespace Go.Proofs.YtoieknnnadgfpaaGreatDoor.gr
open Go.RowKit Go.Maps Go.Tre lex Go.ChangeShapes Go.Deep
set_option maxRecDepth 100000
theorem bulk_ints {H : Type} : ∀ xs : List Int, Rows.uptoBulkAll (xs.map fun n => DataW.lit (H := H) (.int .i64 n)) = xs.length
 | [] => rfl
 | x :: r => by rw [List.map_cons]; simp only [Rows.uptoBulkAll, bulk_ints r, Rows.uptoBulk, List.length_cons]; omega
theorem bulk_strs {H : Type} : ∀ xs : List ByteArray, Rows.uptoBulkAll (xs.map fun s => DataW.lit (H := H) (.string s.data.toList)) = (xs.map fun s => s.size + 1).sum
 | [] => rfl
 | x :: r => by rw [List.map_cons]; simp only [Rows.uptoBulkAll, bulk_strs r, Rows.uptoBulk, List.map_cons, List.sum_cons]; rfl
theorem cellsInt : Tryz.prog.cellsOf 3 = 1 := by kernel_rfl
theorem cellsStr : Tryz.prog.cellsOf 9 = 1 := by kernel_rfl
theorem cellsNode : Tryz.prog.cellsOf 33 = 5 := by kernel_rfl
theorem cellsNodes : Tryz.prog.cellsOf 22 = 1 := by kernel_rfl
section
variable {H : Type} {enc : TypeId × Value → H} {w : World} {base : Nat} {sp : Nat → Bool} {held : Bool}
theorem open_node {fuel : Nat} {cs : List Value} {x : DataW H × List MemPlace} (h : DataW.trod enc Tryz.prog w base sp held fuel 33 cs = some x) :
  ∃ (n : Tre.Node) (aa : Option Addr) (ca : Nat) (al : Option Addr) (cl : Nat), cs = [.int .i64 n.kind, .string n.name, .slice aa n.args.length ca, .slice al n.labels.length cl, .bool n.isOpen] ∧ IntsAt w aa n.args ∧ StrsAt w al n.labels ∧ n.args.length ≤ ca ∧ n.labels.length ≤ cl ∧ n.weight + 5 ≤ Rows.uptoBulk x.1 := by
 obtain ⟨xs, n, _, rfl, hl, hn, hf⟩ := DataW.trod_struct Tryz.underlying33 h
 rw [cellsNode] at hl
 match cs, hl, xs, hn with
 | [c0, c1, c2, c3, c4], _, [y0, y1, y2, y3, y4], _ =>
  have f0 := hf 0 _ rfl
  have f1 := hf 1 _ rfl
  have f2 := hf 2 _ rfl
  have f3 := hf 3 _ rfl
  have f4 := hf 4 _ rfl
  simp only [zqc, zqb] at f0 f1 f2 f3 f4
  obtain ⟨k, e0, z0, _⟩ := DataW.trod_int Tryz.underlying3 f0
  obtain ⟨s, e1, z1, _⟩ := DataW.trod_string Tryz.underlying9 f1
  obtain ⟨aa, ca, args, e2, r2, l2, z2⟩ := open_ints' Tryz.underlying30 Tryz.underlying3 cellsInt f2
  obtain ⟨al, cl, labels, e3, r3, l3, z3⟩ := open_strs' Tryz.underlying31 Tryz.underlying9 cellsStr f3
  obtain ⟨b, e4, z4⟩ := DataW.trod_bool Tryz.underlying4 f4
  cases e0; cases e1; cases e2; cases e3; cases e4
  refine ⟨⟨k, s, args, labels, b⟩, aa, ca, al, cl, rfl, r2, r3, l2, l3, ?_⟩
  have q2 : args.length + 1 ≤ Rows.uptoBulk y2.1 := by
   rcases z2 with ⟨z, rfl⟩ | ⟨r, z⟩
   ·rw [z]; simp [Rows.uptoBulk]
   ·rw [z]; simp only [Rows.uptoBulk, bulk_ints]; omega
  have q3 : (labels.map fun s => s.size + 1).sum + 1 ≤ Rows.uptoBulk y3.1 := by
   rcases z3 with ⟨z, rfl⟩ | ⟨r, z⟩
   ·rw [z]; simp [Rows.uptoBulk]
   ·rw [z]; simp only [Rows.uptoBulk, bulk_strs]; omega
  have q0 : 1 ≤ Rows.uptoBulk y0.1 := by rw [z0]; exact Nat.le_refl _
  have q4 : 1 ≤ Rows.uptoBulk y4.1 := by rw [z4]; exact Nat.le_refl _
  have q1 : s.size + 1 ≤ Rows.uptoBulk y1.1 := by rw [z1]; simp only [Rows.uptoBulk]; exact Nat.le_refl _
  simp only [List.map_cons, List.map_nil, Rows.uptoBulk, Rows.uptoBulkAll]
  unfold Tre.Node.weight
  simp only
  omega
theorem bulk_map {H : Type} (D : Nat → DataW H) (W : Nat → Nat) : ∀ (l : List Nat), (∀ i ∈ l, W i ≤ Rows.uptoBulk (D i)) → (l.map W).sum ≤ Rows.uptoBulkAll (l.map D)
 | [], _ => by simp
 | i :: r, h => by
  have h1 := h i (by simp)
  have h2 := bulk_map D W r (fun j hj => h j (by simp [hj]))
  simp only [List.map_cons, List.sum_cons, Rows.uptoBulkAll]
  omega
theorem open_nodes {fuel : Nat} {cs : List Value} {x : DataW H × List MemPlace} (h : DataW.trod enc Tryz.prog w base sp held fuel 22 cs = some x) :
  ∃ (a : Option Addr) (cap : Nat) (ns : List Tre.Node), cs = [.slice a ns.length cap] ∧ NodesAt w a ns ∧ ns.length ≤ cap ∧ (ns.map Tre.Node.weight).sum + 5 * ns.length + 1 ≤ Rows.uptoBulk x.1 := by
 rcases open_slice Tryz.underlying22 h with ⟨h1, h2⟩ | ⟨a, len, cap, m, fu, D, Pl, h1, _, h3, _, h5, rfl, h7⟩
 ·exact ⟨none, 0, [], h1, ⟨fun k n hn => by simp at hn⟩, Nat.le_refl _, by rw [h2]; simp [Rows.uptoBulk]⟩
 ·rw [cellsNode] at h7
  have hm : len ≤ m := by rw [h5]; split <;> omega
  have step : ∀ i, i < len → ∃ n : Tre.Node, n.weight + 5 ≤ Rows.uptoBulk (D i) ∧ ∃ b off, a = ⟨b, off, none⟩ ∧ NodeAt w b (off + i * 5) n := by
   intro i hi
   obtain ⟨cs', hc, ht⟩ := h7 i (by omega)
   obtain ⟨n, aa, ca, al, cl, e, r2, r3, l2, l3, hw⟩ := open_node ht
   obtain ⟨_, _, hcell⟩ := World.cells?_some hc
   subst e
   have k0 : w.cell? ((a.add (i * 5)).add 0) = some (.int .i64 n.kind) := hcell 0 (by omega)
   have hp : ∃ b off, a = ⟨b, off, none⟩ := by
    by_cases hi0 : i = 0
    ·subst hi0
     rcases addr_plain k0 with h' | h'
     ·obtain ⟨b, off, e⟩ := h'
      exact ⟨b, off, by simpa [Addr.add] using e⟩
     ·omega
    ·obtain ⟨cs0, hc0, ht0⟩ := h7 0 (by omega)
     obtain ⟨n0, aa0, ca0, al0, cl0, e0, _⟩ := open_node ht0
     obtain ⟨_, _, hcell0⟩ := World.cells?_some hc0
     subst e0
     have k00 : w.cell? ((a.add (0 * 5)).add 0) = some (.int .i64 n0.kind) := hcell0 0 (by omega)
     rcases addr_plain k00 with h' | h'
     ·obtain ⟨b, off, e⟩ := h'
      exact ⟨b, off, by simpa [Addr.add] using e⟩
     ·omega
   obtain ⟨b, off, rfl⟩ := hp
   have g : ∀ j, j < 5 → w.cell? ⟨b, off + i * 5 + j, none⟩ = ([.int .i64 n.kind, .string n.name, .slice aa n.args.length ca, .slice al n.labels.length cl, .bool n.isOpen] : List Value)[j]? := fun j hj => by
    have := hcell j hj
    rwa [add_plain, add_plain] at this
   exact ⟨n, hw, b, off, rfl, aa, ca, al, cl, g 0 (by omega), g 1 (by omega), g 2 (by omega), g 3 (by omega), g 4 (by omega), r2, r3, l2, l3⟩
  obtain ⟨f, hf⟩ : ∃ f : Nat → Tre.Node, ∀ i, i < len → (f i).weight + 5 ≤ Rows.uptoBulk (D i) ∧ ∃ b off, a = ⟨b, off, none⟩ ∧ NodeAt w b (off + i * 5) (f i) :=
   ⟨fun i => if h : i < len then Classical.choose (step i h) else ⟨0, ByteArray.empty, [], [], false⟩, fun i hi => by simp only [hi, dif_pos]; exact Classical.choose_spec (step i hi)⟩
  have hl : ((List.range len).map f).length = len := by simp
  refine ⟨some a, cap, (List.range len).map f, by rw [hl]; exact h1, ⟨fun k n hn => ?_⟩, by rw [hl]; exact h3, ?_⟩
  ·rw [List.getElem?_map] at hn
   obtain ⟨i, hi, rfl⟩ := Option.map_eq_some_iff.1 hn
   have hk : k < len := by have := (List.getElem?_eq_some_iff.1 hi).1; simpa using this
   rw [List.getElem?_range hk] at hi
   cases hi
   obtain ⟨_, b, off, e, hn⟩ := hf k hk
   exact ⟨b, off, by rw [e], hn⟩
  ·rw [List.map_map]
   have h1 := bulk_map D (fun i => (f i).weight + 5) (List.range len) (fun i hi => (hf i (List.mem_range.1 hi)).1)
   have h2 : ∀ l : List Nat, (l.map (Tre.Node.weight ∘ f)).sum + 5 * l.length = (l.map fun i => (f i).weight + 5).sum := fun l => by
    induction l with
    | nil => rfl
    | cons i l ih => simp only [List.map_cons, List.sum_cons, List.length_cons, Function.comp_apply]; omega
   have h3 := h2 (List.range len)
   rw [List.length_range] at h3
   rw [hl]
   simp only [Rows.uptoBulk]
   omega
theorem bulk_pos (d : DataW H) : 1 ≤ Rows.uptoBulk d := by unfold Rows.uptoBulk; split <;> omega
theorem open_graph_at {cs : Array Value} {fuel : Nat} {d : DataW H} {ps : List MemPlace} (hf : DataW.trod enc Tryz.prog w base sp held fuel 24 cs.toList = some (d, ps)) :
  ∃ (a : Option Addr) (cap : Nat) (g : Tre.Graph), cs = #[.slice a g.ns.length cap, .int .i64 g.root] ∧ NodesAt w a g.ns ∧ g.weight + 5 * g.ns.length + 3 ≤ Rows.uptoBulk d := by
 obtain ⟨y0, y1, n, e, hl, f0, f1⟩ := trod_struct2 Tryz.underlying24 hf
 have hl2 : cs.toList.length = 2 := hl.trans (by kernel_rfl)
 obtain ⟨c0, c1, ec⟩ : ∃ c0 c1, cs.toList = [c0, c1] := by
  match h : cs.toList, hl2 with
  | [c0, c1], _ => exact ⟨c0, c1, rfl⟩
 rw [ec] at f0 f1
 simp only [cellsNodes, cellsInt, List.drop_zero, List.drop_succ_cons, List.take_succ_cons, List.take_zero] at f0 f1
 obtain ⟨a, cap, ns, e0, r0, l0, w0⟩ := open_nodes f0
 obtain ⟨k, e1, z1, _⟩ := DataW.trod_int Tryz.underlying3 f1
 cases e0; cases e1
 refine ⟨a, cap, ⟨ns, k⟩, ?_, r0, ?_⟩
 ·rw [← Array.toArray_toList (xs := cs), ec]
 ·have : d = .agg [y0.1, y1.1] := congrArg Prod.fst e
  rw [this]
  simp only [Rows.uptoBulk, Rows.uptoBulkAll]
  have hb := bulk_pos y1.1
  show (ns.map Tre.Node.weight).sum + 5 * ns.length + 3 ≤ _
  omega
theorem open_graph4 {r : Reach} {b0 : Nat} {v : Value} {d : DataW H} {ps : List MemPlace} (hval : Value.okWide Tryz.prog w r b0 24 v) (hd : DataW.Trod enc Tryz.prog w base sp held 24 v d ps) :
  ∃ (a : Option Addr) (cap : Nat) (g : Tre.Graph), v = .agg #[.slice a g.ns.length cap, .int .i64 g.root] ∧ NodesAt w a g.ns ∧ g.weight + 5 * g.ns.length + 3 ≤ Rows.uptoBulk d := by
 obtain ⟨fuel, hf⟩ := hd
 have hv : ∃ cs : Array Value, v = .agg cs := by
  unfold Value.okWide at hval
  rw [Tryz.underlying24] at hval
  obtain ⟨cs, e, _⟩ := hval
  exact ⟨cs, e⟩
 obtain ⟨cs, rfl⟩ := hv
 have hcs : (Value.agg cs).cells.toList = cs.toList := rfl
 rw [hcs] at hf
 obtain ⟨a, cap, g, e, h1, h2⟩ := open_graph_at hf
 exact ⟨a, cap, g, by rw [e], h1, h2⟩
end
end Go.Proofs.YtoieknnnadgfpaaGreatDoor.gr
