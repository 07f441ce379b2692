/- What a row that lists the library's variables tells of the world: what the lexer wants. Arguments out of their readings: what all of them share; the wrap for a row with a bound, the world's shape kept. How an argument that is a list of parts lies in memory, out of its reading. An argument of strings. -/
import Derived.Test.YtbafalfmgibnfaaGreatDoorB10
import Derived.Test.YtbafalfmgibnfaaGreatDoorRows
import Derived.Lib.LaidTab
import Derived.LaidSub
import Derived.LaidMore
import Derived.LaidHandle
import Derived.LaidLaws
import Derived.WalkKit
import Derived.Test.YtbafalfmgibnfaaGreatDoorB00
import Derived.Test.YtbafalfmgibnfaaGreatDoorB02
import Derived.JoinedCond
import Derived.ChangeSlices
import Derived.SliceStrings
import Derived.Deep.Slices
import Derived.Shelf.Vars
import Derived.Test.YtbafalfmgibnfaaGreatDoorB23
set_option linter.unusedVariables false
namespace Go.Proofs.YtbafalfmgibnfaaGreatDoor.lex
open Go.ChangeShapes Go.WideShapes Go.RowKit Go.Tre
theorem envMax {w : World} (h : w.ShapedOpen Tryz.prog) : MaxAt w :=
 Go.Proofs.cell_of_shapedOpen_int (zero := #[.int .i64 0]) (t := 3) h (of_decide_eq_true (by kernel_rfl)) (by kernel_rfl) rfl (by kernel_rfl) (by kernel_rfl) Tryz.underlying3
def spaceTab : List Int := (List.range 256).map fun c => if spB (UInt8.ofNat c) = true then 1 else 0
theorem spaceData : (Rows.laid_strings_asciiSpace : DataW Unit) = Lib.tabData .u8 spaceTab := by kernel_rfl
theorem envSpace {W : World} {l : List (String × DataW Unit)} (h : laidMetH Tryz.prog l W) (e : l.filter (fun x => x.1 == "strings.asciiSpace") = [("strings.asciiSpace", Rows.laid_strings_asciiSpace)]) : SpaceAt W := by
 have h1 := laidMetH.filter (fun x => x.1 == "strings.asciiSpace") h
 rw [e, spaceData] at h1
 have h2 : Lib.TabIs Tryz.prog W "strings.asciiSpace" .u8 spaceTab :=
  Lib.tabIs_of_head (rest := []) (g := 1) (t := 160) (e := 5) (n := 256) (by kernel_rfl) (by kernel_rfl) Tryz.underlying160 Tryz.underlying5 (by kernel_rfl) (by kernel_rfl) h1
 intro c
 have hc := c.toNat_lt
 have h3 := h2.cell (g := 1) (by kernel_rfl) c.toNat (by unfold spaceTab; simp; omega)
 rw [h3]
 unfold spaceTab
 rw [List.getD_eq_getElem?_getD, List.getElem?_map, List.getElem?_range (by omega)]
 simp
theorem envRange {W : World} {l : List (String × DataW Unit)} (h : laidMetH Tryz.prog l W) (e : l.filter (fun x => x.1 == "strconv.ErrRange") = [("strconv.ErrRange", Rows.laid_strconv_ErrRange)]) : RangeAt W := by
 have h1 := laidMetH.filter (fun x => x.1 == "strconv.ErrRange") h
 rw [e] at h1
 have h2 : laidMet Tryz.prog [("strconv.ErrRange", Rows.laid_strconv_ErrRange)] W := h1
 obtain ⟨ps, ⟨g', t', cs, fuel, p, q, hg', ht', hvar, hd, _, _⟩, _⟩ := h2
 obtain rfl := Option.some.inj ((show Tryz.prog.globalNamed "strconv.ErrRange" = some 5 by kernel_rfl).symm.trans hg')
 obtain rfl := Option.some.inj ((show (Tryz.prog.globals[5]?).map (·.type) = some 59 by kernel_rfl).symm.trans ht')
 obtain ⟨f1, u, v, hcs, _, _⟩ := iface_of_trod Tryz.underlying59 hd
 refine ⟨u, v, ?_⟩
 have h3 := World.var?_cell hg' hvar 0
 have h4 : cs[0]? = some (.iface u v) := by rw [← Array.getElem?_toList, hcs]; rfl
 rw [h3, h4]
theorem errRows : ((List.range Tryz.prog.types.size).filter fun t => Tryz.prog.rowNamed t [101, 114, 114, 111, 114]) = [59] := by kernel_rfl
theorem envErr {W : World} {l : List (String × DataW Unit)} (h : laidMetH Tryz.prog l W) (e : l.filter (fun x => x.1 == "errors.errorType") = [("errors.errorType", Rows.laid_errors_errorType)]) : ErrT W := by
 have h1 := laidMetH.filter (fun x => x.1 == "errors.errorType") h
 rw [e] at h1
 have h' : laidMet Tryz.prog [] W ∧ handlesMet Tryz.prog [("errors.errorType", Rows.laid_errors_errorType)] W := h1
 obtain ⟨name, u, ty, e1, e2, e3, e4, e5⟩ := h'.2 _ (List.mem_singleton.2 rfl)
 have en : name = [101, 114, 114, 111, 114] := (Option.some.inj e1).symm
 subst en
 obtain rfl := Option.some.inj ((show (Tryz.prog.cutTypes.find? (·.1 == "internal/reflectlite.rtype")).map (·.2) = some 129 by kernel_rfl).symm.trans e2)
 have hm : ty ∈ (List.range Tryz.prog.types.size).filter fun t => Tryz.prog.rowNamed t [101, 114, 114, 111, 114] := List.mem_filter.2 ⟨List.mem_range.2 e3, e4⟩
 rw [errRows] at hm
 obtain rfl := List.mem_singleton.1 hm
 have hh : typeHandle Tryz.prog 59 = .pointer (some (rtA 59)) := by kernel_rfl
 rw [hh] at e5
 show W.cell? ⟨0, 0, none⟩ = _
 simpa using World.var?_cell (show Tryz.prog.globalNamed "errors.errorType" = some 0 by kernel_rfl) e5 0
theorem env_of {W : World} {l : List (String × DataW Unit)} (hsh : W.ShapedOpen Tryz.prog) (h : laidMetH Tryz.prog l W) (e1 : l.filter (fun x => x.1 == "strings.asciiSpace") = [("strings.asciiSpace", Rows.laid_strings_asciiSpace)])
  (e2 : l.filter (fun x => x.1 == "strconv.ErrRange") = [("strconv.ErrRange", Rows.laid_strconv_ErrRange)]) (e3 : l.filter (fun x => x.1 == "errors.errorType") = [("errors.errorType", Rows.laid_errors_errorType)]) : LexEnv W :=
 ⟨envMax hsh, envSpace h e1, envRange h e2, envErr h e3⟩
end Go.Proofs.YtbafalfmgibnfaaGreatDoor.lex
namespace Go.Tre
open Go.RowKit Go.ChangeShapes Go.Deep
theorem addr_plain {w : World} {a : Addr} {j : Nat} {u : Value} (h : w.cell? (a.add j) = some u) : (∃ b off, a = ⟨b, off, none⟩) ∨ 0 < j := by
 by_cases hj : j = 0
 ·subst hj
  left
  obtain ⟨b, off, s⟩ := a
  simp [Addr.add, World.cell?] at h
  split at h
  ·by_cases hs : s = none
   ·subst hs; exact ⟨_, _, rfl⟩
   ·have : s.isSome = true := Option.isSome_iff_ne_none.2 hs
    simp [this] at h
  ·cases h
 ·exact .inr (by omega)
theorem add_plain (b off j : Nat) : (⟨b, off, none⟩ : Addr).add j = ⟨b, off + j, none⟩ := by
 unfold Addr.add
 by_cases h : j = 0 <;> simp [h]
theorem row_of {w : World} {a : Addr} {sz n : Nat} {cs : List Value} (hl : cs.length = n * sz) (h : ∀ j u, cs[j]? = some u → w.cell? (a.add j) = some u) : Row w sz (some a) n cs := by
 refine ⟨hl, fun j u hu => ?_⟩
 obtain ⟨u0, h0⟩ : ∃ u0, cs[0]? = some u0 := ⟨cs[0]'(by have := (List.getElem?_eq_some_iff.1 hu).1; omega), List.getElem?_eq_getElem _⟩
 rcases addr_plain (h 0 u0 h0) with ⟨b, off, rfl⟩ | h'
 ·refine ⟨b, off, rfl, ?_⟩
  have := h j u hu
  rwa [add_plain] at this
 ·omega
theorem getD_map {α : Type} (f : α → Value) (l : List α) (d : α) {n j : Nat} {u : Value} (h : ((l.take n).map f)[j]? = some u) : j < l.length ∧ u = f (l.getD j d) := by
 rw [List.getElem?_map] at h
 obtain ⟨x, hx, rfl⟩ := Option.map_eq_some_iff.1 h
 rw [List.getElem?_take] at hx
 split at hx
 ·have hl := (List.getElem?_eq_some_iff.1 hx).1
  exact ⟨hl, by rw [List.getD_eq_getElem?_getD, hx]; rfl⟩
 ·cases hx

section
variable {P : Program} {H : Type} {enc : TypeId × Value → H} {w : World} {base : Nat} {sp : Nat → Bool} {held : Bool}
theorem open_strs' {t e : TypeId} {fuel : Nat} {cs : List Value} {x : DataW H × List MemPlace} (ht : P.underlying t = some (.slice e)) (he : P.underlying e = some .string) (hc : P.cellsOf e = 1) (h : DataW.trod enc P w base sp held fuel t cs = some x) :
  ∃ (a : Option Addr) (cap : Nat) (xs : List ByteArray), cs = [.slice a xs.length cap] ∧ StrsAt w a xs ∧ xs.length ≤ cap ∧ (x.1 = .nil ∧ xs = [] ∨ ∃ r, x.1 = .slice (xs.map fun s => .lit (.string s.data.toList)) r) := by
 rcases open_strings ht he hc h with ⟨h1, h2⟩ | ⟨a, len, cap, zs, h1, _, h3, _, h5, h6, h7, _⟩
 ·exact ⟨none, 0, [], h1, ⟨rfl, fun j u hu => by simp at hu⟩, Nat.le_refl _, .inl ⟨by rw [h2], rfl⟩⟩
 ·have hl : (zs.take len).length = len := by rw [List.length_take, h5]; split <;> omega
  refine ⟨some a, cap, zs.take len, by rw [hl]; exact h1, row_of (by simp) (fun j u hu => ?_), by rw [hl]; exact h3, .inr ⟨_, by rw [h6]; rfl⟩⟩
  obtain ⟨hj, rfl⟩ := getD_map _ zs ByteArray.empty hu
  exact h7 j hj
end
end Go.Tre
namespace Go.Proofs.YtbafalfmgibnfaaGreatDoor.gr
open Go.RowKit Go.Maps Go.Tre lex Go.ChangeShapes Go.Deep
set_option maxRecDepth 100000
theorem bulk_strs {H : Type} : ∀ xs : List ByteArray, Rows.uptoBulkAll (xs.map fun s => DataW.lit (H := H) (.string s.data.toList)) = (xs.map fun s => s.size + 1).sum
 | [] => rfl
 | x :: r => by rw [List.map_cons]; simp only [Rows.uptoBulkAll, bulk_strs r, Rows.uptoBulk, List.map_cons, List.sum_cons]; rfl
theorem cellsStr : Tryz.prog.cellsOf 9 = 1 := by kernel_rfl
theorem bulk_map {H : Type} (D : Nat → DataW H) (W : Nat → Nat) : ∀ (l : List Nat), (∀ i ∈ l, W i ≤ Rows.uptoBulk (D i)) → (l.map W).sum ≤ Rows.uptoBulkAll (l.map D)
 | [], _ => by simp
 | i :: r, h => by
  have h1 := h i (by simp)
  have h2 := bulk_map D W r (fun j hj => h j (by simp [hj]))
  simp only [List.map_cons, List.sum_cons, Rows.uptoBulkAll]
  omega
theorem bulk_pos {H : Type} (d : DataW H) : 1 ≤ Rows.uptoBulk d := by unfold Rows.uptoBulk; split <;> omega
end Go.Proofs.YtbafalfmgibnfaaGreatDoor.gr
namespace Go.Proofs.YtbafalfmgibnfaaGreatDoor.part
open Go.RowKit Go.Maps Go.Tre Go.ChangeShapes Go.Deep gr
set_option maxRecDepth 100000
theorem sum_ones {α : Type} : ∀ l : List α, (l.map fun _ => 1).sum = l.length
 | [] => rfl
 | x :: r => by rw [List.map_cons, List.sum_cons, sum_ones r, List.length_cons]; omega
theorem cellsPart : Tryz.prog.cellsOf 48 = 4 := by kernel_rfl
section
variable {H : Type} {enc : TypeId × Value → H} {w : World} {base : Nat} {sp : Nat → Bool} {held : Bool}
theorem u8_bounds {k : Int} (h : Lit.wf (.int .u8 k) = true) : 0 ≤ k ∧ k < 256 := by
 simp [Lit.wf, IntKind.min, IntKind.max, IntKind.signed, IntKind.bits] at h
 omega
theorem open_part {fuel : Nat} {cs : List Value} {x : DataW H × List MemPlace} (h : DataW.trod enc Tryz.prog w base sp held fuel 48 cs = some x) :
  ∃ p : Prt, cs = [.int .u8 p.kind, .string ⟨p.s.toArray⟩, .int .u8 p.args, .bool p.opn] ∧ p.kind < 256 ∧ p.args < 256 ∧ p.s.length + 4 ≤ Rows.uptoBulk x.1 := by
 obtain ⟨xs, n, _, rfl, hl, hn, hf⟩ := DataW.trod_struct Tryz.underlying48 h
 rw [cellsPart] at hl
 match cs, hl, xs, hn with
 | [c0, c1, c2, c3], _, [y0, y1, y2, y3], _ =>
  have f0 := hf 0 _ rfl
  have f1 := hf 1 _ rfl
  have f2 := hf 2 _ rfl
  have f3 := hf 3 _ rfl
  simp only [zqc, zqb] at f0 f1 f2 f3
  obtain ⟨k, e0, z0, b0⟩ := DataW.trod_int Tryz.underlying5 f0
  obtain ⟨s, e1, z1, _⟩ := DataW.trod_string Tryz.underlying9 f1
  obtain ⟨m, e2, z2, b2⟩ := DataW.trod_int Tryz.underlying5 f2
  obtain ⟨b, e3, z3⟩ := DataW.trod_bool Tryz.underlying4 f3
  cases e0; cases e1; cases e2; cases e3
  have k0 := u8_bounds b0
  have k2 := u8_bounds b2
  obtain ⟨kn, rfl⟩ : ∃ kn : Nat, (kn : Int) = k := ⟨k.toNat, by omega⟩
  obtain ⟨mn, rfl⟩ : ∃ mn : Nat, (mn : Int) = m := ⟨m.toNat, by omega⟩
  refine ⟨⟨kn, s.data.toList, mn, b⟩, ?_, by show kn < 256; omega, by show mn < 256; omega, ?_⟩
  ·have : (⟨s.data.toList.toArray⟩ : ByteArray) = s := rfl
   simp only [this]
  ·have q0 : 1 ≤ Rows.uptoBulk y0.1 := bulk_pos _
   have q2 : 1 ≤ Rows.uptoBulk y2.1 := bulk_pos _
   have q3 : 1 ≤ Rows.uptoBulk y3.1 := bulk_pos _
   have q1 : s.data.toList.length + 1 ≤ Rows.uptoBulk y1.1 := by rw [z1]; simp only [Rows.uptoBulk]; exact Nat.le_refl _
   simp only [List.map_cons, List.map_nil, Rows.uptoBulk, Rows.uptoBulkAll]
   omega
theorem open_parts' {fuel : Nat} {cs : List Value} {x : DataW H × List MemPlace} (h : DataW.trod enc Tryz.prog w base sp held fuel 22 cs = some x) :
  ∃ (a : Option Addr) (cap : Nat) (l : List Prt), cs = [.slice a l.length cap] ∧ PrtsAt w a l ∧ l.length ≤ cap ∧ l.length + 1 ≤ Rows.uptoBulk x.1 := by
 rcases open_slice Tryz.underlying22 h with ⟨h1, h2⟩ | ⟨a, len, cap, m, fu, D, Pl, h1, _, h3, _, h5, rfl, h7⟩
 ·exact ⟨none, 0, [], h1, PrtsAt.nil _ _, Nat.le_refl _, by rw [h2]; simp [Rows.uptoBulk]⟩
 ·rw [cellsPart] at h7
  have hm : len ≤ m := by rw [h5]; split <;> omega
  have step : ∀ i, i < len → ∃ n : Prt, 1 ≤ Rows.uptoBulk (D i) ∧ ∃ b off, a = ⟨b, off, none⟩ ∧ PrtAt w b (off + i * 4) n := by
   intro i hi
   obtain ⟨cs', hc, ht⟩ := h7 i (by omega)
   obtain ⟨n, e, hk, ha, hw⟩ := open_part ht
   obtain ⟨_, _, hcell⟩ := World.cells?_some hc
   subst e
   have k0 : w.cell? ((a.add (i * 4)).add 0) = some (.int .u8 n.kind) := hcell 0 (by omega)
   have hp : ∃ b off, a = ⟨b, off, none⟩ := by
    by_cases hi0 : i = 0
    ·subst hi0
     rcases addr_plain k0 with h' | h'
     ·obtain ⟨b, off, e⟩ := h'
      exact ⟨b, off, by simpa [Addr.add] using e⟩
     ·omega
    ·obtain ⟨cs0, hc0, ht0⟩ := h7 0 (by omega)
     obtain ⟨n0, e0, _⟩ := open_part ht0
     obtain ⟨_, _, hcell0⟩ := World.cells?_some hc0
     subst e0
     have k00 : w.cell? ((a.add (0 * 4)).add 0) = some (.int .u8 n0.kind) := hcell0 0 (by omega)
     rcases addr_plain k00 with h' | h'
     ·obtain ⟨b, off, e⟩ := h'
      exact ⟨b, off, by simpa [Addr.add] using e⟩
     ·omega
   obtain ⟨b, off, rfl⟩ := hp
   have g : ∀ j, j < 4 → w.cell? ⟨b, off + i * 4 + j, none⟩ = ([.int .u8 n.kind, .string ⟨n.s.toArray⟩, .int .u8 n.args, .bool n.opn] : List Value)[j]? := fun j hj => by
    have := hcell j hj
    rwa [add_plain, add_plain] at this
   exact ⟨n, Nat.le_trans (by omega : 1 ≤ n.s.length + 4) hw, b, off, rfl, g 0 (by omega), g 1 (by omega), g 2 (by omega), g 3 (by omega), hk, ha⟩
  obtain ⟨f, hf⟩ : ∃ f : Nat → Prt, ∀ i, i < len → 1 ≤ Rows.uptoBulk (D i) ∧ ∃ b off, a = ⟨b, off, none⟩ ∧ PrtAt w b (off + i * 4) (f i) :=
   ⟨fun i => if h : i < len then Classical.choose (step i h) else ⟨0, [], 0, false⟩, fun i hi => by simp only [hi, dif_pos]; exact Classical.choose_spec (step i hi)⟩
  have hl : ((List.range len).map f).length = len := by simp
  refine ⟨some a, cap, (List.range len).map f, by rw [hl]; exact h1, ⟨fun k n hn => ?_⟩, by rw [hl]; exact h3, ?_⟩
  ·rw [List.getElem?_map] at hn
   obtain ⟨i, hi, rfl⟩ := Option.map_eq_some_iff.1 hn
   have hk : k < len := by have := (List.getElem?_eq_some_iff.1 hi).1; simpa using this
   rw [List.getElem?_range hk] at hi
   cases hi
   obtain ⟨_, b, off, e, hn⟩ := hf k hk
   exact ⟨b, off, by rw [e], hn⟩
  ·have h1 := bulk_map D (fun _ => 1) (List.range len) (fun i hi => (hf i (List.mem_range.1 hi)).1)
   have h2 : ((List.range len).map fun _ => 1).sum = len := by
    rw [sum_ones, List.length_range]
   rw [hl]
   simp only [Rows.uptoBulk]
   omega
theorem open_parts {r : Reach} {b0 : Nat} {v : Value} {d : DataW H} {ps : List MemPlace} (hval : Value.okWide Tryz.prog w r b0 22 v) (hd : DataW.Trod enc Tryz.prog w base sp held 22 v d ps) :
  ∃ (a : Option Addr) (cap : Nat) (l : List Prt), v = .slice a l.length cap ∧ (PrtsAt w a l ∧ l.length ≤ cap) ∧ l.length + 1 ≤ Rows.uptoBulk d := by
 obtain ⟨fuel, hf⟩ := hd
 obtain ⟨a, cap, l, e, h1, h2, h3⟩ := open_parts' hf
 refine ⟨a, cap, l, ?_, ⟨h1, h2⟩, h3⟩
 have hno : ∀ cs, v ≠ .agg cs := fun cs hcs => by
  subst hcs
  unfold Value.okWide at hval
  rw [Tryz.underlying22] at hval
  simp only [Cell.okWide, Tryz.underlying22] at hval
  simp [Cell.ok, Tryz.underlying22] at hval
 cases v with
 | agg cs => exact absurd rfl (hno cs)
 | _ => exact (List.cons.inj e).1
end
end Go.Proofs.YtbafalfmgibnfaaGreatDoor.part
namespace Go.Proofs.YtbafalfmgibnfaaGreatDoor.part
open Go.RowKit Go.Maps Go.Tre lex gr Go.ChangeShapes Go.WideShapes Go.Deep
set_option maxRecDepth 100000
section
variable {H : Type} {enc : TypeId × Value → H} {w : World} {base : Nat} {sp : Nat → Bool} {held : Bool}
theorem len_sum : ∀ l : List ByteArray, l.length ≤ (l.map fun s => s.size + 1).sum
 | [] => Nat.zero_le _
 | s :: r => by
  have := len_sum r
  simp only [List.length_cons, List.map_cons, List.sum_cons]
  omega
theorem in_sum : ∀ {l : List ByteArray} {s : ByteArray}, s ∈ l → s.size + 1 ≤ (l.map fun s => s.size + 1).sum
 | x :: r, s, h => by
  simp only [List.map_cons, List.sum_cons]
  rcases List.mem_cons.1 h with rfl | h
  ·omega
  ·have := in_sum h
   omega
theorem open_strsA {r : Reach} {b0 : Nat} {v : Value} {d : DataW H} {ps : List MemPlace} (hval : Value.okWide Tryz.prog w r b0 26 v) (hd : DataW.Trod enc Tryz.prog w base sp held 26 v d ps) :
  ∃ (a : Option Addr) (cap : Nat) (l : List ByteArray), v = .slice a l.length cap ∧ (StrsAt w a l ∧ ∀ s ∈ l, s.size + 1 ≤ Rows.uptoBulk d) ∧ l.length + 1 ≤ Rows.uptoBulk d := by
 obtain ⟨fuel, hf⟩ := hd
 obtain ⟨a, cap, l, e, h1, _, h3⟩ := open_strs' Tryz.underlying26 Tryz.underlying9 cellsStr hf
 have hb : (l.map fun s => s.size + 1).sum + 1 ≤ Rows.uptoBulk d := by
  rcases h3 with ⟨h3, rfl⟩ | ⟨q, h3⟩
  ·exact bulk_pos d
  ·have h3' : d = _ := h3
   rw [h3']
   have := bulk_strs (H := H) l
   simp only [Rows.uptoBulk]
   omega
 refine ⟨a, cap, l, ?_, ⟨h1, fun s hs => by have := in_sum hs; omega⟩, by have := len_sum l; omega⟩
 have hno : ∀ cs, v ≠ .agg cs := fun cs hcs => by
  subst hcs
  unfold Value.okWide at hval
  rw [Tryz.underlying26] at hval
  simp only [Cell.okWide, Tryz.underlying26] at hval
  simp [Cell.ok, Tryz.underlying26] at hval
 cases v with
 | agg cs => exact absurd rfl (hno cs)
 | _ => exact (List.cons.inj e).1
end
end Go.Proofs.YtbafalfmgibnfaaGreatDoor.part
