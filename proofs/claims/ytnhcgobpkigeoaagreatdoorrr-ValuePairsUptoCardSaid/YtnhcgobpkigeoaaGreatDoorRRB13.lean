/- What a row that lists the library's variables tells of the world: what the lexer wants. What a row that lists the numerals' table tells of the world. How the argument of ValuePairs lies in memory, out of its reading. -/
import Derived.Test.YtnhcgobpkigeoaaGreatDoorRRB10
import Derived.Test.YtnhcgobpkigeoaaGreatDoorRRRows
import Derived.Lib.LaidTab
import Derived.LaidSub
import Derived.LaidMore
import Derived.LaidHandle
import Derived.LaidLaws
import Derived.WalkKit
import Derived.Test.YtnhcgobpkigeoaaGreatDoorRRB12
import Derived.Test.YtnhcgobpkigeoaaGreatDoorRRB00
import Derived.JoinedCond
import Derived.ChangeSlices
import Derived.SliceStrings
import Derived.Deep.Slices
import Derived.Shelf.Vars
import Derived.Test.YtnhcgobpkigeoaaGreatDoorRRB02
set_option linter.unusedVariables false
namespace Go.Proofs.YtnhcgobpkigeoaaGreatDoorRR.lex
open Go.ChangeShapes Go.WideShapes Go.RowKit Go.Tre
theorem envMax {w : World} (h : w.ShapedOpen Tryz.prog) : MaxAt w :=
  Go.Proofs.cell_of_shapedOpen_int (zero := #[.int .i64 0]) (t := 3) h (of_decide_eq_true (by kernel_rfl)) (by kernel_rfl) rfl (by kernel_rfl) (by kernel_rfl) Tryz.underlying3
def spaceTab : List Int := (List.range 256).map fun c => if spB (UInt8.ofNat c) = true then 1 else 0
theorem spaceData : (Rows.laid_strings_asciiSpace : DataW Unit) = Lib.tabData .u8 spaceTab := by kernel_rfl
theorem envSpace {W : World} {l : List (String × DataW Unit)} (h : laidMetH Tryz.prog l W) (e : l.filter (fun x => x.1 == "strings.asciiSpace") = [("strings.asciiSpace", Rows.laid_strings_asciiSpace)]) : SpaceAt W := by
  have h1 := laidMetH.filter (fun x => x.1 == "strings.asciiSpace") h
  rw [e, spaceData] at h1
  have h2 : Lib.TabIs Tryz.prog W "strings.asciiSpace" .u8 spaceTab :=
    Lib.tabIs_of_head (rest := []) (g := 1) (t := 121) (e := 5) (n := 256) (by kernel_rfl) (by kernel_rfl) Tryz.underlying121 Tryz.underlying5 (by kernel_rfl) (by kernel_rfl) h1
  intro c
  have hc := c.toNat_lt
  have h3 := h2.cell (g := 1) (by kernel_rfl) c.toNat (by unfold spaceTab; simp; omega)
  rw [h3]
  unfold spaceTab
  rw [List.getD_eq_getElem?_getD, List.getElem?_map, List.getElem?_range (by omega)]
  simp
theorem envRange {W : World} {l : List (String × DataW Unit)} (h : laidMetH Tryz.prog l W) (e : l.filter (fun x => x.1 == "strconv.ErrRange") = [("strconv.ErrRange", Rows.laid_strconv_ErrRange)]) : RangeAt W := by
  have h1 := laidMetH.filter (fun x => x.1 == "strconv.ErrRange") h
  rw [e] at h1
  have h2 : laidMet Tryz.prog [("strconv.ErrRange", Rows.laid_strconv_ErrRange)] W := h1
  obtain ⟨ps, ⟨g', t', cs, fuel, p, q, hg', ht', hvar, hd, _, _⟩, _⟩ := h2
  obtain rfl := Option.some.inj ((show Tryz.prog.globalNamed "strconv.ErrRange" = some 6 by kernel_rfl).symm.trans hg')
  obtain rfl := Option.some.inj ((show (Tryz.prog.globals[6]?).map (·.type) = some 38 by kernel_rfl).symm.trans ht')
  obtain ⟨f1, u, v, hcs, _, _⟩ := iface_of_trod Tryz.underlying38 hd
  refine ⟨u, v, ?_⟩
  have h3 := World.var?_cell hg' hvar 0
  have h4 : cs[0]? = some (.iface u v) := by rw [← Array.getElem?_toList, hcs]; rfl
  rw [h3, h4]
theorem errRows : ((List.range Tryz.prog.types.size).filter fun t => Tryz.prog.rowNamed t [101, 114, 114, 111, 114]) = [38] := by kernel_rfl
theorem envErr {W : World} {l : List (String × DataW Unit)} (h : laidMetH Tryz.prog l W) (e : l.filter (fun x => x.1 == "errors.errorType") = [("errors.errorType", Rows.laid_errors_errorType)]) : ErrT W := by
  have h1 := laidMetH.filter (fun x => x.1 == "errors.errorType") h
  rw [e] at h1
  have h' : laidMet Tryz.prog [] W ∧ handlesMet Tryz.prog [("errors.errorType", Rows.laid_errors_errorType)] W := h1
  obtain ⟨name, u, ty, e1, e2, e3, e4, e5⟩ := h'.2 _ (List.mem_singleton.2 rfl)
  have en : name = [101, 114, 114, 111, 114] := (Option.some.inj e1).symm
  subst en
  obtain rfl := Option.some.inj ((show (Tryz.prog.cutTypes.find? (·.1 == "internal/reflectlite.rtype")).map (·.2) = some 84 by kernel_rfl).symm.trans e2)
  have hm : ty ∈ (List.range Tryz.prog.types.size).filter fun t => Tryz.prog.rowNamed t [101, 114, 114, 111, 114] := List.mem_filter.2 ⟨List.mem_range.2 e3, e4⟩
  rw [errRows] at hm
  obtain rfl := List.mem_singleton.1 hm
  have hh : typeHandle Tryz.prog 38 = .pointer (some (rtA 38)) := by kernel_rfl
  rw [hh] at e5
  show W.cell? ⟨0, 0, none⟩ = _
  simpa using World.var?_cell (show Tryz.prog.globalNamed "errors.errorType" = some 0 by kernel_rfl) e5 0
theorem env_of {W : World} {l : List (String × DataW Unit)} (hsh : W.ShapedOpen Tryz.prog) (h : laidMetH Tryz.prog l W) (e1 : l.filter (fun x => x.1 == "strings.asciiSpace") = [("strings.asciiSpace", Rows.laid_strings_asciiSpace)])
    (e2 : l.filter (fun x => x.1 == "strconv.ErrRange") = [("strconv.ErrRange", Rows.laid_strconv_ErrRange)]) (e3 : l.filter (fun x => x.1 == "errors.errorType") = [("errors.errorType", Rows.laid_errors_errorType)]) : LexEnv W :=
  ⟨envMax hsh, envSpace h e1, envRange h e2, envErr h e3⟩
end Go.Proofs.YtnhcgobpkigeoaaGreatDoorRR.lex
namespace Go.Proofs.YtnhcgobpkigeoaaGreatDoorRR.lex
open Go.ChangeShapes Go.WideShapes Go.RowKit Go.Tre
theorem envTab {W : World} {l : List (String × DataW Unit)} (h : laidMetH Tryz.prog l W) (e : l.filter (fun x => x.1 == "internal/strconv.uint64pow10") = [("internal/strconv.uint64pow10", Lib.tabData .u64 Lib.pow10Tab)]) : TabAt W := by
  have h1 := laidMetH.filter (fun x => x.1 == "internal/strconv.uint64pow10") h
  rw [e] at h1
  exact Lib.tabIs_of_head (rest := []) (g := 2) (t := 127) (e := 98) (n := 20) (by kernel_rfl) (by kernel_rfl) Tryz.underlying127 Tryz.underlying98 (by kernel_rfl) (by kernel_rfl) h1
end Go.Proofs.YtnhcgobpkigeoaaGreatDoorRR.lex
namespace Go.Proofs.YtnhcgobpkigeoaaGreatDoorRR.vpair
open Go.RowKit Go.Maps Go.Tre Go.ChangeShapes Go.Deep
set_option maxRecDepth 100000
section
variable {H : Type} {enc : TypeId × Value → H} {w : World} {base : Nat} {sp : Nat → Bool} {held : Bool}
theorem open_texts {r : Reach} {b0 : Nat} {v : Value} {d : DataW H} {ps : List MemPlace} (hval : Value.okWide Tryz.prog w r b0 23 v) (hd : DataW.Trod enc Tryz.prog w base sp held 23 v d ps) :
    ∃ (a b : ByteArray) (n : Int) (x : Bool), v = .agg #[.string a, .string b, .int .i64 n, .bool x] ∧ (-9223372036854775808 ≤ n ∧ n ≤ 9223372036854775807) ∧ a.size + b.size ≤ Rows.uptoBulk d := by
  obtain ⟨fuel, hf⟩ := hd
  have hv : ∃ cs : Array Value, v = .agg cs := by
    unfold Value.okWide at hval
    rw [Tryz.underlying23] at hval
    obtain ⟨cs, e, _⟩ := hval
    exact ⟨cs, e⟩
  obtain ⟨cs, rfl⟩ := hv
  have hcs : (Value.agg cs).cells.toList = cs.toList := rfl
  rw [hcs] at hf
  obtain ⟨xs, n, _, ed, hl, hn, hf⟩ := DataW.trod_struct Tryz.underlying23 hf
  have hl4 : cs.toList.length = 4 := hl.trans (by kernel_rfl)
  match hm : cs.toList, hl4, xs, hn, hf, ed with
  | [c0, c1, c2, c3], _, [y0, y1, y2, y3], _, hf, ed =>
    have f0 := hf 0 _ rfl
    have f1 := hf 1 _ rfl
    have f2 := hf 2 _ rfl
    have f3 := hf 3 _ rfl
    simp only [List.getElem?_cons_zero, List.getElem?_cons_succ] at f0 f1 f2 f3
    obtain ⟨a, e0, z0, _⟩ := DataW.trod_string Tryz.underlying9 f0
    obtain ⟨b, e1, z1, _⟩ := DataW.trod_string Tryz.underlying9 f1
    obtain ⟨k, e2, z2, hk⟩ := DataW.trod_int Tryz.underlying2 f2
    obtain ⟨x, e3, z3⟩ := DataW.trod_bool Tryz.underlying4 f3
    cases e0; cases e1; cases e2; cases e3
    refine ⟨a, b, k, x, ?_, ⟨?_, ?_⟩, ?_⟩
    · rw [← Array.toArray_toList (xs := cs), hm]
    · simp [Lit.wf, IntKind.min, IntKind.signed, IntKind.bits] at hk; exact hk.1
    · simp [Lit.wf, IntKind.max, IntKind.signed, IntKind.bits] at hk; exact hk.2
    · have hd : d = .agg [y0.1, y1.1, y2.1, y3.1] := congrArg Prod.fst ed
      rw [hd, z0, z1]
      simp only [Rows.uptoBulk, Rows.uptoBulkAll, Array.length_toList]
      have e1 : a.data.size = a.size := rfl
      have e2 : b.data.size = b.size := rfl
      omega
end
end Go.Proofs.YtnhcgobpkigeoaaGreatDoorRR.vpair
