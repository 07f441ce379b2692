/- What a row that lists the library's variables tells of the world: what the lexer wants. What a row that lists the numerals' table tells of the world. -/
import Derived.Test.YtaleodkbghogfaaGreatDoorB16
import Derived.Test.YtaleodkbghogfaaGreatDoorRows
import Derived.Lib.LaidTab
import Derived.LaidSub
import Derived.LaidMore
import Derived.LaidHandle
import Derived.LaidLaws
import Derived.WalkKit
import Derived.Test.YtaleodkbghogfaaGreatDoorB33
set_option linter.unusedVariables false
namespace Go.Proofs.YtaleodkbghogfaaGreatDoor.lex
open Go.ChangeShapes Go.WideShapes Go.RowKit Go.Tre
theorem envMax {w : World} (h : w.ShapedOpen Tryz.prog) : MaxAt w :=
 Go.Proofs.cell_of_shapedOpen_int (zero := #[.int .i64 0]) (t := 3) h (of_decide_eq_true (by kernel_rfl)) (by kernel_rfl) rfl (by kernel_rfl) (by kernel_rfl) Tryz.underlying3
def spaceTab : List Int := (List.range 256).map fun c => if spB (UInt8.ofNat c) = true then 1 else 0
theorem spaceData : (Rows.laid_strings_asciiSpace : DataW Unit) = Lib.tabData .u8 spaceTab := by kernel_rfl
theorem envSpace {W : World} {l : List (String × DataW Unit)} (h : laidMetH Tryz.prog l W) (e : l.filter (fun x => x.1 == "strings.asciiSpace") = [("strings.asciiSpace", Rows.laid_strings_asciiSpace)]) : SpaceAt W := by
 have h1 := laidMetH.filter (fun x => x.1 == "strings.asciiSpace") h
 rw [e, spaceData] at h1
 have h2 : Lib.TabIs Tryz.prog W "strings.asciiSpace" .u8 spaceTab :=
  Lib.tabIs_of_head (rest := []) (g := 2) (t := 215) (e := 5) (n := 256) (by kernel_rfl) (by kernel_rfl) Tryz.underlying215 Tryz.underlying5 (by kernel_rfl) (by kernel_rfl) h1
 intro c
 have hc := c.toNat_lt
 have h3 := h2.cell (g := 2) (by kernel_rfl) c.toNat (by unfold spaceTab; simp; omega)
 rw [h3]
 unfold spaceTab
 rw [List.getD_eq_getElem?_getD, List.getElem?_map, List.getElem?_range (by omega)]
 simp
theorem envRange {W : World} {l : List (String × DataW Unit)} (h : laidMetH Tryz.prog l W) (e : l.filter (fun x => x.1 == "strconv.ErrRange") = [("strconv.ErrRange", Rows.laid_strconv_ErrRange)]) : RangeAt W := by
 have h1 := laidMetH.filter (fun x => x.1 == "strconv.ErrRange") h
 rw [e] at h1
 have h2 : laidMet Tryz.prog [("strconv.ErrRange", Rows.laid_strconv_ErrRange)] W := h1
 obtain ⟨ps, ⟨g', t', cs, fuel, p, q, hg', ht', hvar, hd, _, _⟩, _⟩ := h2
 obtain rfl := Option.some.inj ((show Tryz.prog.globalNamed "strconv.ErrRange" = some 8 by kernel_rfl).symm.trans hg')
 obtain rfl := Option.some.inj ((show (Tryz.prog.globals[8]?).map (·.type) = some 54 by kernel_rfl).symm.trans ht')
 obtain ⟨f1, u, v, hcs, _, _⟩ := iface_of_trod Tryz.underlying54 hd
 refine ⟨u, v, ?_⟩
 have h3 := World.var?_cell hg' hvar 0
 have h4 : cs[0]? = some (.iface u v) := by rw [← Array.getElem?_toList, hcs]; rfl
 rw [h3, h4]
theorem errRows : ((List.range Tryz.prog.types.size).filter fun t => Tryz.prog.rowNamed t [101, 114, 114, 111, 114]) = [54] := by kernel_rfl
theorem envErr {W : World} {l : List (String × DataW Unit)} (h : laidMetH Tryz.prog l W) (e : l.filter (fun x => x.1 == "errors.errorType") = [("errors.errorType", Rows.laid_errors_errorType)]) : ErrT W := by
 have h1 := laidMetH.filter (fun x => x.1 == "errors.errorType") h
 rw [e] at h1
 have h' : laidMet Tryz.prog [] W ∧ handlesMet Tryz.prog [("errors.errorType", Rows.laid_errors_errorType)] W := h1
 obtain ⟨name, u, ty, e1, e2, e3, e4, e5⟩ := h'.2 _ (List.mem_singleton.2 rfl)
 have en : name = [101, 114, 114, 111, 114] := (Option.some.inj e1).symm
 subst en
 obtain rfl := Option.some.inj ((show (Tryz.prog.cutTypes.find? (·.1 == "internal/reflectlite.rtype")).map (·.2) = some 179 by kernel_rfl).symm.trans e2)
 have hm : ty ∈ (List.range Tryz.prog.types.size).filter fun t => Tryz.prog.rowNamed t [101, 114, 114, 111, 114] := List.mem_filter.2 ⟨List.mem_range.2 e3, e4⟩
 rw [errRows] at hm
 obtain rfl := List.mem_singleton.1 hm
 have hh : typeHandle Tryz.prog 54 = .pointer (some (rtA 54)) := by kernel_rfl
 rw [hh] at e5
 show W.cell? ⟨0, 0, none⟩ = _
 simpa using World.var?_cell (show Tryz.prog.globalNamed "errors.errorType" = some 0 by kernel_rfl) e5 0
theorem env_of {W : World} {l : List (String × DataW Unit)} (hsh : W.ShapedOpen Tryz.prog) (h : laidMetH Tryz.prog l W) (e1 : l.filter (fun x => x.1 == "strings.asciiSpace") = [("strings.asciiSpace", Rows.laid_strings_asciiSpace)])
  (e2 : l.filter (fun x => x.1 == "strconv.ErrRange") = [("strconv.ErrRange", Rows.laid_strconv_ErrRange)]) (e3 : l.filter (fun x => x.1 == "errors.errorType") = [("errors.errorType", Rows.laid_errors_errorType)]) : LexEnv W :=
 ⟨envMax hsh, envSpace h e1, envRange h e2, envErr h e3⟩
end Go.Proofs.YtaleodkbghogfaaGreatDoor.lex
namespace Go.Proofs.YtaleodkbghogfaaGreatDoor.lex
open Go.ChangeShapes Go.WideShapes Go.RowKit Go.Tre
theorem envTab {W : World} {l : List (String × DataW Unit)} (h : laidMetH Tryz.prog l W) (e : l.filter (fun x => x.1 == "internal/strconv.uint64pow10") = [("internal/strconv.uint64pow10", Lib.tabData .u64 Lib.pow10Tab)]) : TabAt W := by
 have h1 := laidMetH.filter (fun x => x.1 == "internal/strconv.uint64pow10") h
 rw [e] at h1
 exact Lib.tabIs_of_head (rest := []) (g := 1) (t := 199) (e := 25) (n := 20) (by kernel_rfl) (by kernel_rfl) Tryz.underlying199 Tryz.underlying25 (by kernel_rfl) (by kernel_rfl) h1
end Go.Proofs.YtaleodkbghogfaaGreatDoor.lex
