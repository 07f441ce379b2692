/- trefoillaw01: LexJoins, whatever the texts. What a row that lists the library's variables tells of the world: what the lexer wants. -/
import Derived.Test.YtejajdebpibocaaGreatDoorB13
import Derived.Test.YtejajdebpibocaaGreatDoorB10
import Derived.Test.YtejajdebpibocaaGreatDoorRows
import Derived.Lib.LaidTab
import Derived.LaidSub
import Derived.LaidMore
import Derived.LaidHandle
import Derived.LaidLaws
import Derived.WalkKit
set_option linter.unusedVariables false
namespace Go.Proofs.YtejajdebpibocaaGreatDoor.lex
open Go.RowKit Go.Tre
set_option maxRecDepth 100000 in
set_option maxHeartbeats 8000000 in
theorem lexJoins_err (a b : ByteArray) (w : World) (ha : a.size ≤ 1000) (hb : b.size ≤ 1000) (E : LexEnv w) (hno : lexS a.data.toList = none ∨ lexS b.data.toList = none) :
    Calls Tryz.prog 3 #[.string a, .string b] w fun e w' => e = .returned (.bool true) ∧ Below w.heap.size w w' := by
  have HE := Tre.hid E
  have HNO := Tre.hid hno
  obtain ⟨ab, hab⟩ : ∃ ab : ByteArray, Hid (((a ++ ⟨#[32]⟩) ++ b : ByteArray) = ab) := ⟨_, rfl⟩
  have habs : ab.size ≤ 4194304 := by rw [← hab.out]; simp only [ByteArray.size_append]; have : (⟨#[32]⟩ : ByteArray).size = 1 := rfl; omega
  have HS4 : Hid (ab.size ≤ 65536) := by show _ ≤ _; rw [← hab.out]; simp only [ByteArray.size_append]; have : (⟨#[32]⟩ : ByteArray).size = 1 := rfl; omega
  have HS2 : Hid (a.size ≤ 65536) := by show _ ≤ _; omega
  have HS3 : Hid (b.size ≤ 65536) := by show _ ≤ _; omega
  have hcat1 : ¬ (9223372036854775807 < a.size + 1) := by omega
  have hcat2 : ¬ (9223372036854775807 < a.size + 1 + b.size) := by omega
  clear E hno
  go_enter Tryz.func3, Tryz.ntmps3
  go_wp2_with fail
  refine (alive w HE.out).mono ?_
  rintro e w2 ⟨rfl, b1⟩
  have HB2 := Tre.hid b1
  clear b1
  go_wp2_with fail
  refine (Lex a w2 (by omega) (HE.out.below HB2.out)).mono ?_
  intro e w3 hp
  rcases hp with ⟨ts2, v2, hd, rfl, M⟩ | ⟨hd, at2, rfl, M⟩
  · obtain ⟨q2, c2, rfl, _⟩ := M.val 0 rfl
    have HB3 := Tre.hid (HB2.out.trans (M.below.mono HB2.out.size))
    clear M
    have hda := hd
    clear hd
    go_wp2_with fail
    refine (Lex b w3 (by omega) (HE.out.below HB3.out)).mono ?_
    intro e w4 hp
    rcases hp with ⟨ts3, v3, hd, rfl, M⟩ | ⟨hd, at3, rfl, M⟩
    · obtain ⟨q3, c3, rfl, _⟩ := M.val 0 rfl
      have HB4 := Tre.hid (HB3.out.trans (M.below.mono HB3.out.size))
      clear M
      exact absurd (HNO.out.resolve_left (by rw [hda]; simp)) (by rw [hd]; simp)
    · rw [if_pos HS3.out]
      have HB4 := Tre.hid (HB3.out.trans (M.mono HB3.out.size))
      clear M
      clear hd
      go_wp2_with fail
      generalize hq : (a ++ ⟨#[32]⟩) ++ b = ab2 at hab ⊢
      obtain rfl : ab2 = ab := hab.out
      clear hq hab hcat1 hcat2
      refine (Lex ab2 w4 habs (HE.out.below HB4.out)).mono ?_
      intro e w5 hp
      rcases hp with ⟨ts4, v4, hd, rfl, M⟩ | ⟨hd, at4, rfl, M⟩
      · obtain ⟨q4, c4, rfl, _⟩ := M.val 0 rfl
        have HB5 := Tre.hid (HB4.out.trans (M.below.mono HB4.out.size))
        clear M
        clear hd
        go_wp2_with fail
        go_ret
        exact ⟨rfl, HB5.out⟩
      · rw [if_pos HS4.out]
        have HB5 := Tre.hid (HB4.out.trans (M.mono HB4.out.size))
        clear M
        clear hd
        go_wp2_with fail
        go_ret
        exact ⟨rfl, HB5.out⟩
  · rw [if_pos HS2.out]
    have HB3 := Tre.hid (HB2.out.trans (M.mono HB2.out.size))
    clear M
    clear hd
    go_wp2_with fail
    refine (Lex b w3 (by omega) (HE.out.below HB3.out)).mono ?_
    intro e w4 hp
    rcases hp with ⟨ts3, v3, hd, rfl, M⟩ | ⟨hd, at3, rfl, M⟩
    · obtain ⟨q3, c3, rfl, _⟩ := M.val 0 rfl
      have HB4 := Tre.hid (HB3.out.trans (M.below.mono HB3.out.size))
      clear M
      clear hd
      go_wp2_with fail
      generalize hq : (a ++ ⟨#[32]⟩) ++ b = ab2 at hab ⊢
      obtain rfl : ab2 = ab := hab.out
      clear hq hab hcat1 hcat2
      refine (Lex ab2 w4 habs (HE.out.below HB4.out)).mono ?_
      intro e w5 hp
      rcases hp with ⟨ts4, v4, hd, rfl, M⟩ | ⟨hd, at4, rfl, M⟩
      · obtain ⟨q4, c4, rfl, _⟩ := M.val 0 rfl
        have HB5 := Tre.hid (HB4.out.trans (M.below.mono HB4.out.size))
        clear M
        clear hd
        go_wp2_with fail
        go_ret
        exact ⟨rfl, HB5.out⟩
      · rw [if_pos HS4.out]
        have HB5 := Tre.hid (HB4.out.trans (M.mono HB4.out.size))
        clear M
        clear hd
        go_wp2_with fail
        go_ret
        exact ⟨rfl, HB5.out⟩
    · rw [if_pos HS3.out]
      have HB4 := Tre.hid (HB3.out.trans (M.mono HB3.out.size))
      clear M
      clear hd
      go_wp2_with fail
      generalize hq : (a ++ ⟨#[32]⟩) ++ b = ab2 at hab ⊢
      obtain rfl : ab2 = ab := hab.out
      clear hq hab hcat1 hcat2
      refine (Lex ab2 w4 habs (HE.out.below HB4.out)).mono ?_
      intro e w5 hp
      rcases hp with ⟨ts4, v4, hd, rfl, M⟩ | ⟨hd, at4, rfl, M⟩
      · obtain ⟨q4, c4, rfl, _⟩ := M.val 0 rfl
        have HB5 := Tre.hid (HB4.out.trans (M.below.mono HB4.out.size))
        clear M
        clear hd
        go_wp2_with fail
        go_ret
        exact ⟨rfl, HB5.out⟩
      · rw [if_pos HS4.out]
        have HB5 := Tre.hid (HB4.out.trans (M.mono HB4.out.size))
        clear M
        clear hd
        go_wp2_with fail
        go_ret
        exact ⟨rfl, HB5.out⟩
set_option maxRecDepth 100000 in
set_option maxHeartbeats 8000000 in
theorem lexJoins_long (a b : ByteArray) (w : World) (E : LexEnv w) (h : 1000 < a.size ∨ (¬ 1000 < a.size ∧ 1000 < b.size)) :
    Calls Tryz.prog 3 #[.string a, .string b] w fun e w' => e = .returned (.bool true) ∧ Below w.heap.size w w' := by
  have HE := Tre.hid E
  clear E
  rcases h with h | ⟨h, h2⟩
  all_goals
    go_enter Tryz.func3, Tryz.ntmps3
    go_wp2_with fail
    refine (alive w HE.out).mono ?_
    rintro e w2 ⟨rfl, b1⟩
    have HB2 := Tre.hid b1
    clear b1
    go_wp2_with fail
    go_ret
    exact ⟨rfl, HB2.out⟩
theorem lexJoins (a b : ByteArray) (w : World) (E : LexEnv w) :
    Calls Tryz.prog 3 #[.string a, .string b] w fun e w' => e = .returned (.bool true) ∧ Below w.heap.size w w' := by
  by_cases h1 : 1000 < a.size
  · exact lexJoins_long a b w E (.inl h1)
  · by_cases h2 : 1000 < b.size
    · exact lexJoins_long a b w E (.inr ⟨h1, h2⟩)
    · cases hX : lexS a.data.toList with
      | none => exact lexJoins_err a b w (by omega) (by omega) E (.inl hX)
      | some X => cases hY : lexS b.data.toList with
        | none => exact lexJoins_err a b w (by omega) (by omega) E (.inr hY)
        | some Y => exact lexJoins_ok a b w (by omega) (by omega) E X Y hX hY
end Go.Proofs.YtejajdebpibocaaGreatDoor.lex
namespace Go.Proofs.YtejajdebpibocaaGreatDoor.lex
open Go.ChangeShapes Go.WideShapes Go.RowKit Go.Tre
theorem envMax {w : World} (h : w.ShapedOpen Tryz.prog) : MaxAt w :=
  Go.Proofs.cell_of_shapedOpen_int (zero := #[.int .i64 0]) (t := 3) h (of_decide_eq_true (by kernel_rfl)) (by kernel_rfl) rfl (by kernel_rfl) (by kernel_rfl) Tryz.underlying3
def spaceTab : List Int := (List.range 256).map fun c => if spB (UInt8.ofNat c) = true then 1 else 0
theorem spaceData : (Rows.laid_strings_asciiSpace : DataW Unit) = Lib.tabData .u8 spaceTab := by kernel_rfl
theorem envSpace {W : World} {l : List (String × DataW Unit)} (h : laidMetH Tryz.prog l W) (e : l.filter (fun x => x.1 == "strings.asciiSpace") = [("strings.asciiSpace", Rows.laid_strings_asciiSpace)]) : SpaceAt W := by
  have h1 := laidMetH.filter (fun x => x.1 == "strings.asciiSpace") h
  rw [e, spaceData] at h1
  have h2 : Lib.TabIs Tryz.prog W "strings.asciiSpace" .u8 spaceTab :=
    Lib.tabIs_of_head (rest := []) (g := 1) (t := 138) (e := 5) (n := 256) (by kernel_rfl) (by kernel_rfl) Tryz.underlying138 Tryz.underlying5 (by kernel_rfl) (by kernel_rfl) h1
  intro c
  have hc := c.toNat_lt
  have h3 := h2.cell (g := 1) (by kernel_rfl) c.toNat (by unfold spaceTab; simp; omega)
  rw [h3]
  unfold spaceTab
  rw [List.getD_eq_getElem?_getD, List.getElem?_map, List.getElem?_range (by omega)]
  simp
theorem envRange {W : World} {l : List (String × DataW Unit)} (h : laidMetH Tryz.prog l W) (e : l.filter (fun x => x.1 == "strconv.ErrRange") = [("strconv.ErrRange", Rows.laid_strconv_ErrRange)]) : RangeAt W := by
  have h1 := laidMetH.filter (fun x => x.1 == "strconv.ErrRange") h
  rw [e] at h1
  have h2 : laidMet Tryz.prog [("strconv.ErrRange", Rows.laid_strconv_ErrRange)] W := h1
  obtain ⟨ps, ⟨g', t', cs, fuel, p, q, hg', ht', hvar, hd, _, _⟩, _⟩ := h2
  obtain rfl := Option.some.inj ((show Tryz.prog.globalNamed "strconv.ErrRange" = some 6 by kernel_rfl).symm.trans hg')
  obtain rfl := Option.some.inj ((show (Tryz.prog.globals[6]?).map (·.type) = some 36 by kernel_rfl).symm.trans ht')
  obtain ⟨f1, u, v, hcs, _, _⟩ := iface_of_trod Tryz.underlying36 hd
  refine ⟨u, v, ?_⟩
  have h3 := World.var?_cell hg' hvar 0
  have h4 : cs[0]? = some (.iface u v) := by rw [← Array.getElem?_toList, hcs]; rfl
  rw [h3, h4]
theorem errRows : ((List.range Tryz.prog.types.size).filter fun t => Tryz.prog.rowNamed t [101, 114, 114, 111, 114]) = [36] := by kernel_rfl
theorem envErr {W : World} {l : List (String × DataW Unit)} (h : laidMetH Tryz.prog l W) (e : l.filter (fun x => x.1 == "errors.errorType") = [("errors.errorType", Rows.laid_errors_errorType)]) : ErrT W := by
  have h1 := laidMetH.filter (fun x => x.1 == "errors.errorType") h
  rw [e] at h1
  have h' : laidMet Tryz.prog [] W ∧ handlesMet Tryz.prog [("errors.errorType", Rows.laid_errors_errorType)] W := h1
  obtain ⟨name, u, ty, e1, e2, e3, e4, e5⟩ := h'.2 _ (List.mem_singleton.2 rfl)
  have en : name = [101, 114, 114, 111, 114] := (Option.some.inj e1).symm
  subst en
  obtain rfl := Option.some.inj ((show (Tryz.prog.cutTypes.find? (·.1 == "internal/reflectlite.rtype")).map (·.2) = some 100 by kernel_rfl).symm.trans e2)
  have hm : ty ∈ (List.range Tryz.prog.types.size).filter fun t => Tryz.prog.rowNamed t [101, 114, 114, 111, 114] := List.mem_filter.2 ⟨List.mem_range.2 e3, e4⟩
  rw [errRows] at hm
  obtain rfl := List.mem_singleton.1 hm
  have hh : typeHandle Tryz.prog 36 = .pointer (some (rtA 36)) := by kernel_rfl
  rw [hh] at e5
  show W.cell? ⟨0, 0, none⟩ = _
  simpa using World.var?_cell (show Tryz.prog.globalNamed "errors.errorType" = some 0 by kernel_rfl) e5 0
theorem env_of {W : World} {l : List (String × DataW Unit)} (hsh : W.ShapedOpen Tryz.prog) (h : laidMetH Tryz.prog l W) (e1 : l.filter (fun x => x.1 == "strings.asciiSpace") = [("strings.asciiSpace", Rows.laid_strings_asciiSpace)])
    (e2 : l.filter (fun x => x.1 == "strconv.ErrRange") = [("strconv.ErrRange", Rows.laid_strconv_ErrRange)]) (e3 : l.filter (fun x => x.1 == "errors.errorType") = [("errors.errorType", Rows.laid_errors_errorType)]) : LexEnv W :=
  ⟨envMax hsh, envSpace h e1, envRange h e2, envErr h e3⟩
end Go.Proofs.YtejajdebpibocaaGreatDoor.lex
