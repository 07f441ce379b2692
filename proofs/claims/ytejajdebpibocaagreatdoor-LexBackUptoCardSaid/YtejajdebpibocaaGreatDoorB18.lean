/- trefoillaw01: LexBack. What a row that lists the library's variables tells of the world: what the lexer wants. What a row that lists the numerals' table tells of the world. -/
import Derived.Test.YtejajdebpibocaaGreatDoorB15
import Derived.Test.YtejajdebpibocaaGreatDoorB16
import Derived.Test.YtejajdebpibocaaGreatDoorB17
import Derived.Test.YtejajdebpibocaaGreatDoorB13
import Derived.Test.YtejajdebpibocaaGreatDoorRows
import Derived.Lib.LaidTab
import Derived.LaidSub
import Derived.LaidMore
import Derived.LaidHandle
import Derived.LaidLaws
import Derived.WalkKit
import Derived.Test.YtejajdebpibocaaGreatDoorB14
set_option linter.unusedVariables false
namespace Go.Tre
open Go.RowKit
theorem putsToks_len : ∀ (P : List (List UInt8 × Tok)) (d : Nat), (putsToks d P).length = P.length
  | [], _ => rfl
  | _ :: r, _ => by rw [putsToks, List.length_cons, putsToks_len r, List.length_cons]
theorem puts_snoc (P : List (List UInt8 × Tok)) (s : List UInt8) (u : Tok) : (putsToks 0 (P ++ [(s, u)])).flatMap tokCells = (putsToks 0 P).flatMap tokCells ++ [.int .i64 u.kind, .int .i64 ((putsText P).length : Nat), .int .i64 u.n, .string ⟨u.s.toArray⟩] := by
  rw [putsToks_app, List.flatMap_append, Nat.zero_add]
  rfl
theorem puts_end (P : List (List UInt8 × Tok)) (N : Nat) : (putsToks 0 P ++ [(⟨0, N, 0, []⟩ : Tok)]).take P.length = putsToks 0 P := by
  rw [List.take_append_of_le_length (by rw [putsToks_len]; exact Nat.le_refl _), List.take_of_length_le (by rw [putsToks_len]; exact Nat.le_refl _)]
abbrev GoodP (P : List (List UInt8 × Tok)) : Prop := ∀ p ∈ P, p.2.at_ = 0 ∧ lexS p.1 = some [p.2, ⟨0, p.1.length, 0, []⟩]
end Go.Tre
namespace Go.Proofs.YtejajdebpibocaaGreatDoor.lex
open Go.RowKit Go.Tre Go.Maps rep
set_option maxRecDepth 100000 in
set_option maxHeartbeats 8000000 in
theorem lexBack (a : Option Addr) (c : Nat) (l : List ATok) (w : World) (hl : AToksAt w a l) (hb : (l.map fun t => t.s.length + 1).sum + 1 ≤ 1048576) (E : LexEnv w) (T : TabAt w) :
    Calls Tryz.prog 5 #[.slice a l.length c] w fun e w' => e = .returned (.bool true) ∧ Below w.heap.size w w' := by
  have HL := Tre.hid hl
  have HE := Tre.hid E
  have HT := Tre.hid T
  have HS : Hid (∀ t ∈ l, t.s.length + 1 ≤ 1048576) := fun t ht => by have := le_sum_mem (fun t : ATok => t.s.length + 1) l t ht; omega
  have hll : l.length ≤ 1048576 := by
    have h1 : ∀ l : List ATok, l.length ≤ (l.map fun t => t.s.length + 1).sum := fun l => by
      induction l with
      | nil => exact Nat.le_refl _
      | cons x r ih => rw [List.map_cons, List.sum_cons, List.length_cons]; omega
    have := h1 l; omega
  obtain ⟨ti, I1, I2, I3, I4⟩ := info_parts infoTok
  have J1 := Tre.hid I1
  have J2 := Tre.hid I2
  have J3 := Tre.hid I3
  have J4 := Tre.hid I4
  clear I1 I2 I3 I4 hl hb E T
  go_enter Tryz.func5, Tryz.ntmps5
  go_wp2_with fail
  refine (alive w HE.out).mono ?_
  rintro e w1 ⟨rfl, b1⟩
  have HM1 := Tre.hid ((Mem.of_below b1).addNil 29 4)
  clear b1
  go_wp2_with fail
  go_loopw [3, 4, 16] (fun v3 v4 v16 wr => ∃ (i : Nat) (tx : ByteArray) (P : List (List UInt8 × Tok)), i ≤ l.length ∧ v16 = .int .i64 i ∧ v3 = .string tx ∧ tx.size ≤ i * 4194304 ∧ P.length ≤ i ∧ Hid (tx.data.toList = putsText P ∧ GoodP P) ∧ Hid (Mem w wr [rowR 29 4 v4 P.length ((putsToks 0 P).flatMap tokCells)]))
    (fun _ _ v16 _ => l.length - (intOf v16).toNat)
  case atStart => exact ⟨0, ⟨#[]⟩, [], Nat.zero_le _, rfl, rfl, Nat.zero_le _, Nat.le_refl _, ⟨rfl, fun p h => by cases h⟩, HM1.out⟩
  case round =>
  clear HM1
  obtain ⟨i, tx, P, hi, rfl, rfl, htx, hPi, HP, HM⟩ := hrel
  by_cases hlt : i < l.length
  · obtain ⟨t, ht⟩ : ∃ t, l[i]? = some t := ⟨_, List.getElem?_eq_getElem hlt⟩
    obtain ⟨b, o, rfl, hat⟩ := (HL.out.below HM.out.below).at_ i t ht
    have hts := HS.out t (List.mem_of_getElem? ht)
    obtain ⟨c0, c1, c2, c3, hlo, hhi⟩ := hat
    have hsz : (⟨t.s.toArray⟩ : ByteArray).size ≤ 2097150 := by show t.s.toArray.size ≤ _; rw [List.size_toArray]; omega
    have HMB := Tre.hid (HM.out.allocR (tokV t.k t.at_ t.n ⟨t.s.toArray⟩) 29)
    have HLO := Tre.hid hlo
    have HHI := Tre.hid hhi
    clear ht hlo hhi HM hts
    go_wp2_with fail
    refine (put_any t.k t.at_ t.n ⟨t.s.toArray⟩ _ hsz HLO.out HHI.out (HE.out.below HMB.out.below) (HT.out.below HMB.out.below)).mono ?_
    rintro e w2 ⟨b2, ⟨x, u, rfl, hx, hu0, hlex, ek, en, es⟩ | rfl⟩
    · have M2 := HMB.out.quiet b2
      have k0 := M2.cell 0 rfl 0 rfl
      have k1 := M2.cell 0 rfl 1 rfl
      have k2 := M2.cell 0 rfl 2 rfl
      have k3 := M2.cell 0 rfl 3 rfl
      have f1 := M2.free 0 rfl 1
      have M3 := M2.setCell 0 rfl 1 (.int .i64 tx.size)
      have l0 := M3.cell 0 rfl 0 rfl
      have l1 := M3.cell 0 rfl 1 rfl
      have l2 := M3.cell 0 rfl 2 rfl
      have l3 := M3.cell 0 rfl 3 rfl
      have MB' := M3.allocRow #[.int .i64 t.k, .int .i64 tx.size, .int .i64 t.n, .string ⟨t.s.toArray⟩] 29 4 1 (by unfold maxLen; omega) rfl
      rw [show (w2.setCell ⟨wr.heap.size, 1, none⟩ (.int .i64 tx.size)).heap.size = w2.heap.size by simp] at MB'
      obtain ⟨a5, c5, rfl, _⟩ := MB'.val 2 rfl
      have MB := Tre.hid MB'
      have hcat1 : ¬ (9223372036854775807 < x.size + 1) := by omega
      have hcat2 : ¬ (9223372036854775807 < tx.size + (x.size + 1)) := by omega
      have HX : Hid (u.at_ = 0 ∧ lexS x.data.toList = some [u, ⟨0, x.data.toList.length, 0, []⟩] ∧ t.k = u.kind ∧ t.n = u.n ∧ t.s = u.s) := ⟨hu0, hlex, ek, en, es⟩
      have hPl : P.length ≤ 1048576 := by omega
      clear M2 M3 MB' b2 HMB hu0 hlex ek en es c0 c1 c2 c3
      go_wp2_with (at_builtin; go_loud (refine wpList_append_row _ rfl _ _ 23 rfl 29 ti _ 4 40 Tryz.underlying23 J1.out J2.out J3.out J4.out rfl (by omega) (.slice a5 P.length c5) P.length ((putsToks 0 P).flatMap tokCells) rfl (MB.out.row 2 rfl) (some ⟨w2.heap.size, 0, none⟩) 1 1 [.int .i64 t.k, .int .i64 tx.size, .int .i64 t.n, .string ⟨t.s.toArray⟩] rfl ⟨rfl, fun j u hj => ⟨_, 0, rfl, by rw [Nat.zero_add]; exact MB.out.cellAt 0 rfl j hj⟩⟩ (by simp [Value.oneCell']) (by unfold maxLen; omega) (by omega) ?_; intro v9 w9 hown9 hgrow9 hat9; have M9 := MB.out.grow 2 rfl hgrow9 hown9 hat9; have HM9 := Tre.hid ((M9.del 0).del 0); clear M9 hown9 hgrow9 hat9))
      go_roundw
      case rel =>
        obtain ⟨hp1, hp2⟩ := HP.out
        obtain ⟨x1, x2, x3, x4, x5⟩ := HX.out
        have hts : tx.size = (putsText P).length := by rw [← hp1]; rfl
        refine ⟨i + 1, tx ++ (x ++ ⟨#[32]⟩), P ++ [(x.data.toList, u)], by omega, by go_num, rfl, ?_, by rw [List.length_append, List.length_singleton]; omega, ⟨?_, ?_⟩, ?_⟩
        · rw [ByteArray.size_append, ByteArray.size_append, show (⟨#[32]⟩ : ByteArray).size = 1 from rfl]; omega
        · rw [ByteArray.data_append, ByteArray.data_append, Array.toList_append, Array.toList_append, hp1, putsText_app]; rfl
        · intro p hp
          rcases List.mem_append.1 hp with h | h
          · exact hp2 p h
          · obtain rfl := List.mem_singleton.1 h
            exact ⟨x1, x2⟩
        · show Mem _ _ _
          rw [puts_snoc, List.length_append, List.length_singleton, ← hts, ← x3, ← x4, ← x5]
          exact HM9.out
      case measure => simp [intOf]; omega
    · have HM2 := Tre.hid ((HMB.out.quiet b2).del 0)
      clear b2 HMB
      go_wp2_with fail
      go_roundw
      case rel => exact ⟨i + 1, tx, P, by omega, by go_num, rfl, Nat.le_trans htx (Nat.mul_le_mul_right _ (Nat.le_succ i)), by omega, HP.out, HM2.out⟩
      case measure => simp [intOf]; omega
  · by_cases hbig : 5000 < tx.size
    · go_wp2_with fail
      go_ret
      exact ⟨rfl, HM.out.below⟩
    · have htx5 : tx.size ≤ 4194304 := by omega
      have HD : Hid (lexS tx.data.toList = some (putsToks 0 P ++ [⟨0, tx.size, 0, []⟩])) := by
        show _ = _
        obtain ⟨hp1, hp2⟩ := HP.out
        have hts : tx.size = (putsText P).length := by rw [← hp1]; rfl
        rw [hp1, hts]
        exact puts_lex P hp2 (by omega)
      have hPl : P.length ≤ 1048576 := by omega
      clear hPi htx
      go_wp2_with fail
      refine (Lex tx _ htx5 (HE.out.below HM.out.below)).mono ?_
      rw [HD.out]
      intro e w4 hp
      rcases hp with ⟨ts, vz, hd, rfl, M4⟩ | ⟨hd, _⟩
      · cases hd
        have HM4 := Tre.hid (HM.out.call M4)
        clear M4 HM
        obtain ⟨n, hn⟩ : ∃ n, Hid (P.length = n) := ⟨_, rfl⟩
        have hnl : n ≤ 1048576 := by have := hn.out; omega
        have HTL : Hid ((putsToks 0 P).length = n) := by show _ = _; rw [putsToks_len]; exact hn.out
        have HEL : Hid ((putsToks 0 P ++ [(⟨0, tx.size, 0, []⟩ : Tok)]).length = n + 1) := by show _ = _; rw [List.length_append, HTL.out]; rfl
        have HM5 : Hid (Mem w w4 [rowR 29 4 vz (n + 1) ((putsToks 0 P ++ [(⟨0, tx.size, 0, []⟩ : Tok)]).flatMap tokCells), rowR 29 4 u4 n ((putsToks 0 P).flatMap tokCells)]) := by
          have := HM4.out
          show Mem _ _ _
          rw [← HEL.out, ← hn.out]; exact this
        clear HM4
        obtain ⟨gy, cy, rfl, hcy⟩ := HM5.out.val 1 rfl
        obtain ⟨gz, cz, rfl, hcz⟩ := HM5.out.val 0 rfl
        obtain ⟨uz, huz⟩ : ∃ u, ((putsToks 0 P ++ [(⟨0, tx.size, 0, []⟩ : Tok)]).flatMap tokCells)[0]? = some u := ⟨_, List.getElem?_eq_getElem (by rw [tokCells_len, HEL.out]; omega)⟩
        obtain ⟨g0, rfl, _, _, _⟩ := HM5.out.getRow 0 rfl 0 huz
        clear huz
        have HTZ : Hid (∀ {w' : World}, Mem w w' [rowR 29 4 (.slice (some ⟨g0, 0, none⟩) (n + 1) cz) (n + 1) ((putsToks 0 P ++ [(⟨0, tx.size, 0, []⟩ : Tok)]).flatMap tokCells), rowR 29 4 (.slice gy n cy) n ((putsToks 0 P).flatMap tokCells)] → ToksAt w' (some ⟨g0, 0, none⟩) (putsToks 0 P ++ [(⟨0, tx.size, 0, []⟩ : Tok)])) := fun h => toks_of h 0 rfl HEL.out.symm
        have HTY : Hid (∀ {w' : World}, Mem w w' [rowR 29 4 (.slice (some ⟨g0, 0, none⟩) (n + 1) cz) (n + 1) ((putsToks 0 P ++ [(⟨0, tx.size, 0, []⟩ : Tok)]).flatMap tokCells), rowR 29 4 (.slice gy n cy) n ((putsToks 0 P).flatMap tokCells)] → ToksAt w' gy (putsToks 0 P)) := fun h => toks_of h 1 rfl HTL.out.symm
        have HZT : Hid ((putsToks 0 P ++ [(⟨0, tx.size, 0, []⟩ : Tok)]).take n = putsToks 0 P) := by show _ = _; rw [← hn.out]; exact puts_end _ _
        have HS5 : Hid (∀ {w' : World}, Mem w w' [rowR 29 4 (.slice (some ⟨g0, 0, none⟩) (n + 1) cz) (n + 1) ((putsToks 0 P ++ [(⟨0, tx.size, 0, []⟩ : Tok)]).flatMap tokCells), rowR 29 4 (.slice gy n cy) n ((putsToks 0 P).flatMap tokCells)] → w'.cell? ⟨g0, n * 4, none⟩ = some (.int .i64 0) ∧ w'.cell? ⟨g0, n * 4 + 1, none⟩ = some (.int .i64 tx.size) ∧ w'.cell? ⟨g0, n * 4 + 2, none⟩ = some (.int .i64 0) ∧ w'.cell? ⟨g0, n * 4 + 3, none⟩ = some (.string ⟨#[]⟩)) := by
          intro w' h
          have hg : (putsToks 0 P ++ [(⟨0, tx.size, 0, []⟩ : Tok)])[n]? = some ⟨0, tx.size, 0, []⟩ := by
            rw [List.getElem?_append_right (by rw [HTL.out]; exact Nat.le_refl _), HTL.out, Nat.sub_self]; rfl
          obtain ⟨b1, o1, e1, z0, z1, z2, z3⟩ := (HTZ.out h).tok hg
          cases e1
          rw [Nat.zero_add] at z0 z1 z2 z3
          exact ⟨z0, z1, z2, z3⟩
        have heq := eqTok
        have hte := tokEq_refl 0 tx.size 0 ⟨#[]⟩
        have p1 : IntKind.i64.wrap ((n : Int) + 1) = (n : Int) + 1 := IntWalk.i64_in _ (by omega)
        have p4 : (n : Int) ≤ (cz : Int) := by omega
        have p6 : (0 : Int) ≤ (n : Int) := by omega
        go_wp2_with fail
        refine (same_at (some ⟨g0, 0, none⟩) gy cz cy n (putsToks 0 P) _ ((HTZ.out HM5.out).take n) (HTY.out HM5.out) HZT.out rfl HTL.out (by omega)).mono ?_
        rintro e w5 ⟨rfl, mq⟩
        have HM6 := Tre.hid (HM5.out.quiet mq)
        obtain ⟨z0, z1, z2, z3⟩ := HS5.out HM6.out
        clear mq HM5
        go_wp2_with fail
        go_ret
        exact ⟨rfl, HM6.out.below⟩
      · cases hd
end Go.Proofs.YtejajdebpibocaaGreatDoor.lex
namespace Go.Proofs.YtejajdebpibocaaGreatDoor.lex
open Go.ChangeShapes Go.WideShapes Go.RowKit Go.Tre
theorem envMax {w : World} (h : w.ShapedOpen Tryz.prog) : MaxAt w :=
  Go.Proofs.cell_of_shapedOpen_int (zero := #[.int .i64 0]) (t := 3) h (of_decide_eq_true (by kernel_rfl)) (by kernel_rfl) rfl (by kernel_rfl) (by kernel_rfl) Tryz.underlying3
def spaceTab : List Int := (List.range 256).map fun c => if spB (UInt8.ofNat c) = true then 1 else 0
theorem spaceData : (Rows.laid_strings_asciiSpace : DataW Unit) = Lib.tabData .u8 spaceTab := by kernel_rfl
theorem envSpace {W : World} {l : List (String × DataW Unit)} (h : laidMetH Tryz.prog l W) (e : l.filter (fun x => x.1 == "strings.asciiSpace") = [("strings.asciiSpace", Rows.laid_strings_asciiSpace)]) : SpaceAt W := by
  have h1 := laidMetH.filter (fun x => x.1 == "strings.asciiSpace") h
  rw [e, spaceData] at h1
  have h2 : Lib.TabIs Tryz.prog W "strings.asciiSpace" .u8 spaceTab :=
    Lib.tabIs_of_head (rest := []) (g := 1) (t := 138) (e := 5) (n := 256) (by kernel_rfl) (by kernel_rfl) Tryz.underlying138 Tryz.underlying5 (by kernel_rfl) (by kernel_rfl) h1
  intro c
  have hc := c.toNat_lt
  have h3 := h2.cell (g := 1) (by kernel_rfl) c.toNat (by unfold spaceTab; simp; omega)
  rw [h3]
  unfold spaceTab
  rw [List.getD_eq_getElem?_getD, List.getElem?_map, List.getElem?_range (by omega)]
  simp
theorem envRange {W : World} {l : List (String × DataW Unit)} (h : laidMetH Tryz.prog l W) (e : l.filter (fun x => x.1 == "strconv.ErrRange") = [("strconv.ErrRange", Rows.laid_strconv_ErrRange)]) : RangeAt W := by
  have h1 := laidMetH.filter (fun x => x.1 == "strconv.ErrRange") h
  rw [e] at h1
  have h2 : laidMet Tryz.prog [("strconv.ErrRange", Rows.laid_strconv_ErrRange)] W := h1
  obtain ⟨ps, ⟨g', t', cs, fuel, p, q, hg', ht', hvar, hd, _, _⟩, _⟩ := h2
  obtain rfl := Option.some.inj ((show Tryz.prog.globalNamed "strconv.ErrRange" = some 6 by kernel_rfl).symm.trans hg')
  obtain rfl := Option.some.inj ((show (Tryz.prog.globals[6]?).map (·.type) = some 36 by kernel_rfl).symm.trans ht')
  obtain ⟨f1, u, v, hcs, _, _⟩ := iface_of_trod Tryz.underlying36 hd
  refine ⟨u, v, ?_⟩
  have h3 := World.var?_cell hg' hvar 0
  have h4 : cs[0]? = some (.iface u v) := by rw [← Array.getElem?_toList, hcs]; rfl
  rw [h3, h4]
theorem errRows : ((List.range Tryz.prog.types.size).filter fun t => Tryz.prog.rowNamed t [101, 114, 114, 111, 114]) = [36] := by kernel_rfl
theorem envErr {W : World} {l : List (String × DataW Unit)} (h : laidMetH Tryz.prog l W) (e : l.filter (fun x => x.1 == "errors.errorType") = [("errors.errorType", Rows.laid_errors_errorType)]) : ErrT W := by
  have h1 := laidMetH.filter (fun x => x.1 == "errors.errorType") h
  rw [e] at h1
  have h' : laidMet Tryz.prog [] W ∧ handlesMet Tryz.prog [("errors.errorType", Rows.laid_errors_errorType)] W := h1
  obtain ⟨name, u, ty, e1, e2, e3, e4, e5⟩ := h'.2 _ (List.mem_singleton.2 rfl)
  have en : name = [101, 114, 114, 111, 114] := (Option.some.inj e1).symm
  subst en
  obtain rfl := Option.some.inj ((show (Tryz.prog.cutTypes.find? (·.1 == "internal/reflectlite.rtype")).map (·.2) = some 100 by kernel_rfl).symm.trans e2)
  have hm : ty ∈ (List.range Tryz.prog.types.size).filter fun t => Tryz.prog.rowNamed t [101, 114, 114, 111, 114] := List.mem_filter.2 ⟨List.mem_range.2 e3, e4⟩
  rw [errRows] at hm
  obtain rfl := List.mem_singleton.1 hm
  have hh : typeHandle Tryz.prog 36 = .pointer (some (rtA 36)) := by kernel_rfl
  rw [hh] at e5
  show W.cell? ⟨0, 0, none⟩ = _
  simpa using World.var?_cell (show Tryz.prog.globalNamed "errors.errorType" = some 0 by kernel_rfl) e5 0
theorem env_of {W : World} {l : List (String × DataW Unit)} (hsh : W.ShapedOpen Tryz.prog) (h : laidMetH Tryz.prog l W) (e1 : l.filter (fun x => x.1 == "strings.asciiSpace") = [("strings.asciiSpace", Rows.laid_strings_asciiSpace)])
    (e2 : l.filter (fun x => x.1 == "strconv.ErrRange") = [("strconv.ErrRange", Rows.laid_strconv_ErrRange)]) (e3 : l.filter (fun x => x.1 == "errors.errorType") = [("errors.errorType", Rows.laid_errors_errorType)]) : LexEnv W :=
  ⟨envMax hsh, envSpace h e1, envRange h e2, envErr h e3⟩
end Go.Proofs.YtejajdebpibocaaGreatDoor.lex
namespace Go.Proofs.YtejajdebpibocaaGreatDoor.lex
open Go.ChangeShapes Go.WideShapes Go.RowKit Go.Tre
theorem envTab {W : World} {l : List (String × DataW Unit)} (h : laidMetH Tryz.prog l W) (e : l.filter (fun x => x.1 == "internal/strconv.uint64pow10") = [("internal/strconv.uint64pow10", Lib.tabData .u64 Lib.pow10Tab)]) : TabAt W := by
  have h1 := laidMetH.filter (fun x => x.1 == "internal/strconv.uint64pow10") h
  rw [e] at h1
  exact Lib.tabIs_of_head (rest := []) (g := 3) (t := 146) (e := 114) (n := 20) (by kernel_rfl) (by kernel_rfl) Tryz.underlying146 Tryz.underlying114 (by kernel_rfl) (by kernel_rfl) h1
end Go.Proofs.YtejajdebpibocaaGreatDoor.lex
