/- lex.all: a text's tokens. lex.Lex: a text's tokens, or the error's number. Tokens compared. The table that numerals are made by. trefoillaw18: ValueTexts. What a row that lists the library's variables tells of the world: what the lexer wants. What a row that lists the numerals' table tells of the world. -/
import Derived.Test.YtcpcheengfgpaaaGreatDoorB13
import Derived.Test.YtcpcheengfgpaaaGreatDoorB04
import Derived.Test.YtcpcheengfgpaaaGreatDoorB03
import Derived.Deep.LoopGhost
import Derived.Test.YtcpcheengfgpaaaGreatDoorB00
import Derived.Lib.ItoaMem
import Derived.Test.YtcpcheengfgpaaaGreatDoorB05
import Derived.WalkKit
import Derived.Test.YtcpcheengfgpaaaGreatDoorB10
import Derived.Test.YtcpcheengfgpaaaGreatDoorRows
import Derived.Lib.LaidTab
import Derived.LaidSub
import Derived.LaidMore
import Derived.LaidHandle
import Derived.LaidLaws
set_option linter.unusedVariables false
namespace Go.Tre
open Go.RowKit
def tokCells (t : Tok) : List Value := [.int .i64 t.kind, .int .i64 t.at_, .int .i64 t.n, .string ⟨t.s.toArray⟩]
theorem tokCells_len (ts : List Tok) : (ts.flatMap tokCells).length = ts.length * 4 := by
  induction ts with
  | nil => rfl
  | cons t r ih => rw [List.flatMap_cons, List.length_append, ih, List.length_cons]; simp [tokCells]; omega
abbrev toksR (v : Value) (ts : List Tok) : Res := rowR 34 4 v ts.length (ts.flatMap tokCells)
def AllPost (w : World) (s : ByteArray) (D : Option (List Tok)) (e : Ending) (w' : World) : Prop :=
  (∃ ts v, D = some ts ∧ e = .returned (.tuple #[v, .nilIface]) ∧ Mem w w' [toksR v ts]) ∨
  (D = none ∧ ∃ v bs, ∃ at_ : Nat, e = .returned (.tuple #[.slice none 0 0, v]) ∧ Mem w w' [errR bs v at_ (if s.size ≤ 65536 then 5 else 3)])
theorem errIface {w : World} {bs : List Nat} {v : Value} {a no : Nat} (h : ErrIn w bs v a no) : ∃ te ve, v = .iface te ve := by
  rcases h with ⟨p, _, rfl, _⟩ | ⟨p, q, r, t, x, c, _, rfl, _⟩
  · exact ⟨_, _, rfl⟩
  · exact ⟨_, _, rfl⟩
theorem lexS_none_long {s : ByteArray} (h : ¬ s.size ≤ 65536) : lexS s.data.toList = none := by
  unfold lexS
  rw [if_neg (by exact h)]
theorem lexS_short {s : ByteArray} (h : s.size ≤ 65536) : lexS s.data.toList = allS s.size s.data.toList := by
  unfold lexS
  rw [if_pos (by exact h)]
  rfl
end Go.Tre
namespace Go.Proofs.YtcpcheengfgpaaaGreatDoor.lex
open Go.RowKit Go.Tre
theorem infoTok : (Tryz.prog.info? 34).map (fun i => (i.zero, i.size, i.bytes)) = some (some (.agg (tokV 0 0 0 ⟨#[]⟩)), 4, 40) := by kernel_rfl
set_option maxRecDepth 100000 in
set_option maxHeartbeats 8000000 in
theorem all (s : ByteArray) (w : World) (hs : s.size ≤ 4194304) (E : LexEnv w) :
    Calls Tryz.prog 15 #[.string s] w (AllPost w s (lexS s.data.toList)) := by
  by_cases h6 : s.size ≤ 65536
  · obtain ⟨ti, T1, T2, T3, T4⟩ := info_parts infoTok
    have K2 := Tre.hid T2
    have K3 := Tre.hid T3
    have K4 := Tre.hid T4
    have HE := Tre.hid E
    obtain ⟨D, hD⟩ : ∃ D, Hid (allS s.size s.data.toList = D) := ⟨_, rfl⟩
    rw [lexS_short h6, hD.out]
    have HM0 := Tre.hid (((Mem.nil w).addNil 34 4).allocR #[.string s, .int .i64 0] 64)
    clear E T2 T3 T4
    go_enter Tryz.func15, Tryz.ntmps15
    go_wp2_with fail
    go_loopg [5] (s.size) (fun gk v5 wr => ∃ (u5 : Value) (k : Nat) (ts : List Tok), v5 = u5 ∧ Hid (D = (allS s.size (s.data.toList.drop k)).map (ts ++ ·) ∧ gk = s.size - k) ∧ k ≤ s.size ∧ ts.length ≤ k ∧ Hid (Mem w wr [lexR w.heap.size s k, toksR u5 ts]))
    case atStart => exact ⟨_, 0, [], rfl, ⟨by rw [← hD.out]; simp, rfl⟩, Nat.zero_le _, Nat.le_refl _, HM0.out⟩
    case round =>
      obtain ⟨u5, k, ts, rfl, hI, hk, htk, HM⟩ := hrel
      go_wp2_with fail
      refine (skip w _ w.heap.size s k wr HM.out hk hs HE.out.max).mono ?_
      intro e w' hp
      rcases hp with ⟨k', hk', hSK, rfl, M⟩ | ⟨hSK, v, bs, k', hk', rfl, M⟩
      · have HMa := Tre.hid M
        have HSK := Tre.hid hSK
        clear M hSK HM
        obtain ⟨x, hx⟩ : ∃ x : ByteArray, Hid (x.data.toList = s.data.toList.drop k') := ⟨s.extract k' s.size, extract_list s k'⟩
        have hxs : Hid (x.size = s.size - k') := by
          have := congrArg List.length hx.out
          show _ = _
          simpa using this
        have hkk : k ≤ k' := by
          have h1 := skipS_len HSK.out
          simp at h1
          omega
        go_wp2_with fail
        refine (rest_is w.heap.size s k' x _ (lexAt HMa.out 0 rfl) hk' (by omega) hx.out).mono ?_
        rintro e w2 ⟨rfl, mq⟩
        have HMb := Tre.hid (HMa.out.quiet mq)
        clear mq HMa
        by_cases hx0 : x.size = 0
        · have e0 := emp1 hx0
          have e1 : (!x.toList.isEmpty) = false := by rw [e0]; rfl
          have hkN : Hid (k' = s.size) := by show _ = _; have := hxs.out; omega
          have HD : Hid (D = some (ts ++ [⟨0, s.size, 0, []⟩])) := by
            show _ = _
            have hd : s.data.toList.drop k' = [] := by rw [← hx.out]; exact toList_empty.2 hx0
            rw [hI.out.1, allS_eq, HSK.out, hd]; rfl
          obtain ⟨a5, c5, rfl, _⟩ := HMb.out.val 1 rfl
          obtain ⟨l0, l1⟩ := HMb.out.two 0 rfl
          have MB := Tre.hid (HMb.out.allocRow #[.int .i64 0, .int .i64 (k' : Int), .int .i64 0, .string ⟨#[]⟩] 34 4 1 (by unfold maxLen; omega) rfl)
          clear hx0
          go_wp2_with (at_builtin; refine wpList_append_row _ rfl _ _ 28 rfl 34 ti _ 4 40 Tryz.underlying28 T1 K2.out K3.out K4.out rfl (by omega) (.slice a5 ts.length c5) ts.length (ts.flatMap tokCells) rfl (MB.out.row 2 rfl) (some ⟨w2.heap.size, 0, none⟩) 1 1 [.int .i64 0, .int .i64 (k' : Int), .int .i64 0, .string ⟨#[]⟩] rfl ⟨rfl, fun j u hj => ⟨_, 0, rfl, by rw [Nat.zero_add]; exact MB.out.cellAt 0 rfl j hj⟩⟩ (by simp [Value.oneCell']) (by unfold maxLen; omega) (by omega) ?_; intro v9 w9 hown9 hgrow9 hat9; have M9 := MB.out.grow 2 rfl hgrow9 hown9 hat9; obtain ⟨a9, c9, rfl, _⟩ := M9.val 2 rfl; have HM9 := Tre.hid M9; clear M9 hown9 hgrow9 hat9)
          go_ret2
          refine .inl ⟨ts ++ [⟨0, s.size, 0, []⟩], .slice a9 (ts.length + 1) c9, HD.out, rfl, ?_⟩
          have h := (HM9.out.del 0).del 0
          rw [hkN.out] at h
          show Mem _ _ [rowR _ _ _ _ _]
          rw [List.length_append, List.length_singleton, List.flatMap_append]
          exact h
        · have e0 := emp0 hx0
          have e1 : (!x.toList.isEmpty) = true := by rw [e0]; rfl
          have hx1 : 0 < x.size := by omega
          obtain ⟨c, r, hcr⟩ : ∃ c r, Hid (s.data.toList.drop k' = c :: r) := by
            cases hdr : s.data.toList.drop k' with
            | nil => exact absurd (toList_empty.1 (hx.out.trans hdr)) hx0
            | cons c r => exact ⟨c, r, rfl⟩
          clear hx0
          go_wp2_with fail
          refine (next w _ w.heap.size s x k' _ HMb.out hk' hs hx.out hx1 HE.out).mono ?_
          intro e w3 hp
          rcases hp with ⟨t, n, y, hN, hy, rfl, M⟩ | ⟨hN, ka, kb, kc, y, mv, v, bs, rfl, M⟩
          · have hnl := nextS_len hN
            have hnx : 1 ≤ n ∧ k' + n ≤ s.size := by
              have h1 : x.data.toList.length = x.size := rfl
              have h2 := hxs.out
              omega
            have hn1 := hnx.1
            have hn2 := hnx.2
            have HD : Hid (D = (allS s.size (s.data.toList.drop (k' + n))).map ((ts ++ [{ t with at_ := k' }]) ++ ·)) := by
              show _ = _
              rw [hx.out, hcr.out] at hN
              have hl : s.size - (c :: r).length = k' := by
                rw [← hcr.out]; simp; omega
              rw [hI.out.1, allS_eq, HSK.out, hcr.out]
              simp only
              rw [hN]
              simp only
              rw [hl, ← hcr.out, List.drop_drop]
              cases allS s.size (s.data.toList.drop (k' + n)) <;> simp
            have HY : Hid (y = ⟨t.s.toArray⟩) := data_inj' (by rw [hy])
            obtain ⟨a5, c5, rfl, _⟩ := M.val 1 rfl
            have MA := M.allocR #[.int .i64 (t.kind : Int), .int .i64 (k' : Int), .int .i64 t.n, .string y] 34
            have HMA := Tre.hid MA
            have hw3 : w.heap.size < w3.heap.size := by have := (Array.getElem?_eq_some_iff.1 (M.heap 0 rfl)).1; exact this
            have MB' := MA.allocRow #[.int .i64 (t.kind : Int), .int .i64 (k' : Int), .int .i64 t.n, .string y] 34 4 1 (by unfold maxLen; omega) rfl
            rw [World.size_alloc] at MB'
            have MB := Tre.hid MB'
            clear hnl hnx hN hy M MA MB' HMb
            go_wp2_with (at_builtin; refine wpList_append_row _ rfl _ _ 28 rfl 34 ti _ 4 40 Tryz.underlying28 T1 K2.out K3.out K4.out rfl (by omega) (.slice a5 ts.length c5) ts.length (ts.flatMap tokCells) rfl (MB.out.row 3 rfl) (some ⟨w3.heap.size + 1, 0, none⟩) 1 1 [.int .i64 (t.kind : Int), .int .i64 (k' : Int), .int .i64 t.n, .string y] rfl ⟨rfl, fun j u hj => ⟨_, 0, rfl, by rw [Nat.zero_add]; exact MB.out.cellAt 0 rfl j hj⟩⟩ (by simp [Value.oneCell']) (by unfold maxLen; omega) (by omega) ?_; intro v9 w9 hown9 hgrow9 hat9; have M9 := MB.out.grow 3 rfl hgrow9 hown9 hat9; obtain ⟨a9, c9, rfl, _⟩ := M9.val 3 rfl; obtain ⟨l0, l1⟩ := M9.two 2 rfl; have f1 := M9.free 2 rfl 1; have HM9 := Tre.hid M9; clear M9 hown9 hgrow9 hat9)
            have M10 := (HM9.out.setCell 2 rfl 1 (.int .i64 ((k' : Int) + (n : Int)))).del 0
            have M11 := M10.del 0
            go_roundg (s.size - (k' + n))
            case measure => have h1 := hI.out.2; rw [h1]; omega
            case rel =>
              refine ⟨.slice a9 (ts.length + 1) c9, k' + n, ts ++ [{ t with at_ := k' }], rfl, ⟨HD.out, rfl⟩, hn2, by simp; omega, ?_⟩
              show Mem _ _ [_, rowR _ _ _ _ _]
              rw [List.length_append, List.length_singleton, List.flatMap_append]
              rw [HY.out, show ((k' : Int) + (n : Int)) = ((k' + n : Nat) : Int) by omega] at M11
              exact M11
          · have HD : Hid (D = none) := by
              show _ = _
              rw [hx.out, hcr.out] at hN
              rw [hI.out.1, allS_eq, HSK.out, hcr.out]
              simp only
              rw [hN]; rfl
            obtain ⟨te, ve, rfl⟩ := errIface (M.at_ 0 rfl)
            have HM3 := Tre.hid M
            clear M hN HMb
            go_wp2_with fail
            go_ret2
            refine .inr ⟨HD.out, _, bs, k', rfl, ?_⟩
            rw [if_pos h6]
            exact ((HM3.out.alloc _).del 1).del 1
      · have HD : Hid (D = none) := by
          show _ = _
          rw [hI.out.1, allS_eq, hSK]; rfl
        obtain ⟨te, ve, rfl⟩ := errIface (M.at_ 0 rfl)
        have HM3 := Tre.hid M
        clear M hSK HM
        go_wp2_with fail
        go_ret2
        refine .inr ⟨HD.out, _, bs, k', rfl, ?_⟩
        rw [if_pos h6]
        exact (HM3.out.del 1).del 1
  · have HL := Tre.hid (lexS_none_long h6)
    have H7 := Tre.hid h6
    have h8 : 65536 < s.size := by omega
    clear h6
    go_enter Tryz.func15, Tryz.ntmps15
    go_wp2_with fail
    go_ret2
    refine .inr ⟨HL.out, _, [w.heap.size], 0, rfl, ?_⟩
    rw [if_neg H7.out]
    exact ((Mem.nil w).allocR #[.int .i64 0, .int .i64 3] 48).as_ 0 rfl _ (fun hp => .inl ⟨_, rfl, rfl, hp⟩) (fun b hb => List.mem_singleton.1 hb)
end Go.Proofs.YtcpcheengfgpaaaGreatDoor.lex
namespace Go.Tre
open Go.RowKit
def LexPost (w : World) (s : ByteArray) (D : Option (List Tok)) (e : Ending) (w' : World) : Prop :=
  (∃ ts v, D = some ts ∧ e = .returned (.tuple #[v, .int .i64 0, .int .i64 0]) ∧ Mem w w' [toksR v ts]) ∨
  (D = none ∧ ∃ at_ : Nat, e = .returned (.tuple #[.slice none 0 0, .int .i64 at_, .int .i64 ((if s.size ≤ 65536 then 5 else 3 : Nat) : Int)]) ∧ Below w.heap.size w w')
end Go.Tre
namespace Go.Proofs.YtcpcheengfgpaaaGreatDoor.lex
open Go.RowKit Go.Tre
set_option maxRecDepth 100000 in
set_option maxHeartbeats 8000000 in
theorem Lex (s : ByteArray) (w : World) (hs : s.size ≤ 4194304) (E : LexEnv w) :
    Calls Tryz.prog 7 #[.string s] w (LexPost w s (lexS s.data.toList)) := by
  have HE := Tre.hid E
  obtain ⟨D, hD⟩ : ∃ D, Hid (lexS s.data.toList = D) := ⟨_, rfl⟩
  have HA := Tre.hid (all s w hs E)
  rw [hD.out] at HA ⊢
  clear E
  go_enter Tryz.func7, Tryz.ntmps7
  go_wp2_with fail
  refine HA.out.mono ?_
  intro e w1 hp
  rcases hp with ⟨ts, v, hd, rfl, M⟩ | ⟨hd, v, bs, at_, rfl, M⟩
  · have HM := Tre.hid M
    have HD := Tre.hid hd
    clear M hd
    go_wp2_with fail
    refine (errs.as_nil _ _).mono ?_
    rintro e w' ⟨rfl, rfl⟩
    go_wp2_with fail
    go_ret3
    exact .inl ⟨ts, v, HD.out, rfl, HM.out.alloc _⟩
  · generalize hno : (if s.size ≤ 65536 then 5 else 3) = no at *
    have HM := Tre.hid (M.allocR #[.pointer none] 44)
    have HD := Tre.hid hd
    have HN := Tre.hid hno
    have hbelow := HM.out.below
    have HEI := HM.out.at_ 1 rfl
    have hc := HM.out.cell 0 rfl 0 rfl
    have hf := HM.out.free 0 rfl 0
    obtain ⟨te, ve, rfl⟩ := errIface (M.at_ 0 rfl)
    have HAS := Tre.hid (errs.as_any _ bs at_ no ⟨w1.heap.size, 0, none⟩ _ _ HEI (HE.out.et.below hbelow) hc hf)
    clear M hd hno HEI hc hf hbelow
    go_wp2_with fail
    refine HAS.out.mono ?_
    rintro e w' ⟨rfl, p, w2, hb, hp, rfl⟩
    have hM2 := HM.out.quiet hb
    have M3 := hM2.setCell 0 rfl 0 (.pointer (some ⟨p, 0, none⟩))
    have hw1 : p < (w1.alloc (.cells #[.pointer none] 44)).heap.size := (Array.getElem?_eq_some_iff.1 hp).1
    have hne : p ≠ w1.heap.size := by
      intro e
      have h1 := (heap_alloc_new w1 (.cells #[.pointer none] 44)).symm.trans (e ▸ hp)
      simp at h1
    have hp2 : w2.heap[p]? = some (.cells #[.int .i64 at_, .int .i64 no] 48 (0, 0)) := (hb.block p hw1).trans hp
    have hp3 : (w2.setCell ⟨w1.heap.size, 0, none⟩ (.pointer (some ⟨p, 0, none⟩))).heap[p]? = some (.cells #[.int .i64 at_, .int .i64 no] 48 (0, 0)) := (Below.heap_setCell w2 ⟨w1.heap.size, 0, none⟩ _ p hne).trans hp2
    generalize hg : w2.setCell ⟨w1.heap.size, 0, none⟩ (.pointer (some ⟨p, 0, none⟩)) = w3 at M3 hp3 ⊢
    have q0 : w3.cell? ⟨w1.heap.size, 0, none⟩ = some (.pointer (some ⟨p, 0, none⟩)) := M3.cell 0 rfl 0 rfl
    have q1 : w3.cell? ⟨p, 0, none⟩ = some (.int .i64 at_) := by simp [World.cell?, hp3]
    have q2 : w3.cell? ⟨p, 1, none⟩ = some (.int .i64 no) := by simp [World.cell?, hp3]
    have HM3 := Tre.hid M3.none_
    clear hg hp2 hp3 M3 hM2 hb hp hw1 hne HAS HM
    go_wp2_with fail
    go_region_held3 (fun w' => Below w3.heap.size w3 w' ∧ w'.cell? ⟨w1.heap.size, 0, none⟩ = some (.pointer (some ⟨p, 0, none⟩)) ∧ w'.cell? ⟨p, 0, none⟩ = some (.int .i64 at_) ∧ w'.cell? ⟨p, 1, none⟩ = some (.int .i64 no))
      (first | exact ⟨(Below.refl _ _).drew, q0, q1, q2⟩ | go_keep) (fail)
    have hb := (show Below w3.heap.size w3 w3.drew ∧ _ from by assumption).1
    have HB := Tre.hid hb
    clear hb
    go_wp2_with fail
    go_ret3
    refine .inr ⟨HD.out, at_, ?_, (HM3.out.quiet HB.out).below⟩
    rw [HN.out]
    rfl
end Go.Proofs.YtcpcheengfgpaaaGreatDoor.lex
namespace Go.Tre
def tokEq (a b c : Int) (x : ByteArray) (a' b' c' : Int) (x' : ByteArray) : Bool := decide (a = a') && decide (b = b') && decide (c = c') && decide (x.data.toList = x'.data.toList)
end Go.Tre
namespace Go.Proofs.YtcpcheengfgpaaaGreatDoor.lex
open Go.RowKit Go.Tre
theorem eqTok (a b c a' b' c' : Int) (x x' : ByteArray) (w : World) : (Op.equalIn 10000 34 (.agg (tokV a b c x)) (.agg (tokV a' b' c' x'))).run Tryz.prog w = .ok (tokEq a b c x a' b' c' x') w := by
  rw [show (10000 : Nat) = 9999 + 1 from rfl, Op.equalIn]
  simp only [Sem.run_bind, run_underlying Tryz.underlying34, Result.andThen_ok]
  go_simp
  unfold tokEq
  simp only [ByteArray.toList_eq]
  by_cases h1 : a = a' <;> by_cases h2 : b = b' <;> by_cases h3 : c = c' <;> by_cases h4 : x.data.toList = x'.data.toList <;> simp [h1, h2, h3, h4]
end Go.Proofs.YtcpcheengfgpaaaGreatDoor.lex
namespace Go.Tre
open Go.RowKit Go.Maps
/-- the table that the library's numerals are made by -/
def TabAt (w : World) : Prop := Lib.TabIs Go.Proofs.Tryz.prog w "internal/strconv.uint64pow10" .u64 Lib.pow10Tab
theorem TabAt.below {w w' : World} (h : TabAt w) (hb : Below w.heap.size w w') : TabAt w' := by
  have hg : Go.Proofs.Tryz.prog.globalNamed "internal/strconv.uint64pow10" = some 3 := by kernel_rfl
  unfold TabAt Lib.TabIs World.var? at h ⊢
  rw [hg] at h ⊢
  simp only [Option.bind_some] at h ⊢
  have hlt : 3 < w.heap.size := by
    rcases Nat.lt_or_ge 3 w.heap.size with h' | h'
    · exact h'
    · rw [Array.getElem?_eq_none h'] at h; cases h
  rw [hb.block _ hlt]
  exact h
/-- what the library's numerals leave behind -/
theorem below_grown (w : World) (k : Nat) (os : Array Obj) : Below w.heap.size w (Sort.grow (w.drewN k) os) := by
  have b1 : Below w.heap.size w (w.drewN k) := Go.below_drewN (Below.refl _ _) k
  refine b1.trans ⟨rfl, rfl, rfl, ?_, fun i hi => ?_⟩
  · simp [Sort.grow]
  · have hi' : i < (w.drewN k).heap.size := by have := b1.size; omega
    exact Array.getElem?_append_left hi'
end Go.Tre
namespace Go.Proofs.YtcpcheengfgpaaaGreatDoor.vtext
open Go.RowKit Go.Maps Go.Tre lex rep
open Go.Lib (decDigits itoa)
theorem intText (n : Int) (h0 : -9223372036854775808 ≤ n) (h1 : n ≤ 9223372036854775807) (w : World) (ht : TabAt w) :
    Calls Tryz.prog 6 #[.int .i64 n] w fun e w' => e = .returned (.string ⟨(itoa n).toArray⟩) ∧ Below w.heap.size w w' := by
  go_enter Tryz.func6, Tryz.ntmps6
  go_wp2_with fail
  refine (Tryz.strconv_FormatInt_10 n h0 h1 w ht).mono ?_
  rintro e w' ⟨rfl, k, os, rfl⟩
  go_wp2_with fail
  go_ret
  exact ⟨rfl, below_grown _ _ _⟩
theorem parseOk' (g : ByteArray) (v : Int) (w : World) (hs : g.size ≤ 4194304) (h : Lib.parseIntB 64 g.data.toList = .ok v) :
    Calls Tryz.prog 5 #[.string g, .int .i64 10, .int .i64 64] w fun e w' => e = .returned (.tuple #[.int .i64 v, .nilIface]) ∧ Below w.heap.size w w' := by
  refine (Tryz.strconv_ParseInt_10_at64_ok g (by omega) v h w).mono ?_
  rintro e w' ⟨rfl, rfl | ⟨t, rfl⟩⟩
  · exact ⟨rfl, Below.refl _ _⟩
  · exact ⟨rfl, Lib.bytesWorld_below _ _ _⟩
set_option maxRecDepth 100000 in
set_option maxHeartbeats 8000000 in
theorem walk (n : Int) (s : ByteArray) (w : World) (hs : s.size ≤ 3000) (h0 : -9223372036854775808 ≤ n) (h1 : n ≤ 9223372036854775807) (E : LexEnv w) (ht : TabAt w) :
    Calls Tryz.prog 3 #[.int .i64 n, .string s] w fun e w' => e = .returned (.bool true) ∧ Below w.heap.size w w' := by
  have HE := Tre.hid E
  have HT := Tre.hid ht
  have HLO := Tre.hid h0
  have HHI := Tre.hid h1
  have nb : ¬ (s.size > 3000) := by omega
  clear E ht h0 h1
  go_enter Tryz.func3, Tryz.ntmps3
  go_wp2_with fail
  refine (vb.alive _).mono ?_
  rintro e w1 ⟨rfl, b1⟩
  have HB1 := Tre.hid b1
  clear b1
  go_wp2_with fail
  refine (intText n HLO.out HHI.out w1 (HT.out.below HB1.out)).mono ?_
  rintro e w2 ⟨rfl, b2⟩
  have HB2 : Hid (Below w.heap.size w w2) := HB1.out.trans (b2.mono HB1.out.size)
  have hsz : (⟨(itoa n).toArray⟩ : ByteArray).size ≤ 4194304 := by
    have := Lib.itoa_length_le n HLO.out HHI.out
    rw [show (⟨(itoa n).toArray⟩ : ByteArray).size = (itoa n).length by simp [ByteArray.size]]
    omega
  have HP : Hid (Lib.parseIntB 64 (⟨(itoa n).toArray⟩ : ByteArray).data.toList = .ok n) := by
    show _ = _
    rw [show (⟨(itoa n).toArray⟩ : ByteArray).data.toList = itoa n by simp]
    exact parse_itoa n HLO.out HHI.out
  clear b2 HB1
  generalize (⟨(itoa n).toArray⟩ : ByteArray) = g at *
  go_wp2_with fail
  refine (parseOk' g n w2 hsz HP.out).mono ?_
  rintro e w3 ⟨rfl, b3⟩
  have HB3 : Hid (Below w.heap.size w w3) := HB2.out.trans (b3.mono HB2.out.size)
  clear b3 HB2 HP hsz
  go_wp2_with fail
  refine (textText s w3 (by omega)).mono ?_
  rintro e w4 ⟨x, rfl, hx, hxs, b4⟩
  have HB4 : Hid (Below w.heap.size w w4) := HB3.out.trans (b4.mono HB3.out.size)
  have HL : Hid (lexS x.data.toList = some [⟨4, 0, 0, s.data.toList⟩, ⟨0, (escB s.data.toList).length + 2, 0, []⟩]) := by
    show _ = _
    have e2 : s.data.toList.length = s.size := rfl
    rw [hx.out]; exact lexS_text _ (by omega)
  clear b4 HB3 hx
  go_wp2_with fail
  refine (Lex x w4 (by omega) (HE.out.below HB4.out)).mono ?_
  rw [HL.out]
  intro e w5 hp
  rcases hp with ⟨ts, v5, hd, rfl, M5⟩ | ⟨hd, _⟩
  · cases hd
    obtain ⟨g5, c5, rfl, _, _⟩ := M5.pos 0 rfl
    have HB5 : Hid (Below w.heap.size w w5) := HB4.out.trans (M5.below.mono HB4.out.size)
    have a0 : w5.cell? ⟨g5, 0, none⟩ = some (.int .i64 4) := M5.cellAt 0 rfl 0 rfl
    have a1 : w5.cell? ⟨g5, 1, none⟩ = some (.int .i64 0) := M5.cellAt 0 rfl 1 rfl
    have a2 : w5.cell? ⟨g5, 2, none⟩ = some (.int .i64 0) := M5.cellAt 0 rfl 2 rfl
    have a3 : w5.cell? ⟨g5, 3, none⟩ = some (.string s) := M5.cellAt 0 rfl 3 rfl
    have heq := eqTok
    have hte : tokEq 4 0 0 s 4 0 0 s = true := by simp [tokEq]
    clear M5 HB4 HL
    go_wp2_with fail
    go_ret
    exact ⟨rfl, HB5.out⟩
  · cases hd
set_option maxRecDepth 100000 in
set_option maxHeartbeats 8000000 in
theorem walk_long (n : Int) (s : ByteArray) (w : World) (hs : 3000 < s.size) :
    Calls Tryz.prog 3 #[.int .i64 n, .string s] w fun e w' => e = .returned (.bool true) ∧ Below w.heap.size w w' := by
  go_enter Tryz.func3, Tryz.ntmps3
  go_wp2_with fail
  refine (vb.alive _).mono ?_
  rintro e w1 ⟨rfl, b1⟩
  have HB1 := Tre.hid b1
  clear b1
  go_wp2_with fail
  go_ret
  exact ⟨rfl, HB1.out⟩
theorem law (n : Int) (s : ByteArray) (w : World) (h0 : -9223372036854775808 ≤ n) (h1 : n ≤ 9223372036854775807) (E : LexEnv w) (ht : TabAt w) :
    Calls Tryz.prog 3 #[.int .i64 n, .string s] w fun e w' => e = .returned (.bool true) ∧ Below w.heap.size w w' := by
  by_cases h : 3000 < s.size
  · exact walk_long n s w h
  · exact walk n s w (by omega) h0 h1 E ht
theorem law' (n : Int) (s : ByteArray) (w : World) (hn : (Lit.int .i64 n).wf = true) (E : LexEnv w) (ht : TabAt w) :
    Calls Tryz.prog 3 #[.int .i64 n, .string s] w fun e w' => e = .returned (.bool true) ∧ Below w.heap.size w w' := by
  have h : -9223372036854775808 ≤ n ∧ n ≤ 9223372036854775807 := by
    simp [Lit.wf, IntKind.min, IntKind.max, IntKind.signed, IntKind.bits] at hn
    omega
  exact law n s w h.1 h.2 E ht
end Go.Proofs.YtcpcheengfgpaaaGreatDoor.vtext
namespace Go.Proofs.YtcpcheengfgpaaaGreatDoor.lex
open Go.ChangeShapes Go.WideShapes Go.RowKit Go.Tre
theorem envMax {w : World} (h : w.ShapedOpen Tryz.prog) : MaxAt w :=
  Go.Proofs.cell_of_shapedOpen_int (zero := #[.int .i64 0]) (t := 3) h (of_decide_eq_true (by kernel_rfl)) (by kernel_rfl) rfl (by kernel_rfl) (by kernel_rfl) Tryz.underlying3
def spaceTab : List Int := (List.range 256).map fun c => if spB (UInt8.ofNat c) = true then 1 else 0
theorem spaceData : (Rows.laid_strings_asciiSpace : DataW Unit) = Lib.tabData .u8 spaceTab := by kernel_rfl
theorem envSpace {W : World} {l : List (String × DataW Unit)} (h : laidMetH Tryz.prog l W) (e : l.filter (fun x => x.1 == "strings.asciiSpace") = [("strings.asciiSpace", Rows.laid_strings_asciiSpace)]) : SpaceAt W := by
  have h1 := laidMetH.filter (fun x => x.1 == "strings.asciiSpace") h
  rw [e, spaceData] at h1
  have h2 : Lib.TabIs Tryz.prog W "strings.asciiSpace" .u8 spaceTab :=
    Lib.tabIs_of_head (rest := []) (g := 4) (t := 163) (e := 5) (n := 256) (by kernel_rfl) (by kernel_rfl) Tryz.underlying163 Tryz.underlying5 (by kernel_rfl) (by kernel_rfl) h1
  intro c
  have hc := c.toNat_lt
  have h3 := h2.cell (g := 4) (by kernel_rfl) c.toNat (by unfold spaceTab; simp; omega)
  rw [h3]
  unfold spaceTab
  rw [List.getD_eq_getElem?_getD, List.getElem?_map, List.getElem?_range (by omega)]
  simp
theorem envRange {W : World} {l : List (String × DataW Unit)} (h : laidMetH Tryz.prog l W) (e : l.filter (fun x => x.1 == "strconv.ErrRange") = [("strconv.ErrRange", Rows.laid_strconv_ErrRange)]) : RangeAt W := by
  have h1 := laidMetH.filter (fun x => x.1 == "strconv.ErrRange") h
  rw [e] at h1
  have h2 : laidMet Tryz.prog [("strconv.ErrRange", Rows.laid_strconv_ErrRange)] W := h1
  obtain ⟨ps, ⟨g', t', cs, fuel, p, q, hg', ht', hvar, hd, _, _⟩, _⟩ := h2
  obtain rfl := Option.some.inj ((show Tryz.prog.globalNamed "strconv.ErrRange" = some 2 by kernel_rfl).symm.trans hg')
  obtain rfl := Option.some.inj ((show (Tryz.prog.globals[2]?).map (·.type) = some 24 by kernel_rfl).symm.trans ht')
  obtain ⟨f1, u, v, hcs, _, _⟩ := iface_of_trod Tryz.underlying24 hd
  refine ⟨u, v, ?_⟩
  have h3 := World.var?_cell hg' hvar 0
  have h4 : cs[0]? = some (.iface u v) := by rw [← Array.getElem?_toList, hcs]; rfl
  rw [h3, h4]
theorem errRows : ((List.range Tryz.prog.types.size).filter fun t => Tryz.prog.rowNamed t [101, 114, 114, 111, 114]) = [24] := by kernel_rfl
theorem envErr {W : World} {l : List (String × DataW Unit)} (h : laidMetH Tryz.prog l W) (e : l.filter (fun x => x.1 == "errors.errorType") = [("errors.errorType", Rows.laid_errors_errorType)]) : ErrT W := by
  have h1 := laidMetH.filter (fun x => x.1 == "errors.errorType") h
  rw [e] at h1
  have h' : laidMet Tryz.prog [] W ∧ handlesMet Tryz.prog [("errors.errorType", Rows.laid_errors_errorType)] W := h1
  obtain ⟨name, u, ty, e1, e2, e3, e4, e5⟩ := h'.2 _ (List.mem_singleton.2 rfl)
  have en : name = [101, 114, 114, 111, 114] := (Option.some.inj e1).symm
  subst en
  obtain rfl := Option.some.inj ((show (Tryz.prog.cutTypes.find? (·.1 == "internal/reflectlite.rtype")).map (·.2) = some 123 by kernel_rfl).symm.trans e2)
  have hm : ty ∈ (List.range Tryz.prog.types.size).filter fun t => Tryz.prog.rowNamed t [101, 114, 114, 111, 114] := List.mem_filter.2 ⟨List.mem_range.2 e3, e4⟩
  rw [errRows] at hm
  obtain rfl := List.mem_singleton.1 hm
  have hh : typeHandle Tryz.prog 24 = .pointer (some (rtA 24)) := by kernel_rfl
  rw [hh] at e5
  show W.cell? ⟨0, 0, none⟩ = _
  simpa using World.var?_cell (show Tryz.prog.globalNamed "errors.errorType" = some 0 by kernel_rfl) e5 0
theorem env_of {W : World} {l : List (String × DataW Unit)} (hsh : W.ShapedOpen Tryz.prog) (h : laidMetH Tryz.prog l W) (e1 : l.filter (fun x => x.1 == "strings.asciiSpace") = [("strings.asciiSpace", Rows.laid_strings_asciiSpace)])
    (e2 : l.filter (fun x => x.1 == "strconv.ErrRange") = [("strconv.ErrRange", Rows.laid_strconv_ErrRange)]) (e3 : l.filter (fun x => x.1 == "errors.errorType") = [("errors.errorType", Rows.laid_errors_errorType)]) : LexEnv W :=
  ⟨envMax hsh, envSpace h e1, envRange h e2, envErr h e3⟩
end Go.Proofs.YtcpcheengfgpaaaGreatDoor.lex
namespace Go.Proofs.YtcpcheengfgpaaaGreatDoor.lex
open Go.ChangeShapes Go.WideShapes Go.RowKit Go.Tre
theorem envTab {W : World} {l : List (String × DataW Unit)} (h : laidMetH Tryz.prog l W) (e : l.filter (fun x => x.1 == "internal/strconv.uint64pow10") = [("internal/strconv.uint64pow10", Lib.tabData .u64 Lib.pow10Tab)]) : TabAt W := by
  have h1 := laidMetH.filter (fun x => x.1 == "internal/strconv.uint64pow10") h
  rw [e] at h1
  exact Lib.tabIs_of_head (rest := []) (g := 3) (t := 143) (e := 55) (n := 20) (by kernel_rfl) (by kernel_rfl) Tryz.underlying143 Tryz.underlying55 (by kernel_rfl) (by kernel_rfl) h1
end Go.Proofs.YtcpcheengfgpaaaGreatDoor.lex
