/- lex.Lex: a text's tokens, or the error's number. Plain: names are one token; the lexer's answer at a given text, by reckoning. trefoillaw01: alive, LexNames. trefoillaw01: LexNames. What a row that lists the library's variables tells of the world: what the lexer wants. -/
import Derived.Test.YtejajdebpibocaaGreatDoorB11
import Derived.Test.YtejajdebpibocaaGreatDoorB01
import Derived.Test.YtejajdebpibocaaGreatDoorB10
import Derived.Test.YtejajdebpibocaaGreatDoorRows
import Derived.Lib.LaidTab
import Derived.LaidSub
import Derived.LaidMore
import Derived.LaidHandle
import Derived.LaidLaws
import Derived.WalkKit
set_option linter.unusedVariables false
namespace Go.Tre
open Go.RowKit
def LexPost (w : World) (s : ByteArray) (D : Option (List Tok)) (e : Ending) (w' : World) : Prop :=
  (∃ ts v, D = some ts ∧ e = .returned (.tuple #[v, .int .i64 0, .int .i64 0]) ∧ Mem w w' [toksR v ts]) ∨
  (D = none ∧ ∃ at_ : Nat, e = .returned (.tuple #[.slice none 0 0, .int .i64 at_, .int .i64 ((if s.size ≤ 65536 then 5 else 3 : Nat) : Int)]) ∧ Below w.heap.size w w')
end Go.Tre
namespace Go.Proofs.YtejajdebpibocaaGreatDoor.lex
open Go.RowKit Go.Tre
set_option maxRecDepth 100000 in
set_option maxHeartbeats 8000000 in
theorem Lex (s : ByteArray) (w : World) (hs : s.size ≤ 4194304) (E : LexEnv w) :
    Calls Tryz.prog 7 #[.string s] w (LexPost w s (lexS s.data.toList)) := by
  have HE := Tre.hid E
  obtain ⟨D, hD⟩ : ∃ D, Hid (lexS s.data.toList = D) := ⟨_, rfl⟩
  have HA := Tre.hid (all s w hs E)
  rw [hD.out] at HA ⊢
  clear E
  go_enter Tryz.func7, Tryz.ntmps7
  go_wp2_with fail
  refine HA.out.mono ?_
  intro e w1 hp
  rcases hp with ⟨ts, v, hd, rfl, M⟩ | ⟨hd, v, bs, at_, rfl, M⟩
  · have HM := Tre.hid M
    have HD := Tre.hid hd
    clear M hd
    go_wp2_with fail
    refine (errs.as_nil _ _).mono ?_
    rintro e w' ⟨rfl, rfl⟩
    go_wp2_with fail
    go_ret3
    exact .inl ⟨ts, v, HD.out, rfl, HM.out.alloc _⟩
  · generalize hno : (if s.size ≤ 65536 then 5 else 3) = no at *
    have HM := Tre.hid (M.allocR #[.pointer none] 39)
    have HD := Tre.hid hd
    have HN := Tre.hid hno
    have hbelow := HM.out.below
    have HEI := HM.out.at_ 1 rfl
    have hc := HM.out.cell 0 rfl 0 rfl
    have hf := HM.out.free 0 rfl 0
    obtain ⟨te, ve, rfl⟩ := errIface (M.at_ 0 rfl)
    have HAS := Tre.hid (errs.as_any _ bs at_ no ⟨w1.heap.size, 0, none⟩ _ _ HEI (HE.out.et.below hbelow) hc hf)
    clear M hd hno HEI hc hf hbelow
    go_wp2_with fail
    refine HAS.out.mono ?_
    rintro e w' ⟨rfl, p, w2, hb, hp, rfl⟩
    have hM2 := HM.out.quiet hb
    have M3 := hM2.setCell 0 rfl 0 (.pointer (some ⟨p, 0, none⟩))
    have hw1 : p < (w1.alloc (.cells #[.pointer none] 39)).heap.size := (Array.getElem?_eq_some_iff.1 hp).1
    have hne : p ≠ w1.heap.size := by
      intro e
      have h1 := (heap_alloc_new w1 (.cells #[.pointer none] 39)).symm.trans (e ▸ hp)
      simp at h1
    have hp2 : w2.heap[p]? = some (.cells #[.int .i64 at_, .int .i64 no] 43 (0, 0)) := (hb.block p hw1).trans hp
    have hp3 : (w2.setCell ⟨w1.heap.size, 0, none⟩ (.pointer (some ⟨p, 0, none⟩))).heap[p]? = some (.cells #[.int .i64 at_, .int .i64 no] 43 (0, 0)) := (Below.heap_setCell w2 ⟨w1.heap.size, 0, none⟩ _ p hne).trans hp2
    generalize hg : w2.setCell ⟨w1.heap.size, 0, none⟩ (.pointer (some ⟨p, 0, none⟩)) = w3 at M3 hp3 ⊢
    have q0 : w3.cell? ⟨w1.heap.size, 0, none⟩ = some (.pointer (some ⟨p, 0, none⟩)) := M3.cell 0 rfl 0 rfl
    have q1 : w3.cell? ⟨p, 0, none⟩ = some (.int .i64 at_) := by simp [World.cell?, hp3]
    have q2 : w3.cell? ⟨p, 1, none⟩ = some (.int .i64 no) := by simp [World.cell?, hp3]
    have HM3 := Tre.hid M3.none_
    clear hg hp2 hp3 M3 hM2 hb hp hw1 hne HAS HM
    go_wp2_with fail
    go_region_held3 (fun w' => Below w3.heap.size w3 w' ∧ w'.cell? ⟨w1.heap.size, 0, none⟩ = some (.pointer (some ⟨p, 0, none⟩)) ∧ w'.cell? ⟨p, 0, none⟩ = some (.int .i64 at_) ∧ w'.cell? ⟨p, 1, none⟩ = some (.int .i64 no))
      (first | exact ⟨(Below.refl _ _).drew, q0, q1, q2⟩ | go_keep) (fail)
    have hb := (show Below w3.heap.size w3 w3.drew ∧ _ from by assumption).1
    have HB := Tre.hid hb
    clear hb
    go_wp2_with fail
    go_ret3
    refine .inr ⟨HD.out, at_, ?_, (HM3.out.quiet HB.out).below⟩
    rw [HN.out]
    rfl
end Go.Proofs.YtejajdebpibocaaGreatDoor.lex
namespace Go.Tre
def skipF : Nat → List UInt8 → Option (List UInt8)
  | 0, _ => none
  | k + 1, l => match l.dropWhile blank with
    | 40 :: 42 :: r => match noteEnd r with
      | none => none
      | some r' => skipF k r'
    | r => some r
theorem skipF_eq : ∀ (k : Nat) (l : List UInt8), l.length < k → skipF k l = skipS l
  | 0, _, h => by omega
  | k + 1, l, h => by
    by_cases hn : ∃ r, l.dropWhile blank = 40 :: 42 :: r
    · obtain ⟨r, hr⟩ := hn
      rw [skipS_note' hr, skipF, hr]
      simp only
      cases hne : noteEnd r with
      | none => rfl
      | some r' =>
        have h1 := noteEnd_len hne
        have h2 := (List.dropWhile_sublist (l := l) blank).length_le
        rw [hr] at h2
        simp only [List.length_cons] at h2
        exact skipF_eq k r' (by omega)
    · have hn' : ∀ r, l.dropWhile blank ≠ 40 :: 42 :: r := fun r hr => hn ⟨r, hr⟩
      rw [skipS_rest' hn', skipF]
      split
      · rename_i r hr; exact absurd hr (hn' r)
      · rfl
def allF : Nat → Nat → List UInt8 → Option (List Tok)
  | 0, _, _ => none
  | k + 1, N, l => match skipF (l.length + 1) l with
    | none => none
    | some [] => some [⟨0, N, 0, []⟩]
    | some (c :: r) => match nextS (c :: r) with
      | none => none
      | some (t, n) => (allF k N ((c :: r).drop n)).map fun ts => { t with at_ := N - (c :: r).length } :: ts
theorem allF_eq : ∀ (k N : Nat) (l : List UInt8), l.length < k → allF k N l = allS N l
  | 0, _, _, h => by omega
  | k + 1, N, l, h => by
    rw [allS_eq, allF, skipF_eq _ l (Nat.lt_succ_self _)]
    cases hs : skipS l with
    | none => rfl
    | some r =>
      have hrl := skipS_len hs
      cases r with
      | nil => rfl
      | cons c r =>
        simp only
        cases hn : nextS (c :: r) with
        | none => rfl
        | some q =>
          obtain ⟨t, n⟩ := q
          have hnl := nextS_len hn
          simp only
          rw [allF_eq k N ((c :: r).drop n) (by rw [List.length_drop]; omega)]
/-- by reckoning -/
theorem lexS_of {l : List UInt8} {ts : List Tok} (h : allF (l.length + 1) l.length l = some ts) (hl : l.length ≤ 65536) : lexS l = some ts := by
  unfold lexS
  rw [if_pos hl, ← allF_eq _ _ l (Nat.lt_succ_self _), h]
theorem goes_blank {c : UInt8} {b : Bool} (h : goesB c.toNat b = true) : blank c = false ∧ c ≠ 40 := by
  constructor
  · cases hb : blank c with
    | false => rfl
    | true =>
      exfalso
      simp [blank] at hb
      rcases hb with ((rfl | rfl) | rfl) | rfl <;> (revert h; cases b <;> decide)
  · rintro rfl
    revert h
    cases b <;> decide
theorem skipS_word {c : UInt8} {r : List UInt8} {b : Bool} (h : goesB c.toNat b = true) : skipS (c :: r) = some (c :: r) := by
  obtain ⟨h1, h2⟩ := goes_blank h
  have hd : (c :: r).dropWhile blank = c :: r := by rw [List.dropWhile_cons, if_neg (by rw [h1]; decide)]
  rw [skipS_rest', hd]
  intro t ht
  rw [hd] at ht
  injection ht with ht
  exact h2 ht
theorem skipS_nil : skipS [] = some [] := by rw [skipS_rest' (by intro r h; cases h)]; rfl
theorem name_one {s : ByteArray} (h : isName s = true) : lexS s.data.toList = some [⟨1, 0, 0, s.data.toList⟩, ⟨0, s.size, 0, []⟩] := by
  unfold isName at h
  simp only [Bool.and_eq_true, decide_eq_true_eq, Bool.not_eq_true', ne_eq] at h
  obtain ⟨⟨⟨h0, h1⟩, h2⟩, h3⟩ := h
  have hsz : s.data.toList.length = s.size := rfl
  have hw : wordFrom true s.data.toList = s.data.toList.length := h2
  have hN : s.data.toList.length ≤ 65536 := by omega
  unfold lexS
  rw [if_pos hN]
  have hkey : keyWords.contains s.data.toList = false := h3
  rw [← hsz] at h0 h1
  revert hw hkey h0 h1
  rw [← hsz]
  generalize s.data.toList = l
  intro h0 h1 hw hkey
  cases l with
  | nil => exact absurd rfl h0
  | cons c r =>
    have hg : goesB c.toNat true = true := by
      cases hg : goesB c.toNat true with
      | true => rfl
      | false =>
        unfold wordFrom at hw
        rw [if_neg (by rw [hg]; decide)] at hw
        simp at hw
    have hn : nextS (c :: r) = some (⟨1, 0, 0, c :: r⟩, (c :: r).length) := by
      unfold nextS
      rw [hw, if_pos (by simp), if_neg (by omega), List.take_length, hkey]
      rfl
    rw [allS_eq, skipS_word hg]
    simp only
    rw [hn]
    simp only
    rw [List.drop_length, allS_eq, skipS_nil]
    simp
theorem nextS_name {l : List UInt8} {t : Tok} {n : Nat} (h : nextS l = some (t, n)) (hk : t.kind = 1) : wordFrom true l = n ∧ 0 < n ∧ n ≤ 100 ∧ t.s = l.take n ∧ keyWords.contains (l.take n) = false := by
  unfold nextS at h
  split at h
  · rename_i h0
    split at h
    · cases h
    · rename_i h1
      cases h
      refine ⟨rfl, h0, by omega, rfl, ?_⟩
      cases hc : keyWords.contains (l.take (wordFrom true l)) with
      | false => rfl
      | true => rw [hc] at hk; simp at hk
  · exfalso
    split at h
    · cases h
    · split at h
      · split at h
        · cases h
        · cases h; simp at hk
      · split at h
        · simp only at h
          split at h
          · cases h; simp at hk
          · cases h
        · split at h
          · obtain ⟨p, _, e⟩ := Option.map_eq_some_iff.1 h
            cases e; simp at hk
          · obtain ⟨p, _, e⟩ := Option.map_eq_some_iff.1 h
            cases e; simp at hk
theorem name_only {s : ByteArray} {ts : List Tok} {a : Nat} (h : lexS s.data.toList = some ts) (h0 : ts[0]? = some ⟨1, a, 0, s.data.toList⟩) : isName s = true := by
  unfold lexS at h
  split at h
  · have hsz : s.data.toList.length = s.size := rfl
    rw [allS_eq] at h
    cases hs : skipS s.data.toList with
    | none => rw [hs] at h; cases h
    | some r =>
      rw [hs] at h
      obtain ⟨p, hp, _⟩ := skipS_parts hs
      cases r with
      | nil => cases h; simp at h0
      | cons c r =>
        simp only at h
        cases hn : nextS (c :: r) with
        | none => rw [hn] at h; cases h
        | some q =>
          obtain ⟨t, n⟩ := q
          rw [hn] at h
          obtain ⟨xs, _, rfl⟩ := Option.map_eq_some_iff.1 h
          simp only [List.getElem?_cons_zero, Option.some.injEq] at h0
          have hk : t.kind = 1 := by have := congrArg Tok.kind h0; exact this
          have hts : t.s = s.data.toList := by have := congrArg Tok.s h0; exact this
          obtain ⟨n1, n2, n3, n4, n5⟩ := nextS_name hn hk
          have hnl := nextS_len hn
          have hlen := congrArg List.length (n4.symm.trans hts)
          rw [List.length_take] at hlen
          have hpl := congrArg List.length hp
          rw [List.length_append] at hpl
          have hp0 : p = [] := List.eq_nil_of_length_eq_zero (by omega)
          rw [hp0, List.nil_append] at hp
          have hnn : n = (c :: r).length := by omega
          rw [hnn, List.take_length] at n4 n5
          unfold isName
          have hw : wordLen s = s.size := by
            show wordFrom true s.data.toList = _
            rw [hp, n1, hnn, ← hp]; rfl
          have hkey : isKey s = false := by
            unfold isKey; rw [hp]; exact n5
          rw [hw, hkey, ← hsz, hp]
          simp only [Bool.and_eq_true, decide_eq_true_eq, Bool.not_false, ne_eq, and_true]
          omega
  · cases h
theorem wordFrom_snoc : ∀ (l : List UInt8) (b : Bool), wordFrom b l = l.length → l ≠ [] → wordFrom b (l ++ [120]) = l.length + 1
  | [], _, _, h => absurd rfl h
  | c :: l, b, h, _ => by
    unfold wordFrom at h
    split at h
    · rename_i hg
      rw [List.cons_append, wordFrom, if_pos hg]
      cases l with
      | nil => rfl
      | cons d l =>
        rw [wordFrom_snoc (d :: l) false (by simp only [List.length_cons] at h ⊢; omega) (by simp), List.length_cons]
        simp only [List.length_cons]; omega
    · simp at h
theorem name_more {s sx : ByteArray} (h : isName s = true) (hx : sx.data.toList = s.data.toList ++ [120]) : s.size = 100 ∨ isKey sx = true ∨ isName sx = true := by
  unfold isName at h
  simp only [Bool.and_eq_true, decide_eq_true_eq, Bool.not_eq_true', ne_eq] at h
  obtain ⟨⟨⟨h0, h1⟩, h2⟩, h3⟩ := h
  have hsx : sx.size = s.size + 1 := by
    have := congrArg List.length hx
    rw [List.length_append] at this
    exact this
  by_cases h100 : s.size = 100
  · exact .inl h100
  · right
    cases hk : isKey sx with
    | true => exact .inl rfl
    | false =>
      right
      have hne : s.data.toList ≠ [] := by
        intro e
        have := congrArg List.length e
        exact h0 this
      have hw : wordLen sx = sx.size := by
        show wordFrom true sx.data.toList = _
        rw [hx, wordFrom_snoc _ _ h2 hne, hsx]; rfl
      unfold isName
      rw [hw, hk, hsx]
      simp only [Bool.and_eq_true, decide_eq_true_eq, Bool.not_false, ne_eq, and_true]
      omega
theorem alive1 : lexS [120, 35, 109] = some [⟨1, 0, 0, [120]⟩, ⟨6, 1, 0, [35]⟩, ⟨1, 2, 0, [109]⟩, ⟨0, 3, 0, []⟩] := lexS_of (by decide) (by decide)
theorem alive2 : lexS [34, 97, 92, 110, 98, 34] = some [⟨4, 0, 0, [97, 10, 98]⟩, ⟨0, 6, 0, []⟩] := lexS_of (by decide) (by decide)
end Go.Tre
namespace Go.Tre
def tokEq (a b c : Int) (x : ByteArray) (a' b' c' : Int) (x' : ByteArray) : Bool := decide (a = a') && decide (b = b') && decide (c = c') && decide (x.data.toList = x'.data.toList)
end Go.Tre
namespace Go.Proofs.YtejajdebpibocaaGreatDoor.lex
open Go.RowKit Go.Tre
theorem eqTok (a b c a' b' c' : Int) (x x' : ByteArray) (w : World) : (Op.equalIn 10000 29 (.agg (tokV a b c x)) (.agg (tokV a' b' c' x'))).run Tryz.prog w = .ok (tokEq a b c x a' b' c' x') w := by
  rw [show (10000 : Nat) = 9999 + 1 from rfl, Op.equalIn]
  simp only [Sem.run_bind, run_underlying Tryz.underlying29, Result.andThen_ok]
  go_simp
  unfold tokEq
  simp only [ByteArray.toList_eq]
  by_cases h1 : a = a' <;> by_cases h2 : b = b' <;> by_cases h3 : c = c' <;> by_cases h4 : x.data.toList = x'.data.toList <;> simp [h1, h2, h3, h4]
set_option maxRecDepth 100000 in
set_option maxHeartbeats 8000000 in
theorem alive (w : World) (E : LexEnv w) :
    Calls Tryz.prog 6 #[] w fun e w' => e = .returned (.bool true) ∧ Below w.heap.size w w' := by
  have HE := Tre.hid E
  have A1 : Hid (lexS (⟨#[120, 35, 109]⟩ : ByteArray).data.toList = some [⟨1, 0, 0, [120]⟩, ⟨6, 1, 0, [35]⟩, ⟨1, 2, 0, [109]⟩, ⟨0, 3, 0, []⟩]) := alive1
  have A2 : Hid (lexS (⟨#[34, 97, 92, 110, 98, 34]⟩ : ByteArray).data.toList = some [⟨4, 0, 0, [97, 10, 98]⟩, ⟨0, 6, 0, []⟩]) := alive2
  clear E
  go_enter Tryz.func6, Tryz.ntmps6
  go_wp2_with fail
  refine (Lex ⟨#[120, 35, 109]⟩ w (by decide) HE.out).mono ?_
  rw [A1.out]
  intro e w1 hp
  rcases hp with ⟨ts, v1, hd, rfl, M1⟩ | ⟨hd, _⟩
  · cases hd
    obtain ⟨g1, c1, rfl, _, _⟩ := M1.pos 0 rfl
    have HM1 := Tre.hid M1
    clear M1
    go_wp2_with fail
    refine (Lex ⟨#[34, 97, 92, 110, 98, 34]⟩ w1 (by decide) (HE.out.below HM1.out.below)).mono ?_
    rw [A2.out]
    intro e w2 hp
    rcases hp with ⟨ts, v2, hd, rfl, M2⟩ | ⟨hd, _⟩
    · cases hd
      obtain ⟨g2, c2, rfl, _, _⟩ := M2.pos 0 rfl
      have HM2 := Tre.hid (HM1.out.call M2)
      have a0 : w2.cell? ⟨g1, 3, none⟩ = some (.string ⟨#[120]⟩) := HM2.out.cellAt 1 rfl 3 rfl
      have a1 : w2.cell? ⟨g1, 7, none⟩ = some (.string ⟨#[35]⟩) := HM2.out.cellAt 1 rfl 7 rfl
      have a2 : w2.cell? ⟨g1, 9, none⟩ = some (.int .i64 2) := HM2.out.cellAt 1 rfl 9 rfl
      have a3 : w2.cell? ⟨g2, 3, none⟩ = some (.string ⟨#[97, 10, 98]⟩) := HM2.out.cellAt 0 rfl 3 rfl
      clear M2 HM1
      go_wp2_with fail
      go_ret
      exact ⟨rfl, HM2.out.below⟩
    · cases hd
  · cases hd
end Go.Proofs.YtejajdebpibocaaGreatDoor.lex
namespace Go.Proofs.YtejajdebpibocaaGreatDoor.lex
open Go.RowKit Go.Tre
theorem name_nokey {s : ByteArray} (h : isName s = true) : isKey s = false := by
  unfold isName at h
  simp only [Bool.and_eq_true, Bool.not_eq_true'] at h
  exact h.2
set_option maxRecDepth 100000 in
set_option maxHeartbeats 8000000 in
theorem lexNames_name (s : ByteArray) (w : World) (hs : s.size ≤ 300) (E : LexEnv w) (hn : isName s = true) :
    Calls Tryz.prog 4 #[.string s] w fun e w' => e = .returned (.bool true) ∧ Below w.heap.size w w' := by
  have HE := Tre.hid E
  have HN := Tre.hid hn
  have HL := Tre.hid (name_one hn)
  have HK := Tre.hid (name_nokey hn)
  clear E hn
  go_enter Tryz.func4, Tryz.ntmps4
  go_wp2_with fail
  refine (alive w HE.out).mono ?_
  rintro e w1 ⟨rfl, b1⟩
  have HB1 := Tre.hid b1
  clear b1
  go_wp2_with fail
  refine (Lex s w1 (by omega) (HE.out.below HB1.out)).mono ?_
  rw [HL.out]
  intro e w2 hp
  rcases hp with ⟨ts, v2, hd, rfl, M2⟩ | ⟨hd, _⟩
  · cases hd
    obtain ⟨g2, c2, rfl, _, _⟩ := M2.pos 0 rfl
    have HM2 := Tre.hid M2
    have a0 : w2.cell? ⟨g2, 0, none⟩ = some (.int .i64 1) := M2.cellAt 0 rfl 0 rfl
    have a1 : w2.cell? ⟨g2, 1, none⟩ = some (.int .i64 0) := M2.cellAt 0 rfl 1 rfl
    have a2 : w2.cell? ⟨g2, 2, none⟩ = some (.int .i64 0) := M2.cellAt 0 rfl 2 rfl
    have a3 : w2.cell? ⟨g2, 3, none⟩ = some (.string s) := (M2.cellAt 0 rfl 3 rfl).trans (by simp)
    clear M2
    by_cases h100 : s.size = 100
    · have e1 : ((s.size : Int) == 100) = true := by rw [h100]; rfl
      clear h100
      go_wp2_with fail
      refine (isName_any s w2 (by omega) ((HE.out.max.below HB1.out).below HM2.out.below)).mono ?_
      rintro e w' ⟨rfl, rfl⟩
      rw [HN.out]
      go_wp2_with fail
      refine (isName_any s w2 (by omega) ((HE.out.max.below HB1.out).below HM2.out.below)).mono ?_
      rintro e w' ⟨rfl, rfl⟩
      rw [HN.out]
      go_wp2_with fail
      refine (isKey_any s w2 (by omega) ((HE.out.max.below HB1.out).below HM2.out.below)).mono ?_
      rintro e w' ⟨rfl, rfl⟩
      rw [HK.out]
      go_wp2_with fail
      refine (isName_any s w2 (by omega) ((HE.out.max.below HB1.out).below HM2.out.below)).mono ?_
      rintro e w' ⟨rfl, rfl⟩
      rw [HN.out]
      go_wp2_with fail
      go_ret
      exact ⟨rfl, HB1.out.trans (HM2.out.below.mono HB1.out.size)⟩
    · have e1 : ((s.size : Int) == 100) = false := by rw [beq_eq_false_iff_ne]; omega
      have HMO : Hid (isKey (s ++ ⟨#[120]⟩) = true ∨ isName (s ++ ⟨#[120]⟩) = true) := (name_more HN.out (by simp [ByteArray.data_append])).resolve_left h100
      have hsx : Hid ((s ++ ⟨#[120]⟩ : ByteArray).size = s.size + 1) := by show _ = _; rw [ByteArray.size_append]; rfl
      clear h100
      cases hk : isKey (s ++ ⟨#[120]⟩)
      · have HKX := Tre.hid hk
        have HNX := Tre.hid (HMO.out.resolve_left (by rw [hk]; decide))
        clear hk
        go_wp2_with fail
        refine (isName_any s w2 (by omega) ((HE.out.max.below HB1.out).below HM2.out.below)).mono ?_
        rintro e w' ⟨rfl, rfl⟩
        rw [HN.out]
        go_wp2_with fail
        refine (isName_any s w2 (by omega) ((HE.out.max.below HB1.out).below HM2.out.below)).mono ?_
        rintro e w' ⟨rfl, rfl⟩
        rw [HN.out]
        go_wp2_with fail
        refine (isKey_any s w2 (by omega) ((HE.out.max.below HB1.out).below HM2.out.below)).mono ?_
        rintro e w' ⟨rfl, rfl⟩
        rw [HK.out]
        go_wp2_with fail
        refine (isName_any s w2 (by omega) ((HE.out.max.below HB1.out).below HM2.out.below)).mono ?_
        rintro e w' ⟨rfl, rfl⟩
        rw [HN.out]
        have hcat : ¬ (9223372036854775807 < s.size + 1) := by omega
        go_wp2_with fail
        have HSX : ∃ sx, Hid (s ++ ⟨#[120]⟩ = sx) := ⟨_, rfl⟩
        obtain ⟨sx, HSX⟩ := HSX
        have HSX2 := HSX
        generalize hq : s ++ ⟨#[120]⟩ = s2 at HKX HNX HMO hsx HSX ⊢
        obtain rfl : s2 = sx := HSX.out
        clear hq HSX
        refine (isKey_any s2 w2 (by have := hsx.out; omega) ((HE.out.max.below HB1.out).below HM2.out.below)).mono ?_
        rintro e w' ⟨rfl, rfl⟩
        rw [HKX.out]
        go_wp2_with fail
        generalize hq : s ++ ⟨#[120]⟩ = s3 at HSX2 ⊢
        obtain rfl : s3 = s2 := HSX2.out
        clear hq HSX2
        refine (isName_any s3 w2 (by have := hsx.out; omega) ((HE.out.max.below HB1.out).below HM2.out.below)).mono ?_
        rintro e w' ⟨rfl, rfl⟩
        rw [HNX.out]
        go_wp2_with fail
        go_ret
        exact ⟨rfl, HB1.out.trans (HM2.out.below.mono HB1.out.size)⟩
      · have HKX := Tre.hid hk
        clear hk
        go_wp2_with fail
        refine (isName_any s w2 (by omega) ((HE.out.max.below HB1.out).below HM2.out.below)).mono ?_
        rintro e w' ⟨rfl, rfl⟩
        rw [HN.out]
        go_wp2_with fail
        refine (isName_any s w2 (by omega) ((HE.out.max.below HB1.out).below HM2.out.below)).mono ?_
        rintro e w' ⟨rfl, rfl⟩
        rw [HN.out]
        go_wp2_with fail
        refine (isKey_any s w2 (by omega) ((HE.out.max.below HB1.out).below HM2.out.below)).mono ?_
        rintro e w' ⟨rfl, rfl⟩
        rw [HK.out]
        go_wp2_with fail
        refine (isName_any s w2 (by omega) ((HE.out.max.below HB1.out).below HM2.out.below)).mono ?_
        rintro e w' ⟨rfl, rfl⟩
        rw [HN.out]
        have hcat : ¬ (9223372036854775807 < s.size + 1) := by omega
        go_wp2_with fail
        have HSX : ∃ sx, Hid (s ++ ⟨#[120]⟩ = sx) := ⟨_, rfl⟩
        obtain ⟨sx, HSX⟩ := HSX
        have HSX2 := HSX
        generalize hq : s ++ ⟨#[120]⟩ = s2 at HKX HMO hsx HSX ⊢
        obtain rfl : s2 = sx := HSX.out
        clear hq HSX
        refine (isKey_any s2 w2 (by have := hsx.out; omega) ((HE.out.max.below HB1.out).below HM2.out.below)).mono ?_
        rintro e w' ⟨rfl, rfl⟩
        rw [HKX.out]
        go_wp2_with fail
        go_ret
        exact ⟨rfl, HB1.out.trans (HM2.out.below.mono HB1.out.size)⟩
  · cases hd
set_option maxRecDepth 100000 in
set_option maxHeartbeats 8000000 in
theorem lexNames_no (s : ByteArray) (w : World) (hs : s.size ≤ 300) (E : LexEnv w) (hn : isName s = false) :
    Calls Tryz.prog 4 #[.string s] w fun e w' => e = .returned (.bool true) ∧ Below w.heap.size w w' := by
  have HE := Tre.hid E
  have HN := Tre.hid hn
  obtain ⟨D, HD⟩ : ∃ D, Hid (lexS s.data.toList = D) := ⟨_, rfl⟩
  have h6 : s.size ≤ 65536 := by omega
  have heq := eqTok
  clear E hn
  go_enter Tryz.func4, Tryz.ntmps4
  go_wp2_with fail
  refine (alive w HE.out).mono ?_
  rintro e w1 ⟨rfl, b1⟩
  have HB1 := Tre.hid b1
  clear b1
  go_wp2_with fail
  refine (Lex s w1 (by omega) (HE.out.below HB1.out)).mono ?_
  rw [HD.out]
  intro e w2 hp
  rcases hp with ⟨ts, v2, hd, rfl, M2⟩ | ⟨hd, at_, rfl, b2⟩
  · by_cases h2 : ts.length = 2
    · obtain ⟨t, t', rfl⟩ : ∃ t t', ts = [t, t'] := by
        match ts, h2 with
        | [t, t'], _ => exact ⟨t, t', rfl⟩
      obtain ⟨g2, c2, rfl, _, _⟩ := M2.pos 0 rfl
      have HM2 := Tre.hid M2.none_
      have a0 : w2.cell? ⟨g2, 0, none⟩ = some (.int .i64 t.kind) := M2.cellAt 0 rfl 0 rfl
      have a1 : w2.cell? ⟨g2, 1, none⟩ = some (.int .i64 t.at_) := M2.cellAt 0 rfl 1 rfl
      have a2 : w2.cell? ⟨g2, 2, none⟩ = some (.int .i64 t.n) := M2.cellAt 0 rfl 2 rfl
      have a3 : w2.cell? ⟨g2, 3, none⟩ = some (.string ⟨t.s.toArray⟩) := M2.cellAt 0 rfl 3 rfl
      have hne : tokEq t.kind t.at_ t.n ⟨t.s.toArray⟩ 1 0 0 s = false := by
        cases hte : tokEq t.kind t.at_ t.n ⟨t.s.toArray⟩ 1 0 0 s with
        | false => rfl
        | true =>
          exfalso
          unfold tokEq at hte
          simp only [Bool.and_eq_true, decide_eq_true_eq] at hte
          obtain ⟨⟨⟨k1, k2⟩, k3⟩, k4⟩ := hte
          have ht : t = ⟨1, t.at_, 0, s.data.toList⟩ := by
            cases t
            simp only at k1 k2 k3 k4
            simp only [Tok.mk.injEq, true_and]
            refine ⟨by omega, k3, ?_⟩
            rw [← k4]
          have := name_only (a := t.at_) (HD.out.trans hd) (by rw [← ht]; rfl)
          rw [HN.out] at this
          cases this
      clear M2 h2 hd
      go_wp2_with fail
      refine (isName_any s w2 (by omega) ((HE.out.max.below HB1.out).below HM2.out.below)).mono ?_
      rintro e w' ⟨rfl, rfl⟩
      rw [HN.out]
      go_wp2_with fail
      refine (isName_any s w2 (by omega) ((HE.out.max.below HB1.out).below HM2.out.below)).mono ?_
      rintro e w' ⟨rfl, rfl⟩
      rw [HN.out]
      go_wp2_with fail
      refine (isName_any s w2 (by omega) ((HE.out.max.below HB1.out).below HM2.out.below)).mono ?_
      rintro e w' ⟨rfl, rfl⟩
      rw [HN.out]
      go_wp2_with fail
      go_ret
      exact ⟨rfl, HB1.out.trans (HM2.out.below.mono HB1.out.size)⟩
    · obtain ⟨a2, c2, rfl, _⟩ := M2.val 0 rfl
      have HM2 := Tre.hid M2.none_
      have e2 : ((ts.length : Int) == 2) = false := by rw [beq_eq_false_iff_ne]; omega
      clear M2 h2 hd
      go_wp2_with fail
      refine (isName_any s w2 (by omega) ((HE.out.max.below HB1.out).below HM2.out.below)).mono ?_
      rintro e w' ⟨rfl, rfl⟩
      rw [HN.out]
      go_wp2_with fail
      refine (isName_any s w2 (by omega) ((HE.out.max.below HB1.out).below HM2.out.below)).mono ?_
      rintro e w' ⟨rfl, rfl⟩
      rw [HN.out]
      go_wp2_with fail
      refine (isName_any s w2 (by omega) ((HE.out.max.below HB1.out).below HM2.out.below)).mono ?_
      rintro e w' ⟨rfl, rfl⟩
      rw [HN.out]
      go_wp2_with fail
      go_ret
      exact ⟨rfl, HB1.out.trans (HM2.out.below.mono HB1.out.size)⟩
  · rw [if_pos h6]
    have HM2 := Tre.hid (Mem.of_below b2)
    clear b2 hd
    go_wp2_with fail
    refine (isName_any s w2 (by omega) ((HE.out.max.below HB1.out).below HM2.out.below)).mono ?_
    rintro e w' ⟨rfl, rfl⟩
    rw [HN.out]
    go_wp2_with fail
    refine (isName_any s w2 (by omega) ((HE.out.max.below HB1.out).below HM2.out.below)).mono ?_
    rintro e w' ⟨rfl, rfl⟩
    rw [HN.out]
    go_wp2_with fail
    refine (isName_any s w2 (by omega) ((HE.out.max.below HB1.out).below HM2.out.below)).mono ?_
    rintro e w' ⟨rfl, rfl⟩
    rw [HN.out]
    go_wp2_with fail
    go_ret
    exact ⟨rfl, HB1.out.trans (HM2.out.below.mono HB1.out.size)⟩
set_option maxRecDepth 100000 in
set_option maxHeartbeats 8000000 in
theorem lexNames_long (s : ByteArray) (w : World) (hs : s.size ≤ 4194304) (E : LexEnv w) (hn : 300 < s.size) :
    Calls Tryz.prog 4 #[.string s] w fun e w' => e = .returned (.bool true) ∧ Below w.heap.size w w' := by
  have HE := Tre.hid E
  clear E
  go_enter Tryz.func4, Tryz.ntmps4
  go_wp2_with fail
  refine (alive w HE.out).mono ?_
  rintro e w1 ⟨rfl, b1⟩
  have HB1 := Tre.hid b1
  clear b1
  go_wp2_with fail
  go_ret
  exact ⟨rfl, HB1.out⟩
theorem lexNames (s : ByteArray) (w : World) (hs : s.size ≤ 4194304) (E : LexEnv w) :
    Calls Tryz.prog 4 #[.string s] w fun e w' => e = .returned (.bool true) ∧ Below w.heap.size w w' := by
  by_cases h : 300 < s.size
  · exact lexNames_long s w hs E h
  · cases hn : isName s
    · exact lexNames_no s w (by omega) E hn
    · exact lexNames_name s w (by omega) E hn
end Go.Proofs.YtejajdebpibocaaGreatDoor.lex
namespace Go.Proofs.YtejajdebpibocaaGreatDoor.lex
open Go.ChangeShapes Go.WideShapes Go.RowKit Go.Tre
theorem envMax {w : World} (h : w.ShapedOpen Tryz.prog) : MaxAt w :=
  Go.Proofs.cell_of_shapedOpen_int (zero := #[.int .i64 0]) (t := 3) h (of_decide_eq_true (by kernel_rfl)) (by kernel_rfl) rfl (by kernel_rfl) (by kernel_rfl) Tryz.underlying3
def spaceTab : List Int := (List.range 256).map fun c => if spB (UInt8.ofNat c) = true then 1 else 0
theorem spaceData : (Rows.laid_strings_asciiSpace : DataW Unit) = Lib.tabData .u8 spaceTab := by kernel_rfl
theorem envSpace {W : World} {l : List (String × DataW Unit)} (h : laidMetH Tryz.prog l W) (e : l.filter (fun x => x.1 == "strings.asciiSpace") = [("strings.asciiSpace", Rows.laid_strings_asciiSpace)]) : SpaceAt W := by
  have h1 := laidMetH.filter (fun x => x.1 == "strings.asciiSpace") h
  rw [e, spaceData] at h1
  have h2 : Lib.TabIs Tryz.prog W "strings.asciiSpace" .u8 spaceTab :=
    Lib.tabIs_of_head (rest := []) (g := 1) (t := 138) (e := 5) (n := 256) (by kernel_rfl) (by kernel_rfl) Tryz.underlying138 Tryz.underlying5 (by kernel_rfl) (by kernel_rfl) h1
  intro c
  have hc := c.toNat_lt
  have h3 := h2.cell (g := 1) (by kernel_rfl) c.toNat (by unfold spaceTab; simp; omega)
  rw [h3]
  unfold spaceTab
  rw [List.getD_eq_getElem?_getD, List.getElem?_map, List.getElem?_range (by omega)]
  simp
theorem envRange {W : World} {l : List (String × DataW Unit)} (h : laidMetH Tryz.prog l W) (e : l.filter (fun x => x.1 == "strconv.ErrRange") = [("strconv.ErrRange", Rows.laid_strconv_ErrRange)]) : RangeAt W := by
  have h1 := laidMetH.filter (fun x => x.1 == "strconv.ErrRange") h
  rw [e] at h1
  have h2 : laidMet Tryz.prog [("strconv.ErrRange", Rows.laid_strconv_ErrRange)] W := h1
  obtain ⟨ps, ⟨g', t', cs, fuel, p, q, hg', ht', hvar, hd, _, _⟩, _⟩ := h2
  obtain rfl := Option.some.inj ((show Tryz.prog.globalNamed "strconv.ErrRange" = some 6 by kernel_rfl).symm.trans hg')
  obtain rfl := Option.some.inj ((show (Tryz.prog.globals[6]?).map (·.type) = some 36 by kernel_rfl).symm.trans ht')
  obtain ⟨f1, u, v, hcs, _, _⟩ := iface_of_trod Tryz.underlying36 hd
  refine ⟨u, v, ?_⟩
  have h3 := World.var?_cell hg' hvar 0
  have h4 : cs[0]? = some (.iface u v) := by rw [← Array.getElem?_toList, hcs]; rfl
  rw [h3, h4]
theorem errRows : ((List.range Tryz.prog.types.size).filter fun t => Tryz.prog.rowNamed t [101, 114, 114, 111, 114]) = [36] := by kernel_rfl
theorem envErr {W : World} {l : List (String × DataW Unit)} (h : laidMetH Tryz.prog l W) (e : l.filter (fun x => x.1 == "errors.errorType") = [("errors.errorType", Rows.laid_errors_errorType)]) : ErrT W := by
  have h1 := laidMetH.filter (fun x => x.1 == "errors.errorType") h
  rw [e] at h1
  have h' : laidMet Tryz.prog [] W ∧ handlesMet Tryz.prog [("errors.errorType", Rows.laid_errors_errorType)] W := h1
  obtain ⟨name, u, ty, e1, e2, e3, e4, e5⟩ := h'.2 _ (List.mem_singleton.2 rfl)
  have en : name = [101, 114, 114, 111, 114] := (Option.some.inj e1).symm
  subst en
  obtain rfl := Option.some.inj ((show (Tryz.prog.cutTypes.find? (·.1 == "internal/reflectlite.rtype")).map (·.2) = some 100 by kernel_rfl).symm.trans e2)
  have hm : ty ∈ (List.range Tryz.prog.types.size).filter fun t => Tryz.prog.rowNamed t [101, 114, 114, 111, 114] := List.mem_filter.2 ⟨List.mem_range.2 e3, e4⟩
  rw [errRows] at hm
  obtain rfl := List.mem_singleton.1 hm
  have hh : typeHandle Tryz.prog 36 = .pointer (some (rtA 36)) := by kernel_rfl
  rw [hh] at e5
  show W.cell? ⟨0, 0, none⟩ = _
  simpa using World.var?_cell (show Tryz.prog.globalNamed "errors.errorType" = some 0 by kernel_rfl) e5 0
theorem env_of {W : World} {l : List (String × DataW Unit)} (hsh : W.ShapedOpen Tryz.prog) (h : laidMetH Tryz.prog l W) (e1 : l.filter (fun x => x.1 == "strings.asciiSpace") = [("strings.asciiSpace", Rows.laid_strings_asciiSpace)])
    (e2 : l.filter (fun x => x.1 == "strconv.ErrRange") = [("strconv.ErrRange", Rows.laid_strconv_ErrRange)]) (e3 : l.filter (fun x => x.1 == "errors.errorType") = [("errors.errorType", Rows.laid_errors_errorType)]) : LexEnv W :=
  ⟨envMax hsh, envSpace h e1, envRange h e2, envErr h e3⟩
end Go.Proofs.YtejajdebpibocaaGreatDoor.lex
