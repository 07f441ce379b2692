/- lex.Lex: a text's tokens, or the error's number. Tokens compared. Plain: names are one token; the lexer's answer at a given text, by reckoning. Plain: a number's text is one token, a minus ahead another one. The table that numerals are made by. trefoillaw18: ValuePairs. -/
import Derived.Test.YtnhcgobpkigeoaaGreatDoorRRB11
import Derived.Test.YtnhcgobpkigeoaaGreatDoorRRB02
import Derived.Lib.ItoaNum
import Derived.Lib.ItoaLen
import Derived.Test.YtnhcgobpkigeoaaGreatDoorRRB00
import Derived.Lib.ItoaMem
import Derived.WalkKit
set_option linter.unusedVariables false
namespace Go.Tre
open Go.RowKit
def LexPost (w : World) (s : ByteArray) (D : Option (List Tok)) (e : Ending) (w' : World) : Prop :=
  (∃ ts v, D = some ts ∧ e = .returned (.tuple #[v, .int .i64 0, .int .i64 0]) ∧ Mem w w' [toksR v ts]) ∨
  (D = none ∧ ∃ at_ : Nat, e = .returned (.tuple #[.slice none 0 0, .int .i64 at_, .int .i64 ((if s.size ≤ 65536 then 5 else 3 : Nat) : Int)]) ∧ Below w.heap.size w w')
end Go.Tre
namespace Go.Proofs.YtnhcgobpkigeoaaGreatDoorRR.lex
open Go.RowKit Go.Tre
set_option maxRecDepth 100000 in
set_option maxHeartbeats 8000000 in
theorem Lex (s : ByteArray) (w : World) (hs : s.size ≤ 4194304) (E : LexEnv w) :
    Calls Tryz.prog 6 #[.string s] w (LexPost w s (lexS s.data.toList)) := by
  have HE := Tre.hid E
  obtain ⟨D, hD⟩ : ∃ D, Hid (lexS s.data.toList = D) := ⟨_, rfl⟩
  have HA := Tre.hid (all s w hs E)
  rw [hD.out] at HA ⊢
  clear E
  go_enter Tryz.func6, Tryz.ntmps6
  go_wp2_with fail
  refine HA.out.mono ?_
  intro e w1 hp
  rcases hp with ⟨ts, v, hd, rfl, M⟩ | ⟨hd, v, bs, at_, rfl, M⟩
  · have HM := Tre.hid M
    have HD := Tre.hid hd
    clear M hd
    go_wp2_with fail
    refine (errs.as_nil _ _).mono ?_
    rintro e w' ⟨rfl, rfl⟩
    go_wp2_with fail
    go_ret3
    exact .inl ⟨ts, v, HD.out, rfl, HM.out.alloc _⟩
  · generalize hno : (if s.size ≤ 65536 then 5 else 3) = no at *
    have HM := Tre.hid (M.allocR #[.pointer none] 41)
    have HD := Tre.hid hd
    have HN := Tre.hid hno
    have hbelow := HM.out.below
    have HEI := HM.out.at_ 1 rfl
    have hc := HM.out.cell 0 rfl 0 rfl
    have hf := HM.out.free 0 rfl 0
    obtain ⟨te, ve, rfl⟩ := errIface (M.at_ 0 rfl)
    have HAS := Tre.hid (errs.as_any _ bs at_ no ⟨w1.heap.size, 0, none⟩ _ _ HEI (HE.out.et.below hbelow) hc hf)
    clear M hd hno HEI hc hf hbelow
    go_wp2_with fail
    refine HAS.out.mono ?_
    rintro e w' ⟨rfl, p, w2, hb, hp, rfl⟩
    have hM2 := HM.out.quiet hb
    have M3 := hM2.setCell 0 rfl 0 (.pointer (some ⟨p, 0, none⟩))
    have hw1 : p < (w1.alloc (.cells #[.pointer none] 41)).heap.size := (Array.getElem?_eq_some_iff.1 hp).1
    have hne : p ≠ w1.heap.size := by
      intro e
      have h1 := (heap_alloc_new w1 (.cells #[.pointer none] 41)).symm.trans (e ▸ hp)
      simp at h1
    have hp2 : w2.heap[p]? = some (.cells #[.int .i64 at_, .int .i64 no] 45 (0, 0)) := (hb.block p hw1).trans hp
    have hp3 : (w2.setCell ⟨w1.heap.size, 0, none⟩ (.pointer (some ⟨p, 0, none⟩))).heap[p]? = some (.cells #[.int .i64 at_, .int .i64 no] 45 (0, 0)) := (Below.heap_setCell w2 ⟨w1.heap.size, 0, none⟩ _ p hne).trans hp2
    generalize hg : w2.setCell ⟨w1.heap.size, 0, none⟩ (.pointer (some ⟨p, 0, none⟩)) = w3 at M3 hp3 ⊢
    have q0 : w3.cell? ⟨w1.heap.size, 0, none⟩ = some (.pointer (some ⟨p, 0, none⟩)) := M3.cell 0 rfl 0 rfl
    have q1 : w3.cell? ⟨p, 0, none⟩ = some (.int .i64 at_) := by simp [World.cell?, hp3]
    have q2 : w3.cell? ⟨p, 1, none⟩ = some (.int .i64 no) := by simp [World.cell?, hp3]
    have HM3 := Tre.hid M3.none_
    clear hg hp2 hp3 M3 hM2 hb hp hw1 hne HAS HM
    go_wp2_with fail
    go_region_held3 (fun w' => Below w3.heap.size w3 w' ∧ w'.cell? ⟨w1.heap.size, 0, none⟩ = some (.pointer (some ⟨p, 0, none⟩)) ∧ w'.cell? ⟨p, 0, none⟩ = some (.int .i64 at_) ∧ w'.cell? ⟨p, 1, none⟩ = some (.int .i64 no))
      (first | exact ⟨(Below.refl _ _).drew, q0, q1, q2⟩ | go_keep) (fail)
    have hb := (show Below w3.heap.size w3 w3.drew ∧ _ from by assumption).1
    have HB := Tre.hid hb
    clear hb
    go_wp2_with fail
    go_ret3
    refine .inr ⟨HD.out, at_, ?_, (HM3.out.quiet HB.out).below⟩
    rw [HN.out]
    rfl
end Go.Proofs.YtnhcgobpkigeoaaGreatDoorRR.lex
namespace Go.Tre
def tokEq (a b c : Int) (x : ByteArray) (a' b' c' : Int) (x' : ByteArray) : Bool := decide (a = a') && decide (b = b') && decide (c = c') && decide (x.data.toList = x'.data.toList)
end Go.Tre
namespace Go.Proofs.YtnhcgobpkigeoaaGreatDoorRR.lex
open Go.RowKit Go.Tre
theorem eqTok (a b c a' b' c' : Int) (x x' : ByteArray) (w : World) : (Op.equalIn 10000 32 (.agg (tokV a b c x)) (.agg (tokV a' b' c' x'))).run Tryz.prog w = .ok (tokEq a b c x a' b' c' x') w := by
  rw [show (10000 : Nat) = 9999 + 1 from rfl, Op.equalIn]
  simp only [Sem.run_bind, run_underlying Tryz.underlying32, Result.andThen_ok]
  go_simp
  unfold tokEq
  simp only [ByteArray.toList_eq]
  by_cases h1 : a = a' <;> by_cases h2 : b = b' <;> by_cases h3 : c = c' <;> by_cases h4 : x.data.toList = x'.data.toList <;> simp [h1, h2, h3, h4]
end Go.Proofs.YtnhcgobpkigeoaaGreatDoorRR.lex
namespace Go.Tre
def skipF : Nat → List UInt8 → Option (List UInt8)
  | 0, _ => none
  | k + 1, l => match l.dropWhile blank with
    | 40 :: 42 :: r => match noteEnd r with
      | none => none
      | some r' => skipF k r'
    | r => some r
theorem skipF_eq : ∀ (k : Nat) (l : List UInt8), l.length < k → skipF k l = skipS l
  | 0, _, h => by omega
  | k + 1, l, h => by
    by_cases hn : ∃ r, l.dropWhile blank = 40 :: 42 :: r
    · obtain ⟨r, hr⟩ := hn
      rw [skipS_note' hr, skipF, hr]
      simp only
      cases hne : noteEnd r with
      | none => rfl
      | some r' =>
        have h1 := noteEnd_len hne
        have h2 := (List.dropWhile_sublist (l := l) blank).length_le
        rw [hr] at h2
        simp only [List.length_cons] at h2
        exact skipF_eq k r' (by omega)
    · have hn' : ∀ r, l.dropWhile blank ≠ 40 :: 42 :: r := fun r hr => hn ⟨r, hr⟩
      rw [skipS_rest' hn', skipF]
      split
      · rename_i r hr; exact absurd hr (hn' r)
      · rfl
def allF : Nat → Nat → List UInt8 → Option (List Tok)
  | 0, _, _ => none
  | k + 1, N, l => match skipF (l.length + 1) l with
    | none => none
    | some [] => some [⟨0, N, 0, []⟩]
    | some (c :: r) => match nextS (c :: r) with
      | none => none
      | some (t, n) => (allF k N ((c :: r).drop n)).map fun ts => { t with at_ := N - (c :: r).length } :: ts
theorem allF_eq : ∀ (k N : Nat) (l : List UInt8), l.length < k → allF k N l = allS N l
  | 0, _, _, h => by omega
  | k + 1, N, l, h => by
    rw [allS_eq, allF, skipF_eq _ l (Nat.lt_succ_self _)]
    cases hs : skipS l with
    | none => rfl
    | some r =>
      have hrl := skipS_len hs
      cases r with
      | nil => rfl
      | cons c r =>
        simp only
        cases hn : nextS (c :: r) with
        | none => rfl
        | some q =>
          obtain ⟨t, n⟩ := q
          have hnl := nextS_len hn
          simp only
          rw [allF_eq k N ((c :: r).drop n) (by rw [List.length_drop]; omega)]
/-- by reckoning -/
theorem lexS_of {l : List UInt8} {ts : List Tok} (h : allF (l.length + 1) l.length l = some ts) (hl : l.length ≤ 65536) : lexS l = some ts := by
  unfold lexS
  rw [if_pos hl, ← allF_eq _ _ l (Nat.lt_succ_self _), h]
theorem goes_blank {c : UInt8} {b : Bool} (h : goesB c.toNat b = true) : blank c = false ∧ c ≠ 40 := by
  constructor
  · cases hb : blank c with
    | false => rfl
    | true =>
      exfalso
      simp [blank] at hb
      rcases hb with ((rfl | rfl) | rfl) | rfl <;> (revert h; cases b <;> decide)
  · rintro rfl
    revert h
    cases b <;> decide
theorem skipS_word {c : UInt8} {r : List UInt8} {b : Bool} (h : goesB c.toNat b = true) : skipS (c :: r) = some (c :: r) := by
  obtain ⟨h1, h2⟩ := goes_blank h
  have hd : (c :: r).dropWhile blank = c :: r := by rw [List.dropWhile_cons, if_neg (by rw [h1]; decide)]
  rw [skipS_rest', hd]
  intro t ht
  rw [hd] at ht
  injection ht with ht
  exact h2 ht
theorem skipS_nil : skipS [] = some [] := by rw [skipS_rest' (by intro r h; cases h)]; rfl
theorem name_one {s : ByteArray} (h : isName s = true) : lexS s.data.toList = some [⟨1, 0, 0, s.data.toList⟩, ⟨0, s.size, 0, []⟩] := by
  unfold isName at h
  simp only [Bool.and_eq_true, decide_eq_true_eq, Bool.not_eq_true', ne_eq] at h
  obtain ⟨⟨⟨h0, h1⟩, h2⟩, h3⟩ := h
  have hsz : s.data.toList.length = s.size := rfl
  have hw : wordFrom true s.data.toList = s.data.toList.length := h2
  have hN : s.data.toList.length ≤ 65536 := by omega
  unfold lexS
  rw [if_pos hN]
  have hkey : keyWords.contains s.data.toList = false := h3
  rw [← hsz] at h0 h1
  revert hw hkey h0 h1
  rw [← hsz]
  generalize s.data.toList = l
  intro h0 h1 hw hkey
  cases l with
  | nil => exact absurd rfl h0
  | cons c r =>
    have hg : goesB c.toNat true = true := by
      cases hg : goesB c.toNat true with
      | true => rfl
      | false =>
        unfold wordFrom at hw
        rw [if_neg (by rw [hg]; decide)] at hw
        simp at hw
    have hn : nextS (c :: r) = some (⟨1, 0, 0, c :: r⟩, (c :: r).length) := by
      unfold nextS
      rw [hw, if_pos (by simp), if_neg (by omega), List.take_length, hkey]
      rfl
    rw [allS_eq, skipS_word hg]
    simp only
    rw [hn]
    simp only
    rw [List.drop_length, allS_eq, skipS_nil]
    simp
theorem nextS_name {l : List UInt8} {t : Tok} {n : Nat} (h : nextS l = some (t, n)) (hk : t.kind = 1) : wordFrom true l = n ∧ 0 < n ∧ n ≤ 100 ∧ t.s = l.take n ∧ keyWords.contains (l.take n) = false := by
  unfold nextS at h
  split at h
  · rename_i h0
    split at h
    · cases h
    · rename_i h1
      cases h
      refine ⟨rfl, h0, by omega, rfl, ?_⟩
      cases hc : keyWords.contains (l.take (wordFrom true l)) with
      | false => rfl
      | true => rw [hc] at hk; simp at hk
  · exfalso
    split at h
    · cases h
    · split at h
      · split at h
        · cases h
        · cases h; simp at hk
      · split at h
        · simp only at h
          split at h
          · cases h; simp at hk
          · cases h
        · split at h
          · obtain ⟨p, _, e⟩ := Option.map_eq_some_iff.1 h
            cases e; simp at hk
          · obtain ⟨p, _, e⟩ := Option.map_eq_some_iff.1 h
            cases e; simp at hk
theorem name_only {s : ByteArray} {ts : List Tok} {a : Nat} (h : lexS s.data.toList = some ts) (h0 : ts[0]? = some ⟨1, a, 0, s.data.toList⟩) : isName s = true := by
  unfold lexS at h
  split at h
  · have hsz : s.data.toList.length = s.size := rfl
    rw [allS_eq] at h
    cases hs : skipS s.data.toList with
    | none => rw [hs] at h; cases h
    | some r =>
      rw [hs] at h
      obtain ⟨p, hp, _⟩ := skipS_parts hs
      cases r with
      | nil => cases h; simp at h0
      | cons c r =>
        simp only at h
        cases hn : nextS (c :: r) with
        | none => rw [hn] at h; cases h
        | some q =>
          obtain ⟨t, n⟩ := q
          rw [hn] at h
          obtain ⟨xs, _, rfl⟩ := Option.map_eq_some_iff.1 h
          simp only [List.getElem?_cons_zero, Option.some.injEq] at h0
          have hk : t.kind = 1 := by have := congrArg Tok.kind h0; exact this
          have hts : t.s = s.data.toList := by have := congrArg Tok.s h0; exact this
          obtain ⟨n1, n2, n3, n4, n5⟩ := nextS_name hn hk
          have hnl := nextS_len hn
          have hlen := congrArg List.length (n4.symm.trans hts)
          rw [List.length_take] at hlen
          have hpl := congrArg List.length hp
          rw [List.length_append] at hpl
          have hp0 : p = [] := List.eq_nil_of_length_eq_zero (by omega)
          rw [hp0, List.nil_append] at hp
          have hnn : n = (c :: r).length := by omega
          rw [hnn, List.take_length] at n4 n5
          unfold isName
          have hw : wordLen s = s.size := by
            show wordFrom true s.data.toList = _
            rw [hp, n1, hnn, ← hp]; rfl
          have hkey : isKey s = false := by
            unfold isKey; rw [hp]; exact n5
          rw [hw, hkey, ← hsz, hp]
          simp only [Bool.and_eq_true, decide_eq_true_eq, Bool.not_false, ne_eq, and_true]
          omega
  · cases h
theorem wordFrom_snoc : ∀ (l : List UInt8) (b : Bool), wordFrom b l = l.length → l ≠ [] → wordFrom b (l ++ [120]) = l.length + 1
  | [], _, _, h => absurd rfl h
  | c :: l, b, h, _ => by
    unfold wordFrom at h
    split at h
    · rename_i hg
      rw [List.cons_append, wordFrom, if_pos hg]
      cases l with
      | nil => rfl
      | cons d l =>
        rw [wordFrom_snoc (d :: l) false (by simp only [List.length_cons] at h ⊢; omega) (by simp), List.length_cons]
        simp only [List.length_cons]; omega
    · simp at h
theorem name_more {s sx : ByteArray} (h : isName s = true) (hx : sx.data.toList = s.data.toList ++ [120]) : s.size = 100 ∨ isKey sx = true ∨ isName sx = true := by
  unfold isName at h
  simp only [Bool.and_eq_true, decide_eq_true_eq, Bool.not_eq_true', ne_eq] at h
  obtain ⟨⟨⟨h0, h1⟩, h2⟩, h3⟩ := h
  have hsx : sx.size = s.size + 1 := by
    have := congrArg List.length hx
    rw [List.length_append] at this
    exact this
  by_cases h100 : s.size = 100
  · exact .inl h100
  · right
    cases hk : isKey sx with
    | true => exact .inl rfl
    | false =>
      right
      have hne : s.data.toList ≠ [] := by
        intro e
        have := congrArg List.length e
        exact h0 this
      have hw : wordLen sx = sx.size := by
        show wordFrom true sx.data.toList = _
        rw [hx, wordFrom_snoc _ _ h2 hne, hsx]; rfl
      unfold isName
      rw [hw, hk, hsx]
      simp only [Bool.and_eq_true, decide_eq_true_eq, Bool.not_false, ne_eq, and_true]
      omega
theorem alive1 : lexS [120, 35, 109] = some [⟨1, 0, 0, [120]⟩, ⟨6, 1, 0, [35]⟩, ⟨1, 2, 0, [109]⟩, ⟨0, 3, 0, []⟩] := lexS_of (by decide) (by decide)
theorem alive2 : lexS [34, 97, 92, 110, 98, 34] = some [⟨4, 0, 0, [97, 10, 98]⟩, ⟨0, 6, 0, []⟩] := lexS_of (by decide) (by decide)
end Go.Tre
namespace Go.Tre
open Go.Lib (decDigits itoa)
theorem decDigits_dig : ∀ (u : Nat), ∀ c ∈ decDigits u, isDig c = true := by
  intro u
  induction u using Nat.strongRecOn with
  | _ u ih =>
    intro c hc
    have key : ∀ k, k < 10 → isDig (UInt8.ofNat (48 + k)) = true := by decide
    rw [decDigits] at hc
    split at hc
    · rename_i h
      rw [List.mem_singleton.1 hc]
      exact key u h
    · rename_i h
      rcases List.mem_append.1 hc with hc | hc
      · exact ih (u / 10) (by omega) c hc
      · rw [List.mem_singleton.1 hc]
        exact key (u % 10) (by omega)
theorem decDigits_val (u : Nat) : digitsVal (decDigits u) = u := by
  induction u using Nat.strongRecOn with
  | _ u ih =>
    have key : ∀ k, k < 10 → (UInt8.ofNat (48 + k)).toNat - 48 = k := by decide
    rw [decDigits]
    split
    · rename_i h
      unfold digitsVal
      rw [List.foldl_cons, List.foldl_nil, key u h]; omega
    · rename_i h
      have h1 := ih (u / 10) (by omega)
      unfold digitsVal at h1 ⊢
      rw [List.foldl_append, h1, List.foldl_cons, List.foldl_nil, key (u % 10) (by omega)]
      omega
theorem decDigits_ne (u : Nat) : decDigits u ≠ [] := by
  rw [decDigits]
  split
  · simp
  · simp
theorem isDig_facts {c : UInt8} (h : isDig c = true) : blank c = false ∧ c ≠ 40 ∧ c ≠ 39 ∧ c ≠ 62 ∧ goesB c.toNat true = false := by
  unfold isDig at h
  simp only [Bool.and_eq_true, decide_eq_true_eq] at h
  refine ⟨?_, ?_, ?_, ?_, ?_⟩
  · cases hb : blank c with
    | false => rfl
    | true =>
      exfalso
      simp [blank] at hb
      rcases hb with ((rfl | rfl) | rfl) | rfl <;> (revert h; decide)
  · rintro rfl; revert h; decide
  · rintro rfl; revert h; decide
  · rintro rfl; revert h; decide
  · unfold goesB
    rw [if_pos (.inl ⟨by omega, by omega⟩)]; rfl
theorem takeWhile_all {p : UInt8 → Bool} : ∀ {l : List UInt8}, (∀ c ∈ l, p c = true) → l.takeWhile p = l
  | [], _ => rfl
  | c :: l, h => by rw [List.takeWhile_cons, if_pos (h c (by simp)), takeWhile_all (fun d hd => h d (by simp [hd]))]
theorem skipS_plain {c : UInt8} {r : List UInt8} (h1 : blank c = false) (h2 : c ≠ 40) : skipS (c :: r) = some (c :: r) := by
  have hd : (c :: r).dropWhile blank = c :: r := by rw [List.dropWhile_cons, if_neg (by rw [h1]; decide)]
  rw [skipS_rest', hd]
  intro t ht
  rw [hd] at ht
  injection ht with ht
  exact h2 ht
theorem nextS_dec (u : Nat) : nextS (decDigits u) = if u ≤ 9223372036854775807 then some (⟨3, 0, u, []⟩, (decDigits u).length) else none := by
  have hd := decDigits_dig u
  have hv := decDigits_val u
  have hn := decDigits_ne u
  revert hd hv hn
  generalize decDigits u = l
  intro hd hv hn
  cases l with
  | nil => exact absurd rfl hn
  | cons c r =>
    obtain ⟨f1, f2, f3, f4, f5⟩ := isDig_facts (hd c (by simp))
    have hw : wordFrom true (c :: r) = 0 := by
      unfold wordFrom
      rw [if_neg (by rw [f5]; decide)]
    unfold nextS
    rw [hw, if_neg (by omega)]
    simp only
    rw [if_neg f3, if_pos (hd c (by simp)), takeWhile_all hd, hv]
theorem allS_dec (u N : Nat) (h : u ≤ 9223372036854775807) : allS N (decDigits u) = some [⟨3, N - (decDigits u).length, u, []⟩, ⟨0, N, 0, []⟩] := by
  have hn := nextS_dec u
  rw [if_pos h] at hn
  have hd := decDigits_dig u
  have hne := decDigits_ne u
  revert hn hd hne
  generalize decDigits u = l
  intro hn hd hne
  cases l with
  | nil => exact absurd rfl hne
  | cons c r =>
    obtain ⟨f1, f2, f3, f4, f5⟩ := isDig_facts (hd c (by simp))
    rw [allS_eq, skipS_plain f1 f2]
    simp only
    rw [hn]
    simp only
    rw [List.drop_length, allS_eq, skipS_nil]
    simp
theorem allS_dec_no (u N : Nat) (h : ¬ u ≤ 9223372036854775807) : allS N (decDigits u) = none := by
  have hn := nextS_dec u
  rw [if_neg h] at hn
  have hd := decDigits_dig u
  have hne := decDigits_ne u
  revert hn hd hne
  generalize decDigits u = l
  intro hn hd hne
  cases l with
  | nil => exact absurd rfl hne
  | cons c r =>
    obtain ⟨f1, f2, f3, f4, f5⟩ := isDig_facts (hd c (by simp))
    rw [allS_eq, skipS_plain f1 f2]
    simp only
    rw [hn]
theorem allS_minus (u N : Nat) : allS N (45 :: decDigits u) = (allS N (decDigits u)).map fun ts => ⟨6, N - ((decDigits u).length + 1), 0, [45]⟩ :: ts := by
  have hd := decDigits_dig u
  have hne := decDigits_ne u
  revert hd hne
  generalize decDigits u = l
  intro hd hne
  cases l with
  | nil => exact absurd rfl hne
  | cons c r =>
    obtain ⟨f1, f2, f3, f4, f5⟩ := isDig_facts (hd c (by simp))
    have hn : nextS (45 :: c :: r) = some (⟨6, 0, 0, [45]⟩, 1) := by
      unfold nextS
      rw [if_neg (by unfold wordFrom; rw [if_neg (by decide)]; omega)]
      simp only
      rw [if_neg (by decide), if_neg (by decide), if_neg (by decide)]
      have : (symbolsS.find? fun x => x.isPrefixOf (45 :: c :: r)) = some [45] := by
        have h62 : ((62 : UInt8) == c) = false := by rw [beq_eq_false_iff_ne]; exact fun e => f4 e.symm
        simp [symbolsS, List.isPrefixOf, h62]
      rw [this]; rfl
    rw [allS_eq, skipS_plain (by decide) (by decide)]
    simp only
    rw [hn]
    rfl
theorem dec_len (u : Nat) (h : u ≤ 9223372036854775808) : (decDigits u).length ≤ 30 := by
  rw [Lib.decDigits_length]
  have := Lib.nDigits_le20 u (by omega)
  omega
/-- a number's text -/
theorem lex_nonneg (u : Nat) (h : u ≤ 9223372036854775807) : lexS (decDigits u) = some [⟨3, 0, u, []⟩, ⟨0, (decDigits u).length, 0, []⟩] := by
  unfold lexS
  rw [if_pos (by have := dec_len u (by omega); omega), allS_dec u _ h, Nat.sub_self]
theorem lex_neg (u : Nat) (h : u ≤ 9223372036854775807) : ∃ t1 t2 t3, lexS (45 :: decDigits u) = some [t1, t2, t3] ∧ t1.s = [45] := by
  refine ⟨⟨6, 0, 0, [45]⟩, ⟨3, 1, u, []⟩, ⟨0, (decDigits u).length + 1, 0, []⟩, ?_, rfl⟩
  unfold lexS
  rw [if_pos (by have := dec_len u (by omega); rw [List.length_cons]; omega), allS_minus, allS_dec u _ h, List.length_cons, Nat.add_sub_cancel_left, Nat.sub_self]
  rfl
theorem lex_least : lexS (45 :: decDigits 9223372036854775808) = none := by
  unfold lexS
  rw [allS_minus, allS_dec_no _ _ (by omega)]
  split <;> rfl
theorem alive_true : lexS [116, 114, 117, 101] = some [⟨2, 0, 0, [116, 114, 117, 101]⟩, ⟨0, 4, 0, []⟩] := lexS_of (by decide) (by decide)
theorem alive_false : lexS [102, 97, 108, 115, 101] = some [⟨2, 0, 0, [102, 97, 108, 115, 101]⟩, ⟨0, 5, 0, []⟩] := lexS_of (by decide) (by decide)
end Go.Tre
namespace Go.Tre
open Go.RowKit Go.Maps
/-- the table that the library's numerals are made by -/
def TabAt (w : World) : Prop := Lib.TabIs Go.Proofs.Tryz.prog w "internal/strconv.uint64pow10" .u64 Lib.pow10Tab
theorem TabAt.below {w w' : World} (h : TabAt w) (hb : Below w.heap.size w w') : TabAt w' := by
  have hg : Go.Proofs.Tryz.prog.globalNamed "internal/strconv.uint64pow10" = some 2 := by kernel_rfl
  unfold TabAt Lib.TabIs World.var? at h ⊢
  rw [hg] at h ⊢
  simp only [Option.bind_some] at h ⊢
  have hlt : 2 < w.heap.size := by
    rcases Nat.lt_or_ge 2 w.heap.size with h' | h'
    · exact h'
    · rw [Array.getElem?_eq_none h'] at h; cases h
  rw [hb.block _ hlt]
  exact h
/-- what the library's numerals leave behind -/
theorem below_grown (w : World) (k : Nat) (os : Array Obj) : Below w.heap.size w (Sort.grow (w.drewN k) os) := by
  have b1 : Below w.heap.size w (w.drewN k) := below_drewN (Below.refl _ _) k
  refine b1.trans ⟨rfl, rfl, rfl, ?_, fun i hi => ?_⟩
  · simp [Sort.grow]
  · have hi' : i < (w.drewN k).heap.size := by have := b1.size; omega
    exact Array.getElem?_append_left hi'
end Go.Tre
namespace Go.Proofs.YtnhcgobpkigeoaaGreatDoorRR.vpair
open Go.RowKit Go.Maps Go.Tre lex
open Go.Lib (decDigits itoa)
theorem boolText (x : Bool) (w : World) : Calls Tryz.prog 7 #[.bool x] w fun e w' => e = .returned (.string (if x then ⟨#[116, 114, 117, 101]⟩ else ⟨#[102, 97, 108, 115, 101]⟩)) ∧ w = w' := by
  cases x
  all_goals
    go_enter Tryz.func7, Tryz.ntmps7
    go_wp2
    go_ret
    exact ⟨rfl, rfl⟩
theorem intText (n : Int) (h0 : -9223372036854775808 ≤ n) (h1 : n ≤ 9223372036854775807) (w : World) (ht : TabAt w) :
    Calls Tryz.prog 8 #[.int .i64 n] w fun e w' => e = .returned (.string ⟨(itoa n).toArray⟩) ∧ Below w.heap.size w w' := by
  go_enter Tryz.func8, Tryz.ntmps8
  go_wp2_with fail
  refine (Tryz.strconv_FormatInt_10 n h0 h1 w ht).mono ?_
  rintro e w' ⟨rfl, k, os, rfl⟩
  go_wp2_with fail
  go_ret
  exact ⟨rfl, below_grown _ _ _⟩
set_option maxHeartbeats 1000000 in
theorem pairText (a b p : ByteArray) (w : World) (ha : a.size ≤ 8388608) (hb : b.size ≤ 8388608) (hp : ⟨#[40]⟩ ++ a ++ ⟨#[44, 32]⟩ ++ b ++ ⟨#[41]⟩ = p) :
    Calls Tryz.prog 5 #[.string a, .string b] w fun e w' => e = .returned (.string p) ∧ w = w' := by
  have HP := Tre.hid hp
  have s1 : ((⟨#[40]⟩ : ByteArray) ++ a).size = 1 + a.size := by rw [ByteArray.size_append]; rfl
  have s2 : ((⟨#[40]⟩ : ByteArray) ++ a ++ ⟨#[44, 32]⟩).size = 3 + a.size := by rw [ByteArray.size_append, s1]; show 1 + a.size + 2 = _; omega
  have s3 : ((⟨#[40]⟩ : ByteArray) ++ a ++ ⟨#[44, 32]⟩ ++ b).size = 3 + a.size + b.size := by rw [ByteArray.size_append, s2]
  clear hp
  have x1 : ¬ (9223372036854775807 < 1 + a.size) := by omega
  have x2 : ¬ (9223372036854775807 < 1 + a.size + 2) := by omega
  have x3 : ¬ (9223372036854775807 < 1 + a.size + 2 + b.size) := by omega
  have x4 : ¬ (9223372036854775807 < 1 + a.size + 2 + b.size + 1) := by omega
  have x5 : ¬ (9223372036854775807 < 3 + a.size) := by omega
  have x6 : ¬ (9223372036854775807 < 3 + a.size + b.size) := by omega
  have x7 : ¬ (9223372036854775807 < 3 + a.size + b.size + 1) := by omega
  go_enter Tryz.func5, Tryz.ntmps5
  go_wp2_with fail
  rw [HP.out]
  go_ret
  exact ⟨rfl, rfl⟩
/-- a pair's text: its first byte, its last one, what stands between -/
theorem pair_list {a b p : ByteArray} (hp : ⟨#[40]⟩ ++ a ++ ⟨#[44, 32]⟩ ++ b ++ ⟨#[41]⟩ = p) : p.data.toList = 40 :: (a.data.toList ++ 44 :: 32 :: (b.data.toList ++ [41])) := by
  subst hp
  simp [ByteArray.data_append]
theorem pair_size {a b p : ByteArray} (hp : ⟨#[40]⟩ ++ a ++ ⟨#[44, 32]⟩ ++ b ++ ⟨#[41]⟩ = p) : p.size = a.size + b.size + 4 := by
  have h := congrArg List.length (pair_list hp)
  simp only [List.length_cons, List.length_append, List.length_nil] at h
  have e1 : p.data.toList.length = p.size := rfl
  have e2 : a.data.toList.length = a.size := rfl
  have e3 : b.data.toList.length = b.size := rfl
  omega
theorem pair_first {a b p : ByteArray} (hp : ⟨#[40]⟩ ++ a ++ ⟨#[44, 32]⟩ ++ b ++ ⟨#[41]⟩ = p) (h : 0 < p.size) : ((p[0]'h).toNat : Int) = 40 := by
  have e : p.data.toList[0]? = some (p[0]'h) := by rw [Array.getElem?_toList]; exact Array.getElem?_eq_getElem h
  rw [pair_list hp] at e
  simp at e
  rw [← e]; rfl
theorem pair_last {a b p : ByteArray} (hp : ⟨#[40]⟩ ++ a ++ ⟨#[44, 32]⟩ ++ b ++ ⟨#[41]⟩ = p) (h : a.size + b.size + 3 < p.size) : ((p[a.size + b.size + 3]'h).toNat : Int) = 41 := by
  have e : p.data.toList[a.size + b.size + 3]? = some (p[a.size + b.size + 3]'h) := by rw [Array.getElem?_toList]; exact Array.getElem?_eq_getElem h
  have e2 : a.data.toList.length = a.size := rfl
  have e3 : b.data.toList.length = b.size := rfl
  generalize p[a.size + b.size + 3] = v at e ⊢
  rw [pair_list hp, show a.size + b.size + 3 = (a.size + (b.size + 2)) + 1 by omega, List.getElem?_cons_succ, List.getElem?_append_right (by omega), e2, Nat.add_sub_cancel_left, List.getElem?_cons_succ, List.getElem?_cons_succ, List.getElem?_append_right (by omega), e3, Nat.sub_self] at e
  simp at e
  rw [← e]; rfl
theorem pair_cut {a b p : ByteArray} (hp : ⟨#[40]⟩ ++ a ++ ⟨#[44, 32]⟩ ++ b ++ ⟨#[41]⟩ = p) : p.extract 1 (1 + a.size) = a := by
  apply data_inj'
  have e2 : a.data.toList.length = a.size := rfl
  rw [ByteArray.data_extract, Array.toList_extract, List.extract_eq_take_drop, pair_list hp, List.drop_succ_cons, List.drop_zero, Nat.add_sub_cancel_left, List.take_append_of_le_length (by omega), List.take_of_length_le (by omega)]
set_option maxRecDepth 100000 in
set_option maxHeartbeats 8000000 in
theorem walk (a b : ByteArray) (n : Int) (x : Bool) (w : World) (ha : a.size ≤ 1000) (hb : b.size ≤ 1000) (h0 : -9223372036854775808 ≤ n) (h1 : n ≤ 9223372036854775807) (E : LexEnv w) (ht : TabAt w) :
    Calls Tryz.prog 3 #[.agg #[.string a, .string b, .int .i64 n, .bool x]] w fun e w' => e = .returned (.bool true) ∧ Below w.heap.size w w' := by
  have HE := Tre.hid E
  have HT := Tre.hid ht
  obtain ⟨p, hp⟩ : ∃ p, ⟨#[40]⟩ ++ a ++ ⟨#[44, 32]⟩ ++ b ++ ⟨#[41]⟩ = p := ⟨_, rfl⟩
  have HP := Tre.hid hp
  clear E ht hp
  have M := (Mem.nil w).allocR #[.string a, .string b, .int .i64 n, .bool x] 23
  have HM := Tre.hid M
  clear M
  go_enter Tryz.func3, Tryz.ntmps3
  go_wp2_with fail
  refine (vb.alive _).mono ?_
  rintro e w1 ⟨rfl, b1⟩
  have M1 := HM.out.quiet b1
  have q0 : w1.cell? ⟨w.heap.size, 0, none⟩ = some (.string a) := M1.cell 0 rfl 0 rfl
  have q1 : w1.cell? ⟨w.heap.size, 1, none⟩ = some (.string b) := M1.cell 0 rfl 1 rfl
  have q2 : w1.cell? ⟨w.heap.size, 2, none⟩ = some (.int .i64 n) := M1.cell 0 rfl 2 rfl
  have q3 : w1.cell? ⟨w.heap.size, 3, none⟩ = some (.bool x) := M1.cell 0 rfl 3 rfl
  have HM1 := Tre.hid M1
  clear M1 HM b1
  have nb : ¬ (b.size > 1000) := by omega
  go_wp2_with fail
  go_region
  have HM2 := Tre.hid HM1.out.drew
  clear HM1 q0 q1 q2 q3
  generalize hw2 : w1.drew = w2 at HM2 ⊢
  clear hw2
  go_wp2_with fail
  refine (pairText a b p _ (by omega) (by omega) HP.out).mono ?_
  rintro e w' ⟨rfl, rfl⟩
  go_wp2_with fail
  refine (boolText x _).mono ?_
  rintro e w' ⟨rfl, rfl⟩
  obtain ⟨bt, hbt⟩ : ∃ bt : ByteArray, (if x then ⟨#[116, 114, 117, 101]⟩ else ⟨#[102, 97, 108, 115, 101]⟩ : ByteArray) = bt := ⟨_, rfl⟩
  rw [hbt]
  have HL : Hid (lexS bt.data.toList = some [⟨2, 0, 0, bt.data.toList⟩, ⟨0, bt.size, 0, []⟩]) := by
    subst hbt
    cases x
    · exact alive_false
    · exact alive_true
  have hbs : bt.size ≤ 10 := by subst hbt; cases x <;> decide
  have HBT := Tre.hid hbt
  clear hbt
  go_wp2_with fail
  refine (Lex bt w2 (by omega) (HE.out.below HM2.out.below)).mono ?_
  rw [HL.out]
  intro e w3 hq
  rcases hq with ⟨ts, v3, hd, rfl, M3⟩ | ⟨hd, _⟩
  · cases hd
    obtain ⟨g3, c3, rfl, _, _⟩ := M3.pos 0 rfl
    have HM3 := Tre.hid (HM2.out.call M3)
    have a0 : w3.cell? ⟨g3, 0, none⟩ = some (.int .i64 2) := M3.cellAt 0 rfl 0 rfl
    have a3 : w3.cell? ⟨g3, 3, none⟩ = some (.string bt) := (M3.cellAt 0 rfl 3 rfl).trans (by simp)
    clear M3 HM2
    have x0 : (p.extract 1 (1 + a.size)).toList = a.toList := by rw [pair_cut HP.out]
    have x1 : (!(bt.toList == [116, 114, 117, 101]) == x) = false := by
      rw [← HBT.out]
      cases x <;> simp [ByteArray.toList_eq]
    have x2 : ((p.size : Int)) = a.size + b.size + 4 := by have := pair_size HP.out; omega
    go_wp2_with fail
    · refine (intText n h0 h1 w3 (HT.out.below HM3.out.below)).mono ?_
      rintro e w4 ⟨rfl, b4⟩
      have HM4 := Tre.hid (HM3.out.quiet b4)
      clear HM3 b4 a0 a3 x0 x1
      have HMX := Tre.hid HM4.out.none_
      clear HM4
      have l1 : (⟨(itoa n).toArray⟩ : ByteArray).data.toList = itoa n := by simp
      have hsz : Hid ((⟨(itoa n).toArray⟩ : ByteArray).size ≤ 65536) := by
        show _ ≤ _
        have := Lib.itoa_length_le n h0 h1
        rw [show (⟨(itoa n).toArray⟩ : ByteArray).size = (itoa n).length by simp [ByteArray.size]]
        omega
      by_cases hneg : n < 0
      · obtain ⟨u, hu⟩ : ∃ u : Nat, n = -(u : Int) := ⟨n.natAbs, by omega⟩
        have l2 : itoa n = 45 :: decDigits u := by rw [hu, Lib.itoa_neg u (by omega)]
        by_cases hmin : n = -9223372036854775808
        · have HD : Hid (lexS (⟨(itoa n).toArray⟩ : ByteArray).data.toList = none) := by
            show _ = _
            rw [l1, l2, show u = 9223372036854775808 by omega]
            exact lex_least
          have e1 : (n == -9223372036854775808) = true := by rw [hmin]; rfl
          have hs5 : (if (⟨(itoa n).toArray⟩ : ByteArray).size ≤ 65536 then 5 else 3 : Nat) = 5 := if_pos hsz.out
          clear l1 l2 hu
          generalize (⟨(itoa n).toArray⟩ : ByteArray) = s at HD hsz hs5 ⊢
          go_wp2_with fail
          refine (Lex s w4 (by have := hsz.out; omega) (HE.out.below HMX.out.below)).mono ?_
          rw [HD.out]
          intro e w5 hq
          rcases hq with ⟨ts, v5, hd, _⟩ | ⟨_, a5, rfl, b5⟩
          · cases hd
          · rw [hs5]
            go_wp2_with fail
            go_ret
            exact ⟨rfl, (HMX.out.quiet b5).below⟩
        · obtain ⟨t1, t2, t3, hl, ht1⟩ := lex_neg u (by omega)
          have HD : Hid (lexS (⟨(itoa n).toArray⟩ : ByteArray).data.toList = some [t1, t2, t3]) := by
            show _ = _
            rw [l1, l2, hl]
          have e1 : (n == -9223372036854775808) = false := by rw [beq_eq_false_iff_ne]; exact hmin
          clear l1 l2 hu hl
          generalize (⟨(itoa n).toArray⟩ : ByteArray) = s at HD hsz ⊢
          go_wp2_with fail
          refine (Lex s w4 (by have := hsz.out; omega) (HE.out.below HMX.out.below)).mono ?_
          rw [HD.out]
          intro e w5 hq
          rcases hq with ⟨ts, v5, hd, rfl, M5⟩ | ⟨hd, _⟩
          · cases hd
            obtain ⟨g5, c5, rfl, _, _⟩ := M5.pos 0 rfl
            have a3 : w5.cell? ⟨g5, 3, none⟩ = some (.string ⟨#[45]⟩) := (M5.cellAt 0 rfl 3 rfl).trans (by rw [ht1])
            have HM5 := Tre.hid (HMX.out.quiet M5.below)
            clear M5 ht1
            go_wp2_with fail
            go_ret
            exact ⟨rfl, HM5.out.below⟩
          · cases hd
      · obtain ⟨u, hu⟩ : ∃ u : Nat, n = (u : Int) := ⟨n.toNat, by omega⟩
        have HD : Hid (lexS (⟨(itoa n).toArray⟩ : ByteArray).data.toList = some [⟨3, 0, n, []⟩, ⟨0, (decDigits u).length, 0, []⟩]) := by
          show _ = _
          rw [l1, hu, Lib.itoa_nonneg, lex_nonneg u (by omega)]
        have e1 : (n == -9223372036854775808) = false := by rw [beq_eq_false_iff_ne]; omega
        have heq := eqTok 3 0 n 3 0 n ⟨#[]⟩ ⟨#[]⟩
        have ht : tokEq 3 0 n ⟨#[]⟩ 3 0 n ⟨#[]⟩ = true := by simp [tokEq]
        rw [ht] at heq
        clear l1 hu ht
        generalize (⟨(itoa n).toArray⟩ : ByteArray) = s at HD hsz ⊢
        go_wp2_with fail
        refine (Lex s w4 (by have := hsz.out; omega) (HE.out.below HMX.out.below)).mono ?_
        rw [HD.out]
        intro e w5 hq
        rcases hq with ⟨ts, v5, hd, rfl, M5⟩ | ⟨hd, _⟩
        · cases hd
          obtain ⟨g5, c5, rfl, _, _⟩ := M5.pos 0 rfl
          have a0 : w5.cell? ⟨g5, 0, none⟩ = some (.int .i64 3) := M5.cellAt 0 rfl 0 rfl
          have a1 : w5.cell? ⟨g5, 1, none⟩ = some (.int .i64 0) := M5.cellAt 0 rfl 1 rfl
          have a2 : w5.cell? ⟨g5, 2, none⟩ = some (.int .i64 n) := M5.cellAt 0 rfl 2 rfl
          have a3 : w5.cell? ⟨g5, 3, none⟩ = some (.string ⟨#[]⟩) := M5.cellAt 0 rfl 3 rfl
          have HM5 := Tre.hid (HMX.out.quiet M5.below)
          clear M5
          go_wp2_with fail
          go_ret
          exact ⟨rfl, HM5.out.below⟩
        · cases hd
    · exact absurd (pair_last HP.out _) (by assumption)
    · exact absurd (pair_first HP.out _) (by assumption)
  · cases hd
set_option maxRecDepth 100000 in
set_option maxHeartbeats 8000000 in
theorem walk_long (a b : ByteArray) (n : Int) (x : Bool) (w : World) (hab : 1000 < a.size ∨ 1000 < b.size) (ha : a.size ≤ 8388608) (hb : b.size ≤ 8388608) :
    Calls Tryz.prog 3 #[.agg #[.string a, .string b, .int .i64 n, .bool x]] w fun e w' => e = .returned (.bool true) ∧ Below w.heap.size w w' := by
  have M := (Mem.nil w).allocR #[.string a, .string b, .int .i64 n, .bool x] 23
  have HM := Tre.hid M
  clear M
  go_enter Tryz.func3, Tryz.ntmps3
  go_wp2_with fail
  refine (vb.alive _).mono ?_
  rintro e w1 ⟨rfl, b1⟩
  have M1 := HM.out.quiet b1
  have q0 : w1.cell? ⟨w.heap.size, 0, none⟩ = some (.string a) := M1.cell 0 rfl 0 rfl
  have q1 : w1.cell? ⟨w.heap.size, 1, none⟩ = some (.string b) := M1.cell 0 rfl 1 rfl
  have q2 : w1.cell? ⟨w.heap.size, 2, none⟩ = some (.int .i64 n) := M1.cell 0 rfl 2 rfl
  have q3 : w1.cell? ⟨w.heap.size, 3, none⟩ = some (.bool x) := M1.cell 0 rfl 3 rfl
  have HM1 := Tre.hid M1
  clear M1 HM b1
  go_wp2_with fail
  go_region
  have HM2 := Tre.hid HM1.out.drew
  clear HM1 q0 q1 q2 q3
  generalize hw2 : w1.drew = w2 at HM2 ⊢
  clear hw2
  by_cases h1 : 1000 < a.size
  · go_wp2_with fail
    go_ret
    exact ⟨rfl, HM2.out.below⟩
  · have h2 : 1000 < b.size := by omega
    go_wp2_with fail
    go_ret
    exact ⟨rfl, HM2.out.below⟩
theorem law (a b : ByteArray) (n : Int) (x : Bool) (w : World) (ha : a.size ≤ 8388608) (hb : b.size ≤ 8388608) (h0 : -9223372036854775808 ≤ n) (h1 : n ≤ 9223372036854775807) (E : LexEnv w) (ht : TabAt w) :
    Calls Tryz.prog 3 #[.agg #[.string a, .string b, .int .i64 n, .bool x]] w fun e w' => e = .returned (.bool true) ∧ Below w.heap.size w w' := by
  by_cases h : 1000 < a.size ∨ 1000 < b.size
  · exact walk_long a b n x w h ha hb
  · exact walk a b n x w (by omega) (by omega) h0 h1 E ht
end Go.Proofs.YtnhcgobpkigeoaaGreatDoorRR.vpair
