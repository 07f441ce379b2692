/- lex.Lex: a text's tokens, or the error's number. Plain: names are one token; the lexer's answer at a given text, by reckoning. trefoillaw01: alive, LexNames. trefoilref01.Same at two rows of the same tokens. -/
import Derived.Test.YtejajdebpibocaaGreatDoorB11
import Derived.Test.YtejajdebpibocaaGreatDoorB01
set_option linter.unusedVariables false
namespace Go.Tre
open Go.RowKit
def LexPost (w : World) (s : ByteArray) (D : Option (List Tok)) (e : Ending) (w' : World) : Prop :=
  (∃ ts v, D = some ts ∧ e = .returned (.tuple #[v, .int .i64 0, .int .i64 0]) ∧ Mem w w' [toksR v ts]) ∨
  (D = none ∧ ∃ at_ : Nat, e = .returned (.tuple #[.slice none 0 0, .int .i64 at_, .int .i64 ((if s.size ≤ 65536 then 5 else 3 : Nat) : Int)]) ∧ Below w.heap.size w w')
end Go.Tre
namespace Go.Proofs.YtejajdebpibocaaGreatDoor.lex
open Go.RowKit Go.Tre
set_option maxRecDepth 100000 in
set_option maxHeartbeats 8000000 in
theorem Lex (s : ByteArray) (w : World) (hs : s.size ≤ 4194304) (E : LexEnv w) :
    Calls Tryz.prog 7 #[.string s] w (LexPost w s (lexS s.data.toList)) := by
  have HE := Tre.hid E
  obtain ⟨D, hD⟩ : ∃ D, Hid (lexS s.data.toList = D) := ⟨_, rfl⟩
  have HA := Tre.hid (all s w hs E)
  rw [hD.out] at HA ⊢
  clear E
  go_enter Tryz.func7, Tryz.ntmps7
  go_wp2_with fail
  refine HA.out.mono ?_
  intro e w1 hp
  rcases hp with ⟨ts, v, hd, rfl, M⟩ | ⟨hd, v, bs, at_, rfl, M⟩
  · have HM := Tre.hid M
    have HD := Tre.hid hd
    clear M hd
    go_wp2_with fail
    refine (errs.as_nil _ _).mono ?_
    rintro e w' ⟨rfl, rfl⟩
    go_wp2_with fail
    go_ret3
    exact .inl ⟨ts, v, HD.out, rfl, HM.out.alloc _⟩
  · generalize hno : (if s.size ≤ 65536 then 5 else 3) = no at *
    have HM := Tre.hid (M.allocR #[.pointer none] 39)
    have HD := Tre.hid hd
    have HN := Tre.hid hno
    have hbelow := HM.out.below
    have HEI := HM.out.at_ 1 rfl
    have hc := HM.out.cell 0 rfl 0 rfl
    have hf := HM.out.free 0 rfl 0
    obtain ⟨te, ve, rfl⟩ := errIface (M.at_ 0 rfl)
    have HAS := Tre.hid (errs.as_any _ bs at_ no ⟨w1.heap.size, 0, none⟩ _ _ HEI (HE.out.et.below hbelow) hc hf)
    clear M hd hno HEI hc hf hbelow
    go_wp2_with fail
    refine HAS.out.mono ?_
    rintro e w' ⟨rfl, p, w2, hb, hp, rfl⟩
    have hM2 := HM.out.quiet hb
    have M3 := hM2.setCell 0 rfl 0 (.pointer (some ⟨p, 0, none⟩))
    have hw1 : p < (w1.alloc (.cells #[.pointer none] 39)).heap.size := (Array.getElem?_eq_some_iff.1 hp).1
    have hne : p ≠ w1.heap.size := by
      intro e
      have h1 := (heap_alloc_new w1 (.cells #[.pointer none] 39)).symm.trans (e ▸ hp)
      simp at h1
    have hp2 : w2.heap[p]? = some (.cells #[.int .i64 at_, .int .i64 no] 43 (0, 0)) := (hb.block p hw1).trans hp
    have hp3 : (w2.setCell ⟨w1.heap.size, 0, none⟩ (.pointer (some ⟨p, 0, none⟩))).heap[p]? = some (.cells #[.int .i64 at_, .int .i64 no] 43 (0, 0)) := (Below.heap_setCell w2 ⟨w1.heap.size, 0, none⟩ _ p hne).trans hp2
    generalize hg : w2.setCell ⟨w1.heap.size, 0, none⟩ (.pointer (some ⟨p, 0, none⟩)) = w3 at M3 hp3 ⊢
    have q0 : w3.cell? ⟨w1.heap.size, 0, none⟩ = some (.pointer (some ⟨p, 0, none⟩)) := M3.cell 0 rfl 0 rfl
    have q1 : w3.cell? ⟨p, 0, none⟩ = some (.int .i64 at_) := by simp [World.cell?, hp3]
    have q2 : w3.cell? ⟨p, 1, none⟩ = some (.int .i64 no) := by simp [World.cell?, hp3]
    have HM3 := Tre.hid M3.none_
    clear hg hp2 hp3 M3 hM2 hb hp hw1 hne HAS HM
    go_wp2_with fail
    go_region_held3 (fun w' => Below w3.heap.size w3 w' ∧ w'.cell? ⟨w1.heap.size, 0, none⟩ = some (.pointer (some ⟨p, 0, none⟩)) ∧ w'.cell? ⟨p, 0, none⟩ = some (.int .i64 at_) ∧ w'.cell? ⟨p, 1, none⟩ = some (.int .i64 no))
      (first | exact ⟨(Below.refl _ _).drew, q0, q1, q2⟩ | go_keep) (fail)
    have hb := (show Below w3.heap.size w3 w3.drew ∧ _ from by assumption).1
    have HB := Tre.hid hb
    clear hb
    go_wp2_with fail
    go_ret3
    refine .inr ⟨HD.out, at_, ?_, (HM3.out.quiet HB.out).below⟩
    rw [HN.out]
    rfl
end Go.Proofs.YtejajdebpibocaaGreatDoor.lex
namespace Go.Tre
def skipF : Nat → List UInt8 → Option (List UInt8)
  | 0, _ => none
  | k + 1, l => match l.dropWhile blank with
    | 40 :: 42 :: r => match noteEnd r with
      | none => none
      | some r' => skipF k r'
    | r => some r
theorem skipF_eq : ∀ (k : Nat) (l : List UInt8), l.length < k → skipF k l = skipS l
  | 0, _, h => by omega
  | k + 1, l, h => by
    by_cases hn : ∃ r, l.dropWhile blank = 40 :: 42 :: r
    · obtain ⟨r, hr⟩ := hn
      rw [skipS_note' hr, skipF, hr]
      simp only
      cases hne : noteEnd r with
      | none => rfl
      | some r' =>
        have h1 := noteEnd_len hne
        have h2 := (List.dropWhile_sublist (l := l) blank).length_le
        rw [hr] at h2
        simp only [List.length_cons] at h2
        exact skipF_eq k r' (by omega)
    · have hn' : ∀ r, l.dropWhile blank ≠ 40 :: 42 :: r := fun r hr => hn ⟨r, hr⟩
      rw [skipS_rest' hn', skipF]
      split
      · rename_i r hr; exact absurd hr (hn' r)
      · rfl
def allF : Nat → Nat → List UInt8 → Option (List Tok)
  | 0, _, _ => none
  | k + 1, N, l => match skipF (l.length + 1) l with
    | none => none
    | some [] => some [⟨0, N, 0, []⟩]
    | some (c :: r) => match nextS (c :: r) with
      | none => none
      | some (t, n) => (allF k N ((c :: r).drop n)).map fun ts => { t with at_ := N - (c :: r).length } :: ts
theorem allF_eq : ∀ (k N : Nat) (l : List UInt8), l.length < k → allF k N l = allS N l
  | 0, _, _, h => by omega
  | k + 1, N, l, h => by
    rw [allS_eq, allF, skipF_eq _ l (Nat.lt_succ_self _)]
    cases hs : skipS l with
    | none => rfl
    | some r =>
      have hrl := skipS_len hs
      cases r with
      | nil => rfl
      | cons c r =>
        simp only
        cases hn : nextS (c :: r) with
        | none => rfl
        | some q =>
          obtain ⟨t, n⟩ := q
          have hnl := nextS_len hn
          simp only
          rw [allF_eq k N ((c :: r).drop n) (by rw [List.length_drop]; omega)]
/-- by reckoning -/
theorem lexS_of {l : List UInt8} {ts : List Tok} (h : allF (l.length + 1) l.length l = some ts) (hl : l.length ≤ 65536) : lexS l = some ts := by
  unfold lexS
  rw [if_pos hl, ← allF_eq _ _ l (Nat.lt_succ_self _), h]
theorem goes_blank {c : UInt8} {b : Bool} (h : goesB c.toNat b = true) : blank c = false ∧ c ≠ 40 := by
  constructor
  · cases hb : blank c with
    | false => rfl
    | true =>
      exfalso
      simp [blank] at hb
      rcases hb with ((rfl | rfl) | rfl) | rfl <;> (revert h; cases b <;> decide)
  · rintro rfl
    revert h
    cases b <;> decide
theorem skipS_word {c : UInt8} {r : List UInt8} {b : Bool} (h : goesB c.toNat b = true) : skipS (c :: r) = some (c :: r) := by
  obtain ⟨h1, h2⟩ := goes_blank h
  have hd : (c :: r).dropWhile blank = c :: r := by rw [List.dropWhile_cons, if_neg (by rw [h1]; decide)]
  rw [skipS_rest', hd]
  intro t ht
  rw [hd] at ht
  injection ht with ht
  exact h2 ht
theorem skipS_nil : skipS [] = some [] := by rw [skipS_rest' (by intro r h; cases h)]; rfl
theorem name_one {s : ByteArray} (h : isName s = true) : lexS s.data.toList = some [⟨1, 0, 0, s.data.toList⟩, ⟨0, s.size, 0, []⟩] := by
  unfold isName at h
  simp only [Bool.and_eq_true, decide_eq_true_eq, Bool.not_eq_true', ne_eq] at h
  obtain ⟨⟨⟨h0, h1⟩, h2⟩, h3⟩ := h
  have hsz : s.data.toList.length = s.size := rfl
  have hw : wordFrom true s.data.toList = s.data.toList.length := h2
  have hN : s.data.toList.length ≤ 65536 := by omega
  unfold lexS
  rw [if_pos hN]
  have hkey : keyWords.contains s.data.toList = false := h3
  rw [← hsz] at h0 h1
  revert hw hkey h0 h1
  rw [← hsz]
  generalize s.data.toList = l
  intro h0 h1 hw hkey
  cases l with
  | nil => exact absurd rfl h0
  | cons c r =>
    have hg : goesB c.toNat true = true := by
      cases hg : goesB c.toNat true with
      | true => rfl
      | false =>
        unfold wordFrom at hw
        rw [if_neg (by rw [hg]; decide)] at hw
        simp at hw
    have hn : nextS (c :: r) = some (⟨1, 0, 0, c :: r⟩, (c :: r).length) := by
      unfold nextS
      rw [hw, if_pos (by simp), if_neg (by omega), List.take_length, hkey]
      rfl
    rw [allS_eq, skipS_word hg]
    simp only
    rw [hn]
    simp only
    rw [List.drop_length, allS_eq, skipS_nil]
    simp
theorem nextS_name {l : List UInt8} {t : Tok} {n : Nat} (h : nextS l = some (t, n)) (hk : t.kind = 1) : wordFrom true l = n ∧ 0 < n ∧ n ≤ 100 ∧ t.s = l.take n ∧ keyWords.contains (l.take n) = false := by
  unfold nextS at h
  split at h
  · rename_i h0
    split at h
    · cases h
    · rename_i h1
      cases h
      refine ⟨rfl, h0, by omega, rfl, ?_⟩
      cases hc : keyWords.contains (l.take (wordFrom true l)) with
      | false => rfl
      | true => rw [hc] at hk; simp at hk
  · exfalso
    split at h
    · cases h
    · split at h
      · split at h
        · cases h
        · cases h; simp at hk
      · split at h
        · simp only at h
          split at h
          · cases h; simp at hk
          · cases h
        · split at h
          · obtain ⟨p, _, e⟩ := Option.map_eq_some_iff.1 h
            cases e; simp at hk
          · obtain ⟨p, _, e⟩ := Option.map_eq_some_iff.1 h
            cases e; simp at hk
theorem name_only {s : ByteArray} {ts : List Tok} {a : Nat} (h : lexS s.data.toList = some ts) (h0 : ts[0]? = some ⟨1, a, 0, s.data.toList⟩) : isName s = true := by
  unfold lexS at h
  split at h
  · have hsz : s.data.toList.length = s.size := rfl
    rw [allS_eq] at h
    cases hs : skipS s.data.toList with
    | none => rw [hs] at h; cases h
    | some r =>
      rw [hs] at h
      obtain ⟨p, hp, _⟩ := skipS_parts hs
      cases r with
      | nil => cases h; simp at h0
      | cons c r =>
        simp only at h
        cases hn : nextS (c :: r) with
        | none => rw [hn] at h; cases h
        | some q =>
          obtain ⟨t, n⟩ := q
          rw [hn] at h
          obtain ⟨xs, _, rfl⟩ := Option.map_eq_some_iff.1 h
          simp only [List.getElem?_cons_zero, Option.some.injEq] at h0
          have hk : t.kind = 1 := by have := congrArg Tok.kind h0; exact this
          have hts : t.s = s.data.toList := by have := congrArg Tok.s h0; exact this
          obtain ⟨n1, n2, n3, n4, n5⟩ := nextS_name hn hk
          have hnl := nextS_len hn
          have hlen := congrArg List.length (n4.symm.trans hts)
          rw [List.length_take] at hlen
          have hpl := congrArg List.length hp
          rw [List.length_append] at hpl
          have hp0 : p = [] := List.eq_nil_of_length_eq_zero (by omega)
          rw [hp0, List.nil_append] at hp
          have hnn : n = (c :: r).length := by omega
          rw [hnn, List.take_length] at n4 n5
          unfold isName
          have hw : wordLen s = s.size := by
            show wordFrom true s.data.toList = _
            rw [hp, n1, hnn, ← hp]; rfl
          have hkey : isKey s = false := by
            unfold isKey; rw [hp]; exact n5
          rw [hw, hkey, ← hsz, hp]
          simp only [Bool.and_eq_true, decide_eq_true_eq, Bool.not_false, ne_eq, and_true]
          omega
  · cases h
theorem wordFrom_snoc : ∀ (l : List UInt8) (b : Bool), wordFrom b l = l.length → l ≠ [] → wordFrom b (l ++ [120]) = l.length + 1
  | [], _, _, h => absurd rfl h
  | c :: l, b, h, _ => by
    unfold wordFrom at h
    split at h
    · rename_i hg
      rw [List.cons_append, wordFrom, if_pos hg]
      cases l with
      | nil => rfl
      | cons d l =>
        rw [wordFrom_snoc (d :: l) false (by simp only [List.length_cons] at h ⊢; omega) (by simp), List.length_cons]
        simp only [List.length_cons]; omega
    · simp at h
theorem name_more {s sx : ByteArray} (h : isName s = true) (hx : sx.data.toList = s.data.toList ++ [120]) : s.size = 100 ∨ isKey sx = true ∨ isName sx = true := by
  unfold isName at h
  simp only [Bool.and_eq_true, decide_eq_true_eq, Bool.not_eq_true', ne_eq] at h
  obtain ⟨⟨⟨h0, h1⟩, h2⟩, h3⟩ := h
  have hsx : sx.size = s.size + 1 := by
    have := congrArg List.length hx
    rw [List.length_append] at this
    exact this
  by_cases h100 : s.size = 100
  · exact .inl h100
  · right
    cases hk : isKey sx with
    | true => exact .inl rfl
    | false =>
      right
      have hne : s.data.toList ≠ [] := by
        intro e
        have := congrArg List.length e
        exact h0 this
      have hw : wordLen sx = sx.size := by
        show wordFrom true sx.data.toList = _
        rw [hx, wordFrom_snoc _ _ h2 hne, hsx]; rfl
      unfold isName
      rw [hw, hk, hsx]
      simp only [Bool.and_eq_true, decide_eq_true_eq, Bool.not_false, ne_eq, and_true]
      omega
theorem alive1 : lexS [120, 35, 109] = some [⟨1, 0, 0, [120]⟩, ⟨6, 1, 0, [35]⟩, ⟨1, 2, 0, [109]⟩, ⟨0, 3, 0, []⟩] := lexS_of (by decide) (by decide)
theorem alive2 : lexS [34, 97, 92, 110, 98, 34] = some [⟨4, 0, 0, [97, 10, 98]⟩, ⟨0, 6, 0, []⟩] := lexS_of (by decide) (by decide)
end Go.Tre
namespace Go.Tre
def tokEq (a b c : Int) (x : ByteArray) (a' b' c' : Int) (x' : ByteArray) : Bool := decide (a = a') && decide (b = b') && decide (c = c') && decide (x.data.toList = x'.data.toList)
end Go.Tre
namespace Go.Proofs.YtejajdebpibocaaGreatDoor.lex
open Go.RowKit Go.Tre
theorem eqTok (a b c a' b' c' : Int) (x x' : ByteArray) (w : World) : (Op.equalIn 10000 29 (.agg (tokV a b c x)) (.agg (tokV a' b' c' x'))).run Tryz.prog w = .ok (tokEq a b c x a' b' c' x') w := by
  rw [show (10000 : Nat) = 9999 + 1 from rfl, Op.equalIn]
  simp only [Sem.run_bind, run_underlying Tryz.underlying29, Result.andThen_ok]
  go_simp
  unfold tokEq
  simp only [ByteArray.toList_eq]
  by_cases h1 : a = a' <;> by_cases h2 : b = b' <;> by_cases h3 : c = c' <;> by_cases h4 : x.data.toList = x'.data.toList <;> simp [h1, h2, h3, h4]
set_option maxRecDepth 100000 in
set_option maxHeartbeats 8000000 in
theorem alive (w : World) (E : LexEnv w) :
    Calls Tryz.prog 6 #[] w fun e w' => e = .returned (.bool true) ∧ Below w.heap.size w w' := by
  have HE := Tre.hid E
  have A1 : Hid (lexS (⟨#[120, 35, 109]⟩ : ByteArray).data.toList = some [⟨1, 0, 0, [120]⟩, ⟨6, 1, 0, [35]⟩, ⟨1, 2, 0, [109]⟩, ⟨0, 3, 0, []⟩]) := alive1
  have A2 : Hid (lexS (⟨#[34, 97, 92, 110, 98, 34]⟩ : ByteArray).data.toList = some [⟨4, 0, 0, [97, 10, 98]⟩, ⟨0, 6, 0, []⟩]) := alive2
  clear E
  go_enter Tryz.func6, Tryz.ntmps6
  go_wp2_with fail
  refine (Lex ⟨#[120, 35, 109]⟩ w (by decide) HE.out).mono ?_
  rw [A1.out]
  intro e w1 hp
  rcases hp with ⟨ts, v1, hd, rfl, M1⟩ | ⟨hd, _⟩
  · cases hd
    obtain ⟨g1, c1, rfl, _, _⟩ := M1.pos 0 rfl
    have HM1 := Tre.hid M1
    clear M1
    go_wp2_with fail
    refine (Lex ⟨#[34, 97, 92, 110, 98, 34]⟩ w1 (by decide) (HE.out.below HM1.out.below)).mono ?_
    rw [A2.out]
    intro e w2 hp
    rcases hp with ⟨ts, v2, hd, rfl, M2⟩ | ⟨hd, _⟩
    · cases hd
      obtain ⟨g2, c2, rfl, _, _⟩ := M2.pos 0 rfl
      have HM2 := Tre.hid (HM1.out.call M2)
      have a0 : w2.cell? ⟨g1, 3, none⟩ = some (.string ⟨#[120]⟩) := HM2.out.cellAt 1 rfl 3 rfl
      have a1 : w2.cell? ⟨g1, 7, none⟩ = some (.string ⟨#[35]⟩) := HM2.out.cellAt 1 rfl 7 rfl
      have a2 : w2.cell? ⟨g1, 9, none⟩ = some (.int .i64 2) := HM2.out.cellAt 1 rfl 9 rfl
      have a3 : w2.cell? ⟨g2, 3, none⟩ = some (.string ⟨#[97, 10, 98]⟩) := HM2.out.cellAt 0 rfl 3 rfl
      clear M2 HM1
      go_wp2_with fail
      go_ret
      exact ⟨rfl, HM2.out.below⟩
    · cases hd
  · cases hd
end Go.Proofs.YtejajdebpibocaaGreatDoor.lex
namespace Go.Tre
open Go.RowKit
abbrev ToksAt (w : World) (a : Option Addr) (ts : List Tok) : Prop := Row w 4 a ts.length (ts.flatMap tokCells)
theorem ToksAt.tok {w : World} {a : Option Addr} {ts : List Tok} (h : ToksAt w a ts) {i : Nat} {t : Tok} (hi : ts[i]? = some t) :
    ∃ b off, a = some ⟨b, off, none⟩ ∧ w.cell? ⟨b, off + i * 4, none⟩ = some (.int .i64 t.kind) ∧ w.cell? ⟨b, off + i * 4 + 1, none⟩ = some (.int .i64 t.at_) ∧ w.cell? ⟨b, off + i * 4 + 2, none⟩ = some (.int .i64 t.n) ∧ w.cell? ⟨b, off + i * 4 + 3, none⟩ = some (.string ⟨t.s.toArray⟩) := by
  have key : ∀ (ts : List Tok) (i : Nat) (j : Nat), j < 4 → ts[i]? = some t → (ts.flatMap tokCells)[i * 4 + j]? = (tokCells t)[j]? := by
    intro ts
    induction ts with
    | nil => intro i j _ h; simp at h
    | cons u r ih =>
      intro i j hj h
      cases i with
      | zero =>
        simp at h
        subst h
        rw [List.flatMap_cons, Nat.zero_mul, Nat.zero_add, List.getElem?_append_left (by simp [tokCells]; omega)]
      | succ i =>
        simp at h
        rw [List.flatMap_cons, List.getElem?_append_right (by simp [tokCells]; omega)]
        rw [show (i + 1) * 4 + j - (tokCells u).length = i * 4 + j by simp [tokCells]; omega]
        exact ih i j hj h
  obtain ⟨b, off, e, h0⟩ := h.at_ (i * 4 + 0) _ (key ts i 0 (by omega) hi)
  subst e
  obtain ⟨_, _, e, h1⟩ := h.at_ (i * 4 + 1) _ (key ts i 1 (by omega) hi); cases e
  obtain ⟨_, _, e, h2⟩ := h.at_ (i * 4 + 2) _ (key ts i 2 (by omega) hi); cases e
  obtain ⟨_, _, e, h3⟩ := h.at_ (i * 4 + 3) _ (key ts i 3 (by omega) hi); cases e
  exact ⟨b, off, rfl, h0, h1, h2, h3⟩
theorem ToksAt.below {w w' : World} {a : Option Addr} {ts : List Tok} (h : ToksAt w a ts) (hb : Below w.heap.size w w') : ToksAt w' a ts := Row.below h hb
theorem toks_of {w0 w : World} {rs : List Res} {a : Option Addr} {ts : List Tok} {n c : Nat} (h : Mem w0 w rs) (i : Nat) (hi : rs[i]? = some (rowR 29 4 (.slice a n c) n (ts.flatMap tokCells))) (hn : n = ts.length) : ToksAt w a ts := by
  subst hn
  refine ⟨tokCells_len ts, fun j u hu => ?_⟩
  obtain ⟨g, rfl, _, _, hc⟩ := h.getRow i hi j hu
  exact ⟨g, 0, rfl, by rw [Nat.zero_add]; exact hc⟩
theorem ToksAt.take {w : World} {a : Option Addr} {ts : List Tok} (h : ToksAt w a ts) (k : Nat) : ToksAt w a (ts.take k) := by
  refine ⟨tokCells_len _, fun j u hu => ?_⟩
  refine h.at_ j u ?_
  have e : ts = ts.take k ++ ts.drop k := (List.take_append_drop k ts).symm
  rw [e, List.flatMap_append, List.getElem?_append_left (List.getElem?_eq_some_iff.1 hu).1]
  exact hu
end Go.Tre
namespace Go.Proofs.YtejajdebpibocaaGreatDoor.lex
open Go.RowKit Go.Tre
theorem tokEq_refl (a b c : Int) (x : ByteArray) : tokEq a b c x a b c x = true := by simp [tokEq]
set_option maxRecDepth 100000 in
set_option maxHeartbeats 8000000 in
theorem same_eq (a b : Option Addr) (ca cb : Nat) (ts : List Tok) (w : World) (ha : ToksAt w a ts) (hb : ToksAt w b ts) (hl : ts.length ≤ 4194304) :
    Calls Tryz.prog 8 #[.slice a ts.length ca, .slice b ts.length cb] w fun e w' => e = .returned (.bool true) ∧ Below w.heap.size w w' := by
  have HA := Tre.hid ha
  have HB := Tre.hid hb
  have heq := eqTok
  clear ha hb
  go_enter Tryz.func8, Tryz.ntmps8
  go_wp2_with fail
  go_loopw [13] (fun v wr => ∃ i : Nat, i ≤ ts.length ∧ v = .int .i64 i ∧ Hid (Below w.heap.size w wr)) (fun v _ => ts.length - (intOf v).toNat)
  case atStart => exact ⟨0, Nat.zero_le _, rfl, Below.refl _ _⟩
  case round =>
    obtain ⟨i, hi, rfl, HW⟩ := hrel
    by_cases hlt : i < ts.length
    · obtain ⟨t, ht⟩ : ∃ t, ts[i]? = some t := ⟨_, List.getElem?_eq_getElem hlt⟩
      obtain ⟨b1, o1, rfl, a0, a1, a2, a3⟩ := (HA.out.below HW.out).tok ht
      obtain ⟨b2, o2, rfl, c0, c1, c2, c3⟩ := (HB.out.below HW.out).tok ht
      have hte := tokEq_refl t.kind t.at_ t.n ⟨t.s.toArray⟩
      go_wp2_with fail
      go_region_held3 (fun w' => w'.cell? ⟨b1, o1 + i * 4, none⟩ = some (.int .i64 t.kind) ∧ w'.cell? ⟨b1, o1 + i * 4 + 1, none⟩ = some (.int .i64 t.at_) ∧ w'.cell? ⟨b1, o1 + i * 4 + 2, none⟩ = some (.int .i64 t.n) ∧ w'.cell? ⟨b1, o1 + i * 4 + 3, none⟩ = some (.string ⟨t.s.toArray⟩) ∧ w'.cell? ⟨b2, o2 + i * 4, none⟩ = some (.int .i64 t.kind) ∧ w'.cell? ⟨b2, o2 + i * 4 + 1, none⟩ = some (.int .i64 t.at_) ∧ w'.cell? ⟨b2, o2 + i * 4 + 2, none⟩ = some (.int .i64 t.n) ∧ w'.cell? ⟨b2, o2 + i * 4 + 3, none⟩ = some (.string ⟨t.s.toArray⟩)) (go_keep) (fail)
      go_wp2_with fail
      go_roundw
      case rel => exact ⟨i + 1, by omega, by go_num, HW.out.drew⟩
      case measure => simp [intOf]; omega
    · go_wp2_with fail
      go_ret
      exact ⟨rfl, HW.out⟩
end Go.Proofs.YtejajdebpibocaaGreatDoor.lex
