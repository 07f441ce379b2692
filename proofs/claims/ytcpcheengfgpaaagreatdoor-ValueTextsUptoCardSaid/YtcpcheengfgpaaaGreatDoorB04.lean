/- Which words are keys: the text of all of them, blanks between, holds a word between blanks just if it is one of them. Names and words: lex.goes, lex.word, and the reference's letter, digit, small, word. Layer 1, plain: a text's tokens. Plain laws of the lexer's blanks and notes. Plain: the lexer's answer at a given text, by reckoning. -/
import Derived.Lib.IndexMore
import Derived.Test.YtcpcheengfgpaaaGreatDoorRows
import Derived.Test.YtcpcheengfgpaaaGreatDoorB00
import Derived.WalkSpells
import Derived.WalkLawsBesides
set_option linter.unusedVariables false
namespace Go.Tre

/-- words, a blank ahead and one behind each -/
def spaced : List (List UInt8) → List UInt8
  | [] => [32]
  | x :: r => 32 :: (x ++ spaced r)

theorem prefix_word : ∀ (s x r : List UInt8), (∀ c ∈ s, c ≠ 32) → (∀ c ∈ x, c ≠ 32) → (s ++ [32]) <+: (x ++ 32 :: r) → s = x
  | [], [], _, _, _, _ => rfl
  | [], c :: x, r, _, h2, h => by
    obtain ⟨t, ht⟩ := h
    simp at ht
    exact absurd ht.1.symm (h2 c (by simp))
  | a :: s, [], r, h1, _, h => by
    obtain ⟨t, ht⟩ := h
    simp at ht
    exact absurd ht.1 (h1 a (by simp))
  | a :: s, c :: x, r, h1, h2, h => by
    obtain ⟨t, ht⟩ := h
    simp at ht
    obtain ⟨rfl, ht⟩ := ht
    rw [prefix_word s x r (fun c hc => h1 c (by simp [hc])) (fun c hc => h2 c (by simp [hc])) ⟨t, by simpa using ht⟩]

theorem spaced_head : ∀ ws, ∃ r, spaced ws = 32 :: r
  | [] => ⟨[], rfl⟩
  | x :: r => ⟨x ++ spaced r, rfl⟩

theorem infix_skip (n x r : List UInt8) (h : (∀ c ∈ x, c ≠ 32)) (hi : (32 :: n) <:+: (x ++ r)) : (32 :: n) <:+: r := by
  induction x with
  | nil => simpa using hi
  | cons c x ih =>
    rw [List.cons_append, List.infix_cons_iff] at hi
    rcases hi with hi | hi
    · obtain ⟨t, ht⟩ := hi
      simp at ht
      exact absurd ht.1.symm (h c (by simp))
    · exact ih (fun d hd => h d (by simp [hd])) hi

theorem infix_spaced (s : List UInt8) (hs : ∀ c ∈ s, c ≠ 32) (h0 : s ≠ []) : ∀ ws : List (List UInt8), (∀ x ∈ ws, ∀ c ∈ x, c ≠ 32) → ((32 :: (s ++ [32])) <:+: spaced ws ↔ s ∈ ws)
  | [], _ => by
    constructor
    · intro h
      have := h.length_le
      simp [spaced] at this
    · intro h
      cases h
  | x :: ws, hw => by
    have ih := infix_spaced s hs h0 ws (fun y hy => hw y (by simp [hy]))
    obtain ⟨r, hr⟩ := spaced_head ws
    rw [spaced, List.infix_cons_iff]
    constructor
    · rintro (h | h)
      · obtain ⟨t, ht⟩ := h
        simp only [List.cons_append, List.cons.injEq, true_and] at ht
        rw [hr] at ht
        exact List.mem_cons.2 (.inl (prefix_word s x r hs (hw x (by simp)) ⟨t, ht⟩))
      · exact List.mem_cons_of_mem _ (ih.1 (infix_skip _ x _ (hw x (by simp)) h))
    · intro h
      rcases List.mem_cons.1 h with rfl | h
      · refine .inl ⟨r, ?_⟩
        rw [hr]; simp
      · exact .inr ((ih.2 h).trans ⟨x, [], by simp⟩)

theorem index_infix : ∀ (l s : List UInt8), 0 ≤ Lib.index l s ↔ s <:+: l
  | [], s => by
    unfold Lib.index
    cases s with
    | nil => simp
    | cons a s => simp
  | b :: l, s => by
    have ih := index_infix l s
    have hge := Lib.index_ge l s
    unfold Lib.index
    rw [List.infix_cons_iff]
    by_cases h : s.isPrefixOf (b :: l) = true
    · rw [if_pos h]
      have := List.isPrefixOf_iff_prefix.1 h
      simp [this]
    · rw [if_neg h]
      have h' : ¬ s <+: b :: l := fun hp => h (List.isPrefixOf_iff_prefix.2 hp)
      by_cases hm : Lib.index l s = -1
      · have : ¬ s <:+: l := fun hh => by have := ih.2 hh; omega
        simp [hm, h', this]
      · have h2 : 0 ≤ Lib.index l s := by omega
        have : s <:+: l := ih.1 h2
        have hm' : (Lib.index l s == -1) = false := by simpa using hm
        simp only [hm', this, or_true, iff_true]
        simp; omega

/-- the 19 keys -/
def keyWords : List (List UInt8) := [[97, 110, 100], [97, 115], [99, 108, 97, 115, 115], [101, 108, 115, 101], [101, 110, 100], [102, 97, 108, 115, 101], [102, 117, 110], [105, 102], [105, 110], [105, 110, 104, 101, 114, 105, 116], [108, 101, 116], [109, 101, 116, 104, 111, 100], [110, 101, 119], [111, 98, 106, 101, 99, 116], [114, 101, 99], [116, 104, 101, 110], [116, 114, 117, 101], [118, 97, 108], [118, 105, 114, 116, 117, 97, 108]]
def isKey (s : ByteArray) : Bool := keyWords.contains s.data.toList
theorem keyWords_no : ∀ x ∈ keyWords, ∀ c ∈ x, c ≠ 32 := by decide
theorem keyWords_nil : [] ∉ keyWords := by decide
theorem contains_blank (s : List UInt8) : Lib.contains s [32] = decide (32 ∈ s) := by
  unfold Lib.contains
  rw [decide_eq_decide, index_infix]
  constructor
  · rintro ⟨a, b, rfl⟩; simp
  · intro h
    obtain ⟨a, b, rfl⟩ := List.append_of_mem h
    exact ⟨a, b, by simp⟩
theorem contains_keys (s : List UInt8) (h : ¬ 32 ∈ s) (h0 : s ≠ []) : Lib.contains (spaced keyWords) (32 :: (s ++ [32])) = keyWords.contains s := by
  unfold Lib.contains
  rw [Bool.eq_iff_iff, decide_eq_true_iff, index_infix, infix_spaced s (fun c hc e => h (e ▸ hc)) h0 _ keyWords_no]
  simp
end Go.Tre
namespace Go.Tre
/-- may a byte go on a word, or begin one? -/
def goesB (c : Int) (b : Bool) : Bool := if (48 ≤ c ∧ c ≤ 57) ∨ (65 ≤ c ∧ c ≤ 90) then !b else decide ((97 ≤ c ∧ c ≤ 122) ∨ c = 95)
def wordFrom (b : Bool) : List UInt8 → Nat
  | [] => 0
  | c :: r => if goesB c.toNat b then 1 + wordFrom false r else 0
def wordLen (s : ByteArray) : Nat := wordFrom true s.data.toList
end Go.Tre
namespace Go.Proofs.YtcpcheengfgpaaaGreatDoor.lex
open Go.RowKit Go.Tre

theorem ret_int {k : IntKind} {a b : Int} (h : a = b) : Ending.returned (.int k a) = .returned (.int k b) := by rw [h]
theorem nat_beq0 (k : Nat) : ((k : Int) == 0) = (k == 0) := by
  cases k
  · rfl
  · simp; omega
theorem drop_at (s : ByteArray) (k : Nat) (h : k < s.size) : s.data.toList.drop k = s[k] :: s.data.toList.drop (k + 1) := by
  rw [List.drop_eq_getElem_cons (by simpa using h)]; rfl
theorem ret_bool {x y : Bool} (h : x = y) : Ending.returned (.bool x) = .returned (.bool y) := by rw [h]

set_option maxHeartbeats 1000000 in
theorem goes (c : Int) (b : Bool) (w : World) (h0 : 0 ≤ c) (h1 : c ≤ 255) :
    Calls Tryz.prog 77 #[.int .u8 c, .bool b] w fun e w' => e = .returned (.bool (goesB c b)) ∧ w = w' := by
  have H : c < 48 ∨ (48 ≤ c ∧ c ≤ 57) ∨ (57 < c ∧ c < 65) ∨ (65 ≤ c ∧ c ≤ 90) ∨ (90 < c ∧ c < 95) ∨ c = 95 ∨ c = 96 ∨ (97 ≤ c ∧ c ≤ 122) ∨ 122 < c := by omega
  cases b
  all_goals
    rcases H with h | ⟨h, h'⟩ | ⟨h, h'⟩ | ⟨h, h'⟩ | ⟨h, h'⟩ | rfl | rfl | ⟨h, h'⟩ | h
    all_goals
      go_enter Tryz.func77, Tryz.ntmps77
      go_wp2_with fail
      go_ret
      refine ⟨ret_bool ?_, rfl⟩
      unfold goesB
      simp
      try omega

set_option maxHeartbeats 1000000 in
theorem word (s : ByteArray) (w : World) (hs : s.size ≤ 8388608) :
    Calls Tryz.prog 53 #[.string s] w fun e w' => e = .returned (.int .i64 (wordLen s)) ∧ w = w' := by
  go_enter Tryz.func53, Tryz.ntmps53
  go_wp2_with fail
  go_loop [3] (fun n => ∃ k : Nat, k ≤ s.size ∧ n = .int .i64 k ∧ wordLen s = k + wordFrom (k == 0) (s.data.toList.drop k)) (fun n => s.size - (intOf n).toNat)
  case atStart => exact ⟨0, Nat.zero_le _, rfl, by simp [wordLen]⟩
  case round =>
    obtain ⟨k, hk, rfl, hrel⟩ := hrel
    have HR := Tre.hid hrel
    clear hrel
    by_cases hlt : k < s.size
    · have hd : s.data.toList.drop k = s[k] :: s.data.toList.drop (k + 1) := drop_at s k hlt
      have h255 := s[k].toNat_lt
      by_cases hg : goesB s[k].toNat ((k : Int) == 0) = true
      · have HW : Hid (wordLen s = (k + 1 : Nat) + wordFrom ((k + 1 : Nat) == 0) (s.data.toList.drop (k + 1))) := by
          show _ = _
          rw [HR.out, hd, wordFrom, ← nat_beq0, if_pos hg, show (k + 1 == 0) = false from rfl]; omega
        clear hd
        go_wp2_with (go_at_call 77; refine (goes _ _ _ (by omega) (by omega)).mono ?_; rintro e w' ⟨rfl, rfl⟩)
        go_round
        case rel => exact ⟨k + 1, by omega, rfl, HW.out⟩
        case measure => simp [intOf]; omega
      · have hg' : goesB s[k].toNat ((k : Int) == 0) = false := by simpa using hg
        have HW : Hid (wordLen s = k) := by
          show _ = _
          rw [HR.out, hd, wordFrom, ← nat_beq0, if_neg (by simpa using hg)]; omega
        clear hd hg
        go_wp2_with (go_at_call 77; refine (goes _ _ _ (by omega) (by omega)).mono ?_; rintro e w' ⟨rfl, rfl⟩)
        go_ret
        exact ⟨ret_int (by rw [HW.out]), rfl⟩
    · have HW : Hid (wordLen s = k) := by
        show _ = _
        rw [HR.out, List.drop_of_length_le (by simp; omega)]; rfl
      go_wp2_with fail
      go_ret
      exact ⟨ret_int (by rw [HW.out]), rfl⟩
end Go.Proofs.YtcpcheengfgpaaaGreatDoor.lex
namespace Go.Tre
/-- a token: its kind, its place, a number, a text -/
structure Tok where
  kind : Nat
  at_ : Nat
  n : Int
  s : List UInt8
deriving DecidableEq

def blank (c : UInt8) : Bool := c == 9 || c == 10 || c == 13 || c == 32
/-- what stands behind a note's end -/
def noteEnd : List UInt8 → Option (List UInt8)
  | [] => none
  | [_] => none
  | c :: d :: r => if c = 42 ∧ d = 41 then some r else noteEnd (d :: r)
theorem noteEnd_len : ∀ {l r : List UInt8}, noteEnd l = some r → r.length + 2 ≤ l.length
  | [], _, h => by cases h
  | [_], _, h => by cases h
  | c :: d :: l, r, h => by
    unfold noteEnd at h
    split at h
    · cases h; simp
    · have := noteEnd_len h; simp only [List.length_cons] at this ⊢; omega
/-- blanks and notes passed over -/
def skipS (l : List UInt8) : Option (List UInt8) :=
  match h : l.dropWhile blank with
  | 40 :: 42 :: r => match h2 : noteEnd r with
    | none => none
    | some r' => skipS r'
  | r => some r
termination_by l.length
decreasing_by
  have h3 := (List.dropWhile_sublist (l := l) blank).length_le
  rw [h] at h3
  have h4 := noteEnd_len h2
  simp only [List.length_cons] at h3
  omega
/-- a text behind a quote: what it tells, and how many bytes that has, with its end -/
def quotedS : List UInt8 → Option (List UInt8 × Nat)
  | [] => none
  | c :: r =>
    if c = 34 then some ([], 1)
    else if c = 92 then match r with
      | [] => none
      | d :: r' => if d = 92 ∨ d = 34 then (quotedS r').map fun p => (d :: p.1, p.2 + 2) else if d = 110 then (quotedS r').map fun p => (10 :: p.1, p.2 + 2) else none
    else (quotedS r).map fun p => (c :: p.1, p.2 + 1)
def symbolsS : List (List UInt8) := [[45, 62], [60, 45], [58, 62], [46, 46], [123, 60], [62, 125], [40], [41], [59], [58], [61], [60], [62], [43], [45], [42], [47], [44], [35]]
def isDig (c : UInt8) : Bool := decide (48 ≤ c.toNat) && decide (c.toNat ≤ 57)
def digitsVal (l : List UInt8) : Nat := l.foldl (fun a c => 10 * a + (c.toNat - 48)) 0
/-- the next token (its place left aside), and how many bytes it has -/
def nextS (l : List UInt8) : Option (Tok × Nat) :=
  if wordFrom true l > 0 then
    if wordFrom true l > 100 then none
    else some (⟨if keyWords.contains (l.take (wordFrom true l)) then 2 else 1, 0, 0, l.take (wordFrom true l)⟩, wordFrom true l)
  else match l with
    | [] => none
    | c :: r =>
      if c = 39 then
        if wordFrom true r = 0 ∨ wordFrom true r > 100 then none else some (⟨5, 0, 0, r.take (wordFrom true r)⟩, wordFrom true r + 1)
      else if isDig c then
        let d := (c :: r).takeWhile isDig
        if digitsVal d ≤ 9223372036854775807 then some (⟨3, 0, digitsVal d, []⟩, d.length) else none
      else if c = 34 then (quotedS r).map fun p => (⟨4, 0, 0, p.1⟩, p.2 + 1)
      else (symbolsS.find? fun x => x.isPrefixOf (c :: r)).map fun x => (⟨6, 0, 0, x⟩, x.length)
theorem skipS_len {l r : List UInt8} (h : skipS l = some r) : r.length ≤ l.length := by
  induction hn : l.length using Nat.strongRecOn generalizing l with
  | _ n ih =>
    have h3 := (List.dropWhile_sublist (l := l) blank).length_le
    rw [skipS] at h
    split at h
    · rename_i r0 h1
      rw [h1] at h3
      simp only [List.length_cons] at h3
      split at h
      · cases h
      · rename_i r' h2
        have h4 := noteEnd_len h2
        have := ih r'.length (by omega) h rfl
        omega
    · cases h
      omega
theorem wordFrom_len : ∀ (l : List UInt8) (b : Bool), wordFrom b l ≤ l.length
  | [], _ => by simp [wordFrom]
  | c :: r, b => by
    unfold wordFrom
    split
    · have := wordFrom_len r false; simp only [List.length_cons]; omega
    · simp
theorem quotedS_len : ∀ (k : Nat) (l : List UInt8), l.length ≤ k → ∀ p, quotedS l = some p → 1 ≤ p.2 ∧ p.2 ≤ l.length
  | 0, l, hk, p, h => by
    have : l = [] := List.eq_nil_of_length_eq_zero (by omega)
    subst this
    simp [quotedS] at h
  | k + 1, [], _, p, h => by simp [quotedS] at h
  | k + 1, c :: r, hk, p, h => by
    simp only [List.length_cons] at hk ⊢
    unfold quotedS at h
    split at h
    · cases h; exact ⟨Nat.le_refl _, by simp⟩
    · split at h
      · split at h
        · cases h
        · rename_i d r'
          simp only [List.length_cons] at hk ⊢
          split at h
          · obtain ⟨q, hq, rfl⟩ := Option.map_eq_some_iff.1 h
            have := quotedS_len k r' (by omega) q hq
            simp only; omega
          · split at h
            · obtain ⟨q, hq, rfl⟩ := Option.map_eq_some_iff.1 h
              have := quotedS_len k r' (by omega) q hq
              simp only; omega
            · cases h
      · obtain ⟨q, hq, rfl⟩ := Option.map_eq_some_iff.1 h
        have := quotedS_len k r (by omega) q hq
        simp only; omega
theorem takeWhile_len {α : Type} (p : α → Bool) : ∀ l : List α, (l.takeWhile p).length ≤ l.length := fun l => (List.takeWhile_sublist p).length_le
theorem nextS_len {l : List UInt8} {t : Tok} {n : Nat} (h : nextS l = some (t, n)) : 1 ≤ n ∧ n ≤ l.length := by
  unfold nextS at h
  split at h
  · split at h
    · cases h
    · cases h
      exact ⟨by omega, wordFrom_len l true⟩
  · split at h
    · cases h
    · rename_i c r _
      split at h
      · split at h
        · cases h
        · cases h
          have := wordFrom_len r true
          simp only [List.length_cons]; omega
      · split at h
        · rename_i hd
          simp only at h
          split at h
          · cases h
            refine ⟨?_, takeWhile_len _ _⟩
            rw [List.takeWhile_cons, if_pos hd]; simp
          · cases h
        · split at h
          · obtain ⟨q, hq, e⟩ := Option.map_eq_some_iff.1 h
            cases e
            have := quotedS_len r.length r (Nat.le_refl _) q hq
            simp only [List.length_cons]; omega
          · obtain ⟨x, hx, e⟩ := Option.map_eq_some_iff.1 h
            cases e
            have h1 := List.find?_some hx
            have h2 := List.mem_of_find?_eq_some hx
            have h3 : x <+: c :: r := by simpa using h1
            refine ⟨?_, h3.length_le⟩
            have : ∀ y ∈ symbolsS, 1 ≤ y.length := by decide
            exact this x h2
/-- a text's tokens, from what is left of it on; N: how long the whole is -/
def allS (N : Nat) (l : List UInt8) : Option (List Tok) :=
  match h : skipS l with
  | none => none
  | some [] => some [⟨0, N, 0, []⟩]
  | some (c :: r) => match h2 : nextS (c :: r) with
    | none => none
    | some (t, n) => (allS N ((c :: r).drop n)).map fun ts => { t with at_ := N - (c :: r).length } :: ts
termination_by l.length
decreasing_by
  have h3 := skipS_len h
  have h4 := nextS_len h2
  simp only [List.length_drop, List.length_cons] at *
  omega
def lexS (l : List UInt8) : Option (List Tok) := if l.length ≤ 65536 then allS l.length l else none
end Go.Tre
namespace Go.Tre
theorem allS_eq (N : Nat) (l : List UInt8) : allS N l = match skipS l with
    | none => none
    | some [] => some [⟨0, N, 0, []⟩]
    | some (c :: r) => match nextS (c :: r) with
      | none => none
      | some (t, n) => (allS N ((c :: r).drop n)).map fun ts => { t with at_ := N - (c :: r).length } :: ts := by
  rw [allS]
  split
  · rename_i h; rw [h]
  · rename_i h; rw [h]
  · rename_i c r h
    rw [h]
    simp only
    split
    · rename_i h2; rw [h2]
    · rename_i t n h2; rw [h2]
theorem skipS_note' {l r : List UInt8} (h : l.dropWhile blank = 40 :: 42 :: r) : skipS l = (noteEnd r).bind skipS := by
  rw [skipS]
  split
  · rename_i r0 h1
    rw [h] at h1
    cases h1
    split
    · rename_i h2; rw [h2]; rfl
    · rename_i h2; rw [h2]; rfl
  · rename_i hn
    exact absurd h (hn r)
theorem skipS_rest' {l : List UInt8} (h : ∀ r, l.dropWhile blank ≠ 40 :: 42 :: r) : skipS l = some (l.dropWhile blank) := by
  rw [skipS]
  split
  · rename_i r0 h1
    exact absurd h1 (h r0)
  · rfl
theorem skipS_congr {l l' : List UInt8} (h : l.dropWhile blank = l'.dropWhile blank) : skipS l = skipS l' := by
  by_cases hn : ∃ r, l.dropWhile blank = 40 :: 42 :: r
  · obtain ⟨r, hr⟩ := hn
    rw [skipS_note' hr, skipS_note' (h ▸ hr)]
  · have hn' : ∀ r, l.dropWhile blank ≠ 40 :: 42 :: r := fun r hr => hn ⟨r, hr⟩
    rw [skipS_rest' hn', skipS_rest' (by rw [← h]; exact hn'), h]
theorem dropWhile_head {p : UInt8 → Bool} : ∀ {l r : List UInt8} {c : UInt8}, l.dropWhile p = c :: r → p c = false
  | [], _, _, h => by cases h
  | a :: l, r, c, h => by
    rw [List.dropWhile_cons] at h
    split at h
    · exact dropWhile_head h
    · rename_i hp
      cases h
      simpa using hp
theorem dropWhile_parts (p : UInt8 → Bool) : ∀ l : List UInt8, ∃ q, l = q ++ l.dropWhile p ∧ ∀ r, (r = [] ∨ ∃ c t, r = c :: t ∧ p c = false) → (q ++ r).dropWhile p = r
  | [] => ⟨[], rfl, fun r hr => by
      rcases hr with rfl | ⟨c, t, rfl, hc⟩
      · rfl
      · simp [hc]⟩
  | a :: l => by
    rw [List.dropWhile_cons]
    split
    · rename_i ha
      obtain ⟨q, h1, h2⟩ := dropWhile_parts p l
      refine ⟨a :: q, by rw [List.cons_append, ← h1], fun r hr => ?_⟩
      rw [List.cons_append, List.dropWhile_cons, if_pos ha]
      exact h2 r hr
    · refine ⟨[], rfl, fun r hr => ?_⟩
      rcases hr with rfl | ⟨c, t, rfl, hc⟩
      · rfl
      · simp [hc]
theorem noteEnd_parts : ∀ {l r : List UInt8}, noteEnd l = some r → ∃ m, l = m ++ r ∧ ∀ r', noteEnd (m ++ r') = some r'
  | [], _, h => by cases h
  | [_], _, h => by cases h
  | c :: d :: l, r, h => by
    unfold noteEnd at h
    split at h
    · rename_i hc
      cases h
      refine ⟨[c, d], rfl, fun r' => ?_⟩
      show noteEnd (c :: d :: r') = _
      unfold noteEnd
      rw [if_pos hc]
    · rename_i hc
      obtain ⟨m, hm, hr⟩ := noteEnd_parts h
      cases m with
      | nil =>
        have h1 := noteEnd_len h
        rw [List.nil_append] at hm
        rw [hm] at h1
        omega
      | cons e m =>
        rw [List.cons_append] at hm
        injection hm with h1 h2
        subst h1
        refine ⟨c :: d :: m, by rw [h2]; rfl, fun r' => ?_⟩
        have := hr r'
        show noteEnd (c :: d :: (m ++ r')) = _
        unfold noteEnd
        rw [if_neg hc]
        exact this
theorem skipS_parts {l r : List UInt8} (h : skipS l = some r) : ∃ p, l = p ++ r ∧ ∀ r', r' <+: r → skipS (p ++ r') = some r' := by
  induction hn : l.length using Nat.strongRecOn generalizing l with
  | _ n ih =>
    by_cases hne : ∃ t, l.dropWhile blank = 40 :: 42 :: t
    · obtain ⟨t, ht⟩ := hne
      rw [skipS_note' ht] at h
      cases hne : noteEnd t with
      | none => rw [hne] at h; cases h
      | some t' =>
        rw [hne] at h
        have h' : skipS t' = some r := h
        obtain ⟨q, hq, hq'⟩ := dropWhile_parts blank l
        rw [ht] at hq
        obtain ⟨m, hm, hm'⟩ := noteEnd_parts hne
        have hl : t'.length < n := by
          have h1 := congrArg List.length hq
          have h2 := congrArg List.length hm
          simp at h1 h2
          omega
        obtain ⟨p, hp, hp'⟩ := ih _ hl h' rfl
        refine ⟨q ++ 40 :: 42 :: (m ++ p), ?_, fun r' hr' => ?_⟩
        · rw [hq, hm, hp]; simp
        · have e : q ++ 40 :: 42 :: (m ++ p) ++ r' = q ++ (40 :: 42 :: (m ++ (p ++ r'))) := by simp
          rw [e, skipS_note' (hq' _ (.inr ⟨_, _, rfl, by decide⟩)), hm' (p ++ r')]
          exact hp' r' hr'
    · have hne' : ∀ t, l.dropWhile blank ≠ 40 :: 42 :: t := fun t ht => hne ⟨t, ht⟩
      rw [skipS_rest' hne'] at h
      injection h with h
      obtain ⟨q, hq, hq'⟩ := dropWhile_parts blank l
      rw [h] at hq
      refine ⟨q, hq, fun r' hr' => ?_⟩
      have hd : (q ++ r').dropWhile blank = r' := by
        apply hq'
        cases r' with
        | nil => exact .inl rfl
        | cons c t =>
          refine .inr ⟨c, t, rfl, ?_⟩
          obtain ⟨z, hz⟩ := hr'
          rw [← hz] at h
          exact dropWhile_head h
      rw [skipS_rest', hd]
      intro t ht
      rw [hd] at ht
      obtain ⟨z, hz⟩ := hr'
      rw [ht] at hz
      exact hne' (t ++ z) (by rw [h, ← hz]; rfl)
end Go.Tre
namespace Go.Tre
def skipF : Nat → List UInt8 → Option (List UInt8)
  | 0, _ => none
  | k + 1, l => match l.dropWhile blank with
    | 40 :: 42 :: r => match noteEnd r with
      | none => none
      | some r' => skipF k r'
    | r => some r
theorem skipF_eq : ∀ (k : Nat) (l : List UInt8), l.length < k → skipF k l = skipS l
  | 0, _, h => by omega
  | k + 1, l, h => by
    by_cases hn : ∃ r, l.dropWhile blank = 40 :: 42 :: r
    · obtain ⟨r, hr⟩ := hn
      rw [skipS_note' hr, skipF, hr]
      simp only
      cases hne : noteEnd r with
      | none => rfl
      | some r' =>
        have h1 := noteEnd_len hne
        have h2 := (List.dropWhile_sublist (l := l) blank).length_le
        rw [hr] at h2
        simp only [List.length_cons] at h2
        exact skipF_eq k r' (by omega)
    · have hn' : ∀ r, l.dropWhile blank ≠ 40 :: 42 :: r := fun r hr => hn ⟨r, hr⟩
      rw [skipS_rest' hn', skipF]
      split
      · rename_i r hr; exact absurd hr (hn' r)
      · rfl
def allF : Nat → Nat → List UInt8 → Option (List Tok)
  | 0, _, _ => none
  | k + 1, N, l => match skipF (l.length + 1) l with
    | none => none
    | some [] => some [⟨0, N, 0, []⟩]
    | some (c :: r) => match nextS (c :: r) with
      | none => none
      | some (t, n) => (allF k N ((c :: r).drop n)).map fun ts => { t with at_ := N - (c :: r).length } :: ts
theorem allF_eq : ∀ (k N : Nat) (l : List UInt8), l.length < k → allF k N l = allS N l
  | 0, _, _, h => by omega
  | k + 1, N, l, h => by
    rw [allS_eq, allF, skipF_eq _ l (Nat.lt_succ_self _)]
    cases hs : skipS l with
    | none => rfl
    | some r =>
      have hrl := skipS_len hs
      cases r with
      | nil => rfl
      | cons c r =>
        simp only
        cases hn : nextS (c :: r) with
        | none => rfl
        | some q =>
          obtain ⟨t, n⟩ := q
          have hnl := nextS_len hn
          simp only
          rw [allF_eq k N ((c :: r).drop n) (by rw [List.length_drop]; omega)]
/-- by reckoning -/
theorem lexS_of {l : List UInt8} {ts : List Tok} (h : allF (l.length + 1) l.length l = some ts) (hl : l.length ≤ 65536) : lexS l = some ts := by
  unfold lexS
  rw [if_pos hl, ← allF_eq _ _ l (Nat.lt_succ_self _), h]
end Go.Tre
