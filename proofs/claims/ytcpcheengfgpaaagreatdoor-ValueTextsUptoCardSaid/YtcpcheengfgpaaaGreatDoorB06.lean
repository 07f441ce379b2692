/- Plain: a number's text is one token, a minus ahead another one. The lexer's walks: rest, fail. The lexer's contracts of library calls, in the words of the plain lexer; what an error is in memory. lex.(*lexer).skip: blanks and notes. strings.Builder: copyCheck, WriteString, String, at a builder of the call's own. -/
import Derived.Test.YtcpcheengfgpaaaGreatDoorB05
import Derived.Lib.ItoaNum
import Derived.Lib.ItoaLen
import Derived.Test.YtcpcheengfgpaaaGreatDoorB04
import Derived.Test.YtcpcheengfgpaaaGreatDoorB01
import Derived.Deep.DeepCutAuto
import Derived.Deep.RegionHeld3
import Derived.Deep.RegionWith
import Derived.Test.YtcpcheengfgpaaaGreatDoorB00
import Derived.Shelf.Strings.SlTrimAscii
import Derived.Lib.Index
import Derived.Deep.LoopGhost
import Derived.Test.YtcpcheengfgpaaaGreatDoorShelf
import Derived.Lib.Builder
import Derived.Lib.AppendStr
import Derived.WalkSpells
import Derived.Shelf.Strings.Builder1
set_option linter.unusedVariables false
namespace Go.Tre
open Go.Lib (decDigits itoa)
theorem decDigits_dig : ∀ (u : Nat), ∀ c ∈ decDigits u, isDig c = true := by
  intro u
  induction u using Nat.strongRecOn with
  | _ u ih =>
    intro c hc
    have key : ∀ k, k < 10 → isDig (UInt8.ofNat (48 + k)) = true := by decide
    rw [decDigits] at hc
    split at hc
    · rename_i h
      rw [List.mem_singleton.1 hc]
      exact key u h
    · rename_i h
      rcases List.mem_append.1 hc with hc | hc
      · exact ih (u / 10) (by omega) c hc
      · rw [List.mem_singleton.1 hc]
        exact key (u % 10) (by omega)
theorem decDigits_val (u : Nat) : digitsVal (decDigits u) = u := by
  induction u using Nat.strongRecOn with
  | _ u ih =>
    have key : ∀ k, k < 10 → (UInt8.ofNat (48 + k)).toNat - 48 = k := by decide
    rw [decDigits]
    split
    · rename_i h
      unfold digitsVal
      rw [List.foldl_cons, List.foldl_nil, key u h]; omega
    · rename_i h
      have h1 := ih (u / 10) (by omega)
      unfold digitsVal at h1 ⊢
      rw [List.foldl_append, h1, List.foldl_cons, List.foldl_nil, key (u % 10) (by omega)]
      omega
theorem decDigits_ne (u : Nat) : decDigits u ≠ [] := by
  rw [decDigits]
  split
  · simp
  · simp
theorem isDig_facts {c : UInt8} (h : isDig c = true) : blank c = false ∧ c ≠ 40 ∧ c ≠ 39 ∧ c ≠ 62 ∧ goesB c.toNat true = false := by
  unfold isDig at h
  simp only [Bool.and_eq_true, decide_eq_true_eq] at h
  refine ⟨?_, ?_, ?_, ?_, ?_⟩
  · cases hb : blank c with
    | false => rfl
    | true =>
      exfalso
      simp [blank] at hb
      rcases hb with ((rfl | rfl) | rfl) | rfl <;> (revert h; decide)
  · rintro rfl; revert h; decide
  · rintro rfl; revert h; decide
  · rintro rfl; revert h; decide
  · unfold goesB
    rw [if_pos (.inl ⟨by omega, by omega⟩)]; rfl
theorem takeWhile_all {p : UInt8 → Bool} : ∀ {l : List UInt8}, (∀ c ∈ l, p c = true) → l.takeWhile p = l
  | [], _ => rfl
  | c :: l, h => by rw [List.takeWhile_cons, if_pos (h c (by simp)), takeWhile_all (fun d hd => h d (by simp [hd]))]
theorem skipS_plain {c : UInt8} {r : List UInt8} (h1 : blank c = false) (h2 : c ≠ 40) : skipS (c :: r) = some (c :: r) := by
  have hd : (c :: r).dropWhile blank = c :: r := by rw [List.dropWhile_cons, if_neg (by rw [h1]; decide)]
  rw [skipS_rest', hd]
  intro t ht
  rw [hd] at ht
  injection ht with ht
  exact h2 ht
theorem nextS_dec (u : Nat) : nextS (decDigits u) = if u ≤ 9223372036854775807 then some (⟨3, 0, u, []⟩, (decDigits u).length) else none := by
  have hd := decDigits_dig u
  have hv := decDigits_val u
  have hn := decDigits_ne u
  revert hd hv hn
  generalize decDigits u = l
  intro hd hv hn
  cases l with
  | nil => exact absurd rfl hn
  | cons c r =>
    obtain ⟨f1, f2, f3, f4, f5⟩ := isDig_facts (hd c (by simp))
    have hw : wordFrom true (c :: r) = 0 := by
      unfold wordFrom
      rw [if_neg (by rw [f5]; decide)]
    unfold nextS
    rw [hw, if_neg (by omega)]
    simp only
    rw [if_neg f3, if_pos (hd c (by simp)), takeWhile_all hd, hv]
theorem allS_dec (u N : Nat) (h : u ≤ 9223372036854775807) : allS N (decDigits u) = some [⟨3, N - (decDigits u).length, u, []⟩, ⟨0, N, 0, []⟩] := by
  have hn := nextS_dec u
  rw [if_pos h] at hn
  have hd := decDigits_dig u
  have hne := decDigits_ne u
  revert hn hd hne
  generalize decDigits u = l
  intro hn hd hne
  cases l with
  | nil => exact absurd rfl hne
  | cons c r =>
    obtain ⟨f1, f2, f3, f4, f5⟩ := isDig_facts (hd c (by simp))
    rw [allS_eq, skipS_plain f1 f2]
    simp only
    rw [hn]
    simp only
    rw [List.drop_length, allS_eq, skipS_nil]
    simp
theorem allS_dec_no (u N : Nat) (h : ¬ u ≤ 9223372036854775807) : allS N (decDigits u) = none := by
  have hn := nextS_dec u
  rw [if_neg h] at hn
  have hd := decDigits_dig u
  have hne := decDigits_ne u
  revert hn hd hne
  generalize decDigits u = l
  intro hn hd hne
  cases l with
  | nil => exact absurd rfl hne
  | cons c r =>
    obtain ⟨f1, f2, f3, f4, f5⟩ := isDig_facts (hd c (by simp))
    rw [allS_eq, skipS_plain f1 f2]
    simp only
    rw [hn]
theorem allS_minus (u N : Nat) : allS N (45 :: decDigits u) = (allS N (decDigits u)).map fun ts => ⟨6, N - ((decDigits u).length + 1), 0, [45]⟩ :: ts := by
  have hd := decDigits_dig u
  have hne := decDigits_ne u
  revert hd hne
  generalize decDigits u = l
  intro hd hne
  cases l with
  | nil => exact absurd rfl hne
  | cons c r =>
    obtain ⟨f1, f2, f3, f4, f5⟩ := isDig_facts (hd c (by simp))
    have hn : nextS (45 :: c :: r) = some (⟨6, 0, 0, [45]⟩, 1) := by
      unfold nextS
      rw [if_neg (by unfold wordFrom; rw [if_neg (by decide)]; omega)]
      simp only
      rw [if_neg (by decide), if_neg (by decide), if_neg (by decide)]
      have : (symbolsS.find? fun x => x.isPrefixOf (45 :: c :: r)) = some [45] := by
        have h62 : ((62 : UInt8) == c) = false := by rw [beq_eq_false_iff_ne]; exact fun e => f4 e.symm
        simp [symbolsS, List.isPrefixOf, h62]
      rw [this]; rfl
    rw [allS_eq, skipS_plain (by decide) (by decide)]
    simp only
    rw [hn]
    rfl
theorem dec_len (u : Nat) (h : u ≤ 9223372036854775808) : (decDigits u).length ≤ 30 := by
  rw [Lib.decDigits_length]
  have := Lib.nDigits_le20 u (by omega)
  omega
/-- a number's text -/
theorem lex_nonneg (u : Nat) (h : u ≤ 9223372036854775807) : lexS (decDigits u) = some [⟨3, 0, u, []⟩, ⟨0, (decDigits u).length, 0, []⟩] := by
  unfold lexS
  rw [if_pos (by have := dec_len u (by omega); omega), allS_dec u _ h, Nat.sub_self]
theorem lex_neg (u : Nat) (h : u ≤ 9223372036854775807) : ∃ t1 t2 t3, lexS (45 :: decDigits u) = some [t1, t2, t3] ∧ t1.s = [45] := by
  refine ⟨⟨6, 0, 0, [45]⟩, ⟨3, 1, u, []⟩, ⟨0, (decDigits u).length + 1, 0, []⟩, ?_, rfl⟩
  unfold lexS
  rw [if_pos (by have := dec_len u (by omega); rw [List.length_cons]; omega), allS_minus, allS_dec u _ h, List.length_cons, Nat.add_sub_cancel_left, Nat.sub_self]
  rfl
theorem lex_least : lexS (45 :: decDigits 9223372036854775808) = none := by
  unfold lexS
  rw [allS_minus, allS_dec_no _ _ (by omega)]
  split <;> rfl
theorem alive_true : lexS [116, 114, 117, 101] = some [⟨2, 0, 0, [116, 114, 117, 101]⟩, ⟨0, 4, 0, []⟩] := lexS_of (by decide) (by decide)
theorem alive_false : lexS [102, 97, 108, 115, 101] = some [⟨2, 0, 0, [102, 97, 108, 115, 101]⟩, ⟨0, 5, 0, []⟩] := lexS_of (by decide) (by decide)
end Go.Tre
namespace Go.Tre
open Go.RowKit
/-- a lexer in the memory: its text, how far it has come -/
structure LexAt (b : Nat) (s : ByteArray) (k : Nat) (w : World) : Prop where
  text : w.cell? ⟨b, 0, none⟩ = some (.string s)
  place : w.cell? ⟨b, 1, none⟩ = some (.int .i64 (k : Int))
theorem LexAt.below {b : Nat} {s : ByteArray} {k : Nat} {w w' : World} (h : LexAt b s k w) (hb : Below w.heap.size w w') : LexAt b s k w' :=
  ⟨cell_below hb h.text, cell_below hb h.place⟩
end Go.Tre
namespace Go.Proofs.YtcpcheengfgpaaaGreatDoor.lex
open Go.RowKit Go.Tre
set_option maxHeartbeats 1000000 in
theorem rest (b : Nat) (s : ByteArray) (k : Nat) (w : World) (h : LexAt b s k w) (hk : k ≤ s.size) (hs : s.size ≤ 8388608) :
    Calls Tryz.prog 31 #[.pointer (some ⟨b, 0, none⟩)] w fun e w' => e = .returned (.string (s.extract k s.size)) ∧ Below w.heap.size w w' := by
  have hk' : (k : Int) ≤ (s.size : Int) := by omega
  have x0 := h.text
  have x1 := h.place
  clear h
  go_enter Tryz.func31, Tryz.ntmps31
  go_wp2_with fail
  go_region_held3 (fun w' => Below w.heap.size w w' ∧ w'.cell? ⟨b, 0, none⟩ = some (.string s) ∧ w'.cell? ⟨b, 1, none⟩ = some (.int .i64 (k : Int)))
    (first | exact ⟨(Below.refl _ _).drew, x0, x1⟩ | go_keep) (fail)
  have hb := (show Below w.heap.size w w.drew ∧ _ from by assumption).1
  have HB := Tre.hid hb
  clear hb
  go_wp2_with fail
  go_ret
  exact ⟨rfl, HB.out⟩
set_option maxHeartbeats 1000000 in
/-- fail: a refusal at the lexer's place -/
theorem fail (b : Nat) (s : ByteArray) (k : Nat) (w : World) (h : LexAt b s k w) :
    Calls Tryz.prog 52 #[.pointer (some ⟨b, 0, none⟩)] w fun e w' => e = .returned (.iface 44 (.pointer (some ⟨w.heap.size, 0, none⟩))) ∧ w' = w.alloc (.cells #[.int .i64 (k : Int), .int .i64 5] 48) := by
  have x0 := h.text
  have x1 := h.place
  clear h
  go_enter Tryz.func52, Tryz.ntmps52
  go_wp2_with fail
  go_ret
  exact ⟨rfl, rfl⟩
end Go.Proofs.YtcpcheengfgpaaaGreatDoor.lex
namespace Go.Tre
open Go.RowKit
theorem noteEnd_none : ∀ {l : List UInt8}, noteEnd l = none → Lib.index l [42, 41] = -1
  | [], _ => by decide
  | [c], _ => by
    unfold Lib.index
    simp [Lib.index]
  | c :: d :: l, h => by
    unfold noteEnd at h
    split at h
    · cases h
    · rename_i hn
      have ih := noteEnd_none h
      unfold Lib.index
      rw [if_neg, ih]
      · rfl
      · intro hp
        simp at hp
        exact hn ⟨hp.1.symm, hp.2.symm⟩
theorem noteEnd_some : ∀ {l r : List UInt8}, noteEnd l = some r → ∃ k : Nat, Lib.index l [42, 41] = (k : Int) ∧ l.drop (k + 2) = r ∧ k + 2 ≤ l.length
  | [], _, h => by cases h
  | [c], _, h => by cases h
  | c :: d :: l, r, h => by
    unfold noteEnd at h
    split at h
    · rename_i hc
      cases h
      refine ⟨0, ?_, rfl, by simp⟩
      unfold Lib.index
      rw [if_pos]
      · rfl
      · simp [hc.1, hc.2]
    · rename_i hn
      obtain ⟨k, h1, h2, h3⟩ := noteEnd_some h
      refine ⟨k + 1, ?_, ?_, ?_⟩
      · unfold Lib.index
        rw [if_neg, h1, if_neg]
        · omega
        · simp
        · intro hp
          simp at hp
          exact hn ⟨hp.1.symm, hp.2.symm⟩
      · simpa using h2
      · simp only [List.length_cons] at h3 ⊢; omega
theorem skipS_note {l r : List UInt8} (h : l.dropWhile blank = 40 :: 42 :: r) : skipS l = (noteEnd r).bind skipS := by
  rw [skipS]
  split
  · rename_i r0 h1
    rw [h] at h1
    cases h1
    split
    · rename_i h2; rw [h2]; rfl
    · rename_i h2; rw [h2]; rfl
  · rename_i hn
    exact absurd h (hn r)
theorem skipS_rest {l : List UInt8} (h : ∀ r, l.dropWhile blank ≠ 40 :: 42 :: r) : skipS l = some (l.dropWhile blank) := by
  rw [skipS]
  split
  · rename_i r0 h1
    exact absurd h1 (h r0)
  · rfl
theorem extract_list (s : ByteArray) (k : Nat) : (s.extract k s.size).data.toList = s.data.toList.drop k := by
  rw [ByteArray.data_extract, Array.toList_extract]
  have : s.size = s.data.toList.length := rfl
  rw [this, List.extract_eq_take_drop, List.take_of_length_le (by simp)]
theorem blank_set : ([9, 10, 13, 32] : List UInt8).contains = blank := by
  funext c
  rw [Bool.eq_iff_iff]
  simp [Tre.blank, or_assoc]
theorem data_inj' {a b : ByteArray} (h : a.data.toList = b.data.toList) : a = b := ByteArray.ext (Array.toList_inj.1 h)
theorem dropWhile_drop (p : UInt8 → Bool) : ∀ l : List UInt8, l.drop (l.length - (l.dropWhile p).length) = l.dropWhile p
  | [] => rfl
  | c :: l => by
    rw [List.dropWhile_cons]
    split
    · have := dropWhile_drop p l
      have hl := (List.dropWhile_sublist (l := l) p).length_le
      rw [List.length_cons, show l.length + 1 - (l.dropWhile p).length = (l.length - (l.dropWhile p).length) + 1 by omega, List.drop_succ_cons]
      exact this
    · simp
/-- an error that says a place and a number: by itself, or the first of two that are joined -/
def ErrIn (w : World) (bs : List Nat) (v : Value) (at_ no : Nat) : Prop :=
  (∃ p, bs = [p] ∧ v = .iface 44 (.pointer (some ⟨p, 0, none⟩)) ∧ w.heap[p]? = some (.cells #[.int .i64 at_, .int .i64 no] 48 (0, 0))) ∨
  (∃ p q r t x c, bs = [p, q, r] ∧ v = .iface 155 (.pointer (some ⟨q, 0, none⟩)) ∧ w.heap[p]? = some (.cells #[.int .i64 at_, .int .i64 no] 48 (0, 0)) ∧
    w.heap[q]? = some (.cells #[.slice (some ⟨r, 0, none⟩) 2 c] t (0, 0)) ∧ (∃ t' cs fz, w.heap[r]? = some (.cells cs t' fz) ∧ cs[0]? = some (.iface 44 (.pointer (some ⟨p, 0, none⟩))) ∧ cs[1]? = some x) ∧ 2 ≤ c)
def errR (bs : List Nat) (v : Value) (at_ no : Nat) : Res where
  own b := b ∈ bs
  P w := ErrIn w bs v at_ no
  stable w w' h hs := by
    rcases h with ⟨p, rfl, rfl, h1⟩ | ⟨p, q, r, t, x, c, rfl, rfl, h1, h2, ⟨t', cs, fz, h3, h4⟩, h5⟩
    · exact .inl ⟨p, rfl, rfl, (hs p (by simp)).trans h1⟩
    · exact .inr ⟨p, q, r, t, x, c, rfl, rfl, (hs p (by simp)).trans h1, (hs q (by simp)).trans h2, ⟨t', cs, fz, (hs r (by simp)).trans h3, h4⟩, h5⟩
  has w h b hb := by
    rcases h with ⟨p, rfl, rfl, h1⟩ | ⟨p, q, r, t, x, c, rfl, rfl, h1, h2, ⟨t', cs, fz, h3, h4⟩, h5⟩
    · simp at hb; subst hb; exact (Array.getElem?_eq_some_iff.1 h1).1
    · simp at hb
      rcases hb with rfl | rfl | rfl
      · exact (Array.getElem?_eq_some_iff.1 h1).1
      · exact (Array.getElem?_eq_some_iff.1 h2).1
      · exact (Array.getElem?_eq_some_iff.1 h3).1
/-- the lexer itself -/
abbrev lexR (b : Nat) (s : ByteArray) (k : Nat) : Res := cellsR b 64 #[.string s, .int .i64 (k : Int)]
theorem lexAt {w0 w : World} {rs : List Res} {b : Nat} {s : ByteArray} {k : Nat} (h : Mem w0 w rs) (i : Nat) (hi : rs[i]? = some (lexR b s k)) : LexAt b s k w := by
  obtain ⟨h0, h1⟩ := h.two i hi
  exact ⟨h0, h1⟩
end Go.Tre
namespace Go.Proofs.YtcpcheengfgpaaaGreatDoor.lex
open Go.RowKit Go.Tre
theorem rest_is (b : Nat) (s : ByteArray) (k : Nat) (x : ByteArray) (w : World) (h : LexAt b s k w) (hk : k ≤ s.size) (hs : s.size ≤ 8388608) (hx : x.data.toList = s.data.toList.drop k) :
    Calls Tryz.prog 31 #[.pointer (some ⟨b, 0, none⟩)] w fun e w' => e = .returned (.string x) ∧ Below w.heap.size w w' := by
  rw [show x = s.extract k s.size from data_inj' (by rw [hx, extract_list])]
  exact rest b s k w h hk hs
theorem trimBlank (x d : ByteArray) (w : World) (hd : d.data.toList = x.data.toList.dropWhile Tre.blank) :
    Calls Tryz.prog 49 #[.string x, .string ⟨#[9, 10, 13, 32]⟩] w fun e w' => e = .returned (.string d) ∧ Below w.heap.size w w' := by
  refine (Any.strings_TrimLeft_laid Tryz.lays161 (by kernel_rfl) x ⟨#[9, 10, 13, 32]⟩ w (by decide) (ascii_of_all (by decide))).mono ?_
  rintro e w' ⟨rfl, hb⟩
  refine ⟨?_, hb⟩
  rw [show d = ⟨(Lib.trimLeftS x.data.toList [9, 10, 13, 32]).toArray⟩ from data_inj' (by rw [hd]; unfold Lib.trimLeftS; rw [← blank_set])]
theorem cutNote (d n : ByteArray) (is : Bool) (w : World) (h1 : Lib.hasPrefix d.data.toList [40, 42] = is) (h2 : n.data.toList = Lib.trimPrefix d.data.toList [40, 42]) :
    Calls Tryz.prog 50 #[.string d, .string ⟨#[40, 42]⟩] w fun e w' => e = .returned (.tuple #[.string n, .bool is]) ∧ w = w' := by
  refine (Tryz.strings_CutPrefix d ⟨#[40, 42]⟩ w).mono ?_
  rintro e w' ⟨rfl, rfl⟩
  refine ⟨?_, rfl⟩
  rw [show n = ⟨(Lib.trimPrefix d.data.toList [40, 42]).toArray⟩ from data_inj' (by rw [h2]), ← h1]
theorem indexEnd (n : ByteArray) (i : Int) (w : World) (hs : n.size < 4294967281) (hm : MaxAt w) (h : Lib.index n.data.toList [42, 41] = i) :
    Calls Tryz.prog 51 #[.string n, .string ⟨#[42, 41]⟩] w fun e w' => e = .returned (.int .i64 i) ∧ w = w' := by
  obtain ⟨m, hm⟩ := hm
  refine (Tryz.strings_Index n ⟨#[42, 41]⟩ m w hs hm).mono ?_
  rintro e w' ⟨rfl, rfl⟩
  exact ⟨by rw [← h], rfl⟩
end Go.Proofs.YtcpcheengfgpaaaGreatDoor.lex
namespace Go.Proofs.YtcpcheengfgpaaaGreatDoor.lex
open Go.RowKit Go.Tre
def SkipPost (w0 : World) (rs : List Res) (b : Nat) (s : ByteArray) (D : Option (List UInt8)) (e : Ending) (w' : World) : Prop :=
  (∃ k' : Nat, k' ≤ s.size ∧ D = some (s.data.toList.drop k') ∧ e = .returned .nilIface ∧ Mem w0 w' (lexR b s k' :: rs)) ∨
  (D = none ∧ ∃ v bs, ∃ k' : Nat, k' ≤ s.size ∧ e = .returned v ∧ Mem w0 w' (errR bs v k' 5 :: lexR b s k' :: rs))
theorem skip_end {w0 w : World} {rs : List Res} {b : Nat} {s d : ByteArray} {k k1 : Nat} (hk1 : k1 = s.size - d.size) (hD : skipS (s.data.toList.drop k) = some (s.data.toList.drop k1)) (hM : Mem w0 w (lexR b s k1 :: rs)) : SkipPost w0 rs b s (skipS (s.data.toList.drop k)) (.returned .nilIface) w :=
  .inl ⟨k1, by omega, hD, rfl, hM⟩
theorem errNew {w0 w : World} {rs : List Res} {k : Nat} (h : Mem w0 w rs) : Mem w0 (w.alloc (.cells #[.int .i64 (k : Int), .int .i64 5] 48)) (errR [w.heap.size] (.iface 44 (.pointer (some ⟨w.heap.size, 0, none⟩))) k 5 :: rs) :=
  (h.allocR #[.int .i64 (k : Int), .int .i64 5] 48).as_ 0 rfl _ (fun hp => .inl ⟨_, rfl, rfl, hp⟩) (fun b hb => List.mem_singleton.1 hb)

set_option maxRecDepth 100000 in
set_option maxHeartbeats 8000000 in
theorem skip (w0 : World) (rs : List Res) (b : Nat) (s : ByteArray) (k0 : Nat) (w : World) (h : Mem w0 w (lexR b s k0 :: rs)) (hk0 : k0 ≤ s.size) (hs : s.size ≤ 4194304) (hm : MaxAt w0) :
    Calls Tryz.prog 30 #[.pointer (some ⟨b, 0, none⟩)] w (SkipPost w0 rs b s (skipS (s.data.toList.drop k0))) := by
  have HM0 := Tre.hid h
  have HMX := Tre.hid hm
  obtain ⟨D, hD⟩ : ∃ D, Hid (skipS (s.data.toList.drop k0) = D) := ⟨_, rfl⟩
  rw [hD.out]
  clear h hm
  go_enter Tryz.func30, Tryz.ntmps30
  go_wp2_with fail
  go_loopg [3] (s.size - k0) (fun gk v3 wr => ∃ (u3 : Value) (k : Nat), v3 = u3 ∧ Hid (skipS (s.data.toList.drop k) = D ∧ gk = s.size - k) ∧ k ≤ s.size ∧ Hid (Mem w0 wr (lexR b s k :: rs)))
  case atStart => exact ⟨_, k0, rfl, ⟨hD.out, rfl⟩, hk0, HM0.out⟩
  case round =>
    obtain ⟨u3, k, rfl, hI, hk, HM⟩ := hrel
    obtain ⟨x, hx⟩ : ∃ x : ByteArray, Hid (x.data.toList = s.data.toList.drop k) := ⟨s.extract k s.size, extract_list s k⟩
    obtain ⟨d, HD⟩ : ∃ d : ByteArray, Hid (d.data.toList = x.data.toList.dropWhile Tre.blank) := ⟨⟨(x.data.toList.dropWhile Tre.blank).toArray⟩, by show _ = _; simp⟩
    have HX := hx
    have hxs : x.size = s.size - k := by
      have := congrArg List.length hx.out
      simpa using this
    have hds : d.size ≤ x.size := by
      have h1 := congrArg List.length HD.out
      have h2 := (List.dropWhile_sublist (l := x.data.toList) Tre.blank).length_le
      have h3 : d.size = d.data.toList.length := rfl
      have h4 : x.size = x.data.toList.length := rfl
      omega
    have hdk : d.size + k ≤ s.size := by omega
    have HDL : Hid (d.data.toList = s.data.toList.drop (s.size - d.size)) := by
      show _ = _
      have h1 := dropWhile_drop Tre.blank x.data.toList
      rw [← HD.out, HX.out, List.drop_drop] at h1
      have h2 : (s.data.toList.drop k).length - d.data.toList.length + k = s.size - d.size := by
        have h4 : (s.data.toList.drop k).length = s.size - k := by simp
        have h3 : d.size = d.data.toList.length := rfl
        omega
      rw [Nat.add_comm, h2] at h1
      exact h1.symm
    have HWR : Hid (IntKind.i64.wrap ((s.size : Int) - (d.size : Int)) = (s.size : Int) - (d.size : Int)) := IntWalk.i64_in _ (by omega)
    clear hxs hds hx
    go_wp2_with fail
    refine wp_region_keep (S := (fun w' => w'.cell? ⟨b, 0, none⟩ = some (.string s))) [13] (by kernel_rfl) ?_ (fun hH0 => ?_)
    · exact (lexAt HM.out 0 rfl).text
    have H0 := Tre.hid HM.out.drew
    generalize hq : wr.drew = wq0 at H0 hH0 ⊢
    clear hq
    refine lPure (i := 0) (some 6) (v := ?_) (by rfl) (by kernel_rfl) (by kernel_rfl) (by kernel_rfl) (by kernel_rfl) (fun _ _ _ h => h) (by rfl) ?_ (keep_of hH0) ?_
    rotate_left
    · intro w; simp only [List.getElem?_toArray, List.getElem?_cons_zero, Option.map_some, Option.some.injEq]; (first | (go_simp; done) | (go_simp; with_reducible rfl))
    try simp only [Act.put, List.setIfInBounds_toArray, List.set_cons_zero, List.set_cons_succ]
    refine lPure (i := 1) (some 7) (v := ?_) (by rfl) (by kernel_rfl) (by kernel_rfl) (by kernel_rfl) (by kernel_rfl) (fun _ _ _ h => h) (by rfl) ?_ (keep_of hH0) ?_
    rotate_left
    · intro w; simp only [List.getElem?_toArray, List.getElem?_cons_succ, List.getElem?_cons_zero, Option.map_some, Option.some.injEq]; (first | (go_simp; done) | (go_simp; with_reducible rfl))
    try simp only [Act.put, List.setIfInBounds_toArray, List.set_cons_zero, List.set_cons_succ]
    refine lPure (i := 2) (some 8) (v := ?_) (by rfl) (by kernel_rfl) (by kernel_rfl) (by kernel_rfl) (by kernel_rfl) (fun _ _ _ h => h) (by rfl) ?_ (keep_of hH0) ?_
    rotate_left
    · intro w; simp only [List.getElem?_toArray, List.getElem?_cons_succ, List.getElem?_cons_zero, Option.map_some, Option.some.injEq]; (first | (go_simp; done) | (go_simp; with_reducible rfl))
    try simp only [Act.put, List.setIfInBounds_toArray, List.set_cons_zero, List.set_cons_succ]
    refine lPure (i := 3) (some 9) (v := ?_) (by rfl) (by kernel_rfl) (by kernel_rfl) (by kernel_rfl) (by kernel_rfl) (fun _ _ _ h => h) (by rfl) ?_ (keep_of hH0) ?_
    rotate_left
    · intro w; simp only [List.getElem?_toArray, List.getElem?_cons_succ, List.getElem?_cons_zero, Option.map_some, Option.some.injEq]; (first | (go_simp; done) | (go_simp; with_reducible rfl))
    try simp only [Act.put, List.setIfInBounds_toArray, List.set_cons_zero, List.set_cons_succ]
    refine lPure (i := 6) (some 12) (v := ?_) (by rfl) (by kernel_rfl) (by kernel_rfl) (by kernel_rfl) (by kernel_rfl) (fun _ _ _ h => h) (by rfl) ?_ (keep_of hH0) ?_
    rotate_left
    · intro w; simp only [List.getElem?_toArray, List.getElem?_cons_succ, List.getElem?_cons_zero, Option.map_some, Option.some.injEq]; (first | (go_simp; done) | (go_simp; with_reducible rfl))
    try simp only [Act.put, List.setIfInBounds_toArray, List.set_cons_zero, List.set_cons_succ]
    refine lTake (i := 4) (some 10) (v := ?_) (by rfl) (by kernel_rfl) (by kernel_rfl) (by kernel_rfl) (by kernel_rfl) (by kernel_rfl) (fun _ _ _ h => h) (by rfl) ?_ hH0 ?_
    rotate_left
    · intro w hSw; (try dsimp only at hSw); simp only [List.getElem?_toArray, List.getElem?_cons_succ, List.getElem?_cons_zero, Option.map_some, Option.some.injEq]; (first | (go_simp; done) | (go_simp; with_reducible rfl))
    try simp only [Act.put, List.setIfInBounds_toArray, List.set_cons_zero, List.set_cons_succ]
    refine lPure (i := 5) (some 11) (v := ?_) (by rfl) (by kernel_rfl) (by kernel_rfl) (by kernel_rfl) (by kernel_rfl) (fun _ _ _ h => h) (by rfl) ?_ (keep_of hH0) ?_
    rotate_left
    · intro w; simp only [List.getElem?_toArray, List.getElem?_cons_succ, List.getElem?_cons_zero, Option.map_some, Option.some.injEq]; (first | (go_simp; done) | (go_simp; with_reducible rfl))
    try simp only [Act.put, List.setIfInBounds_toArray, List.set_cons_zero, List.set_cons_succ]
    refine lOne 7 (by kernel_rfl) (LStep.op (fun K hK => ?_))
    go_simp
    refine (rest_is b s k x wq0 (lexAt H0.out 0 rfl) hk (by omega) HX.out).mono ?_
    rintro e wq1 ⟨rfl, mq⟩
    have H1 := Tre.hid (H0.out.quiet mq)
    clear mq
    (try dsimp only)
    refine hK.out _ _ ?_ (fun hH1 => ?_)
    · exact (lexAt H1.out 0 rfl).text
    clear hK K hH0
    try simp only [Act.put, List.setIfInBounds_toArray, List.set_cons_zero, List.set_cons_succ]
    refine lOne 8 (by kernel_rfl) (LStep.op (fun K hK => ?_))
    go_simp
    refine (trimBlank x d wq1 HD.out).mono ?_
    rintro e wq2 ⟨rfl, mq⟩
    have H2 := Tre.hid (H1.out.quiet mq)
    clear mq
    (try dsimp only)
    refine hK.out _ _ ?_ (fun hH2 => ?_)
    · exact (lexAt H2.out 0 rfl).text
    clear hK K hH1
    try simp only [Act.put, List.setIfInBounds_toArray, List.set_cons_zero, List.set_cons_succ]
    refine lPure (i := 9) (some 15) (v := ?_) (by rfl) (by kernel_rfl) (by kernel_rfl) (by kernel_rfl) (by kernel_rfl) (fun _ _ _ h => h) (by rfl) ?_ (keep_of hH2) ?_
    rotate_left
    · intro w; simp only [List.getElem?_toArray, List.getElem?_cons_succ, List.getElem?_cons_zero, Option.map_some, Option.some.injEq]; (first | (go_simp; done) | (go_simp; with_reducible rfl))
    try simp only [Act.put, List.setIfInBounds_toArray, List.set_cons_zero, List.set_cons_succ]
    refine lPure (i := 10) (some 16) (v := ?_) (by rfl) (by kernel_rfl) (by kernel_rfl) (by kernel_rfl) (by kernel_rfl) (fun _ _ _ h => h) (by rfl) ?_ (keep_of hH2) ?_
    rotate_left
    · intro w; simp only [List.getElem?_toArray, List.getElem?_cons_succ, List.getElem?_cons_zero, Option.map_some, Option.some.injEq]; (first | (go_simp; done) | (go_simp; with_reducible rfl))
    try simp only [Act.put, List.setIfInBounds_toArray, List.set_cons_zero, List.set_cons_succ]
    refine lPure (i := 11) (some 17) (v := ?_) (by rfl) (by kernel_rfl) (by kernel_rfl) (by kernel_rfl) (by kernel_rfl) (fun _ _ _ h => h) (by rfl) ?_ (keep_of hH2) ?_
    rotate_left
    · intro w; simp only [List.getElem?_toArray, List.getElem?_cons_succ, List.getElem?_cons_zero, Option.map_some, Option.some.injEq]; (first | (go_simp; done) | (go_simp; with_reducible rfl))
    try simp only [Act.put, List.setIfInBounds_toArray, List.set_cons_zero, List.set_cons_succ]
    refine lPure (i := 12) (some 18) (v := ?_) (by rfl) (by kernel_rfl) (by kernel_rfl) (by kernel_rfl) (by kernel_rfl) (fun _ _ _ h => h) (by rfl) ?_ (keep_of hH2) ?_
    rotate_left
    · intro w; simp only [List.getElem?_toArray, List.getElem?_cons_succ, List.getElem?_cons_zero, Option.map_some, Option.some.injEq]; (first | (go_simp; done) | (go_simp; with_reducible rfl))
    try simp only [Act.put, List.setIfInBounds_toArray, List.set_cons_zero, List.set_cons_succ]
    refine lOne 13 (by kernel_rfl) (LFall.op (by kernel_rfl) (fun K hK => ?_))
    have f2 := H2.out.free 0 rfl 1
    have q2 := (lexAt H2.out 0 rfl).place
    have H3 := Tre.hid (H2.out.setCell 0 rfl 1 (.int .i64 ((s.size : Int) - (d.size : Int))))
    go_simp
    simp only [HWR.out]
    generalize hw : wq2.setCell ⟨b, 1, none⟩ (.int .i64 ((s.size : Int) - (d.size : Int))) = wq3 at H3 ⊢
    clear hw f2 q2
    refine hK.out _ _ ?_
    clear hK K hH2
    try simp only [Act.put, List.setIfInBounds_toArray, List.set_cons_zero, List.set_cons_succ]
    refine lDone (by kernel_rfl) ?_
    obtain ⟨k1, hk1⟩ : ∃ k1 : Nat, Hid (k1 = s.size - d.size) := ⟨_, rfl⟩
    have hkk : k1 ≤ s.size := by have := hk1.out; omega
    have H4 : Hid (Mem w0 wq3 (lexR b s k1 :: rs)) := by
      have := H3.out
      have e : ((s.size : Int) - (d.size : Int)) = (k1 : Int) := by have := hk1.out; omega
      rw [e] at this
      exact this
    have HDK : Hid (d.data.toList = s.data.toList.drop k1) := by show _ = _; rw [hk1.out]; exact HDL.out
    clear H3
    go_wp2_with fail
    refine (rest_is b s k1 d _ (lexAt H4.out 0 rfl) hkk (by omega) HDK.out).mono ?_
    rintro e w4 ⟨rfl, mq⟩
    have H5 := Tre.hid (H4.out.quiet mq)
    clear mq H4
    obtain ⟨n, HN⟩ : ∃ n : ByteArray, Hid (n.data.toList = Lib.trimPrefix d.data.toList [40, 42]) := ⟨⟨(Lib.trimPrefix d.data.toList [40, 42]).toArray⟩, by show _ = _; simp⟩
    by_cases hn : Lib.hasPrefix d.data.toList [40, 42] = true
    · have HNN := Tre.hid hn
      obtain ⟨r, hr⟩ : ∃ r, Hid (d.data.toList = 40 :: 42 :: r) := by
        obtain ⟨t, ht⟩ := List.isPrefixOf_iff_prefix.1 hn
        exact ⟨t, ht.symm⟩
      have HNR : Hid (n.data.toList = r) := by
        show _ = _
        rw [HN.out]; unfold Lib.trimPrefix; rw [if_pos HNN.out, hr.out]; rfl
      have hns : n.size + 2 = d.size := by
        have h1 := congrArg List.length HNR.out
        have h2 := congrArg List.length hr.out
        have h3 : n.size = n.data.toList.length := rfl
        have h4 : d.size = d.data.toList.length := rfl
        simp only [List.length_cons] at h2
        omega
      have hnl : n.size < 4294967281 := by omega
      have HSK : Hid (D = (noteEnd r).bind skipS) := by
        show _ = _
        rw [← hI.out.1]
        apply skipS_note
        rw [← HX.out, ← HD.out, hr.out]
      have HNS := Tre.hid hns
      clear hn hns
      go_wp2_with fail
      refine (cutNote d n true _ HNN.out HN.out).mono ?_
      rintro e w' ⟨rfl, rfl⟩
      cases hne : noteEnd r with
      | none =>
        have hix := noteEnd_none hne
        rw [← HNR.out] at hix
        have HIX := Tre.hid hix
        have HDN : Hid (D = none) := by show _ = _; rw [HSK.out, hne]; rfl
        clear hix hne
        go_wp2_with fail
        refine (indexEnd n (-1) _ hnl (HMX.out.below H5.out.below) HIX.out).mono ?_
        rintro e w' ⟨rfl, rfl⟩
        go_wp2_with fail
        refine (fail b s k1 _ (lexAt H5.out 0 rfl)).mono ?_
        rintro e w' ⟨rfl, rfl⟩
        have H6 := Tre.hid (errNew (k := k1) H5.out)
        go_wp2_with (fail)
        go_ret
        exact .inr ⟨HDN.out, _, _, k1, hkk, rfl, H6.out⟩
      | some r' =>
        obtain ⟨i, hi1, hi2, hi3⟩ := noteEnd_some hne
        rw [← HNR.out] at hi1
        have hin : i + 2 ≤ n.size := by
          have h3 : n.size = n.data.toList.length := rfl
          rw [h3, HNR.out]; exact hi3
        have HIX := Tre.hid hi1
        have HDN : Hid (D = skipS r') := by show _ = _; rw [HSK.out, hne]; rfl
        have HKE : Hid (s.data.toList.drop (k1 + (i + 4)) = r') := by
          show _ = _
          rw [← List.drop_drop, ← HDK.out, hr.out]
          exact hi2
        have hk2 : k1 + (i + 4) ≤ s.size := by have := HNS.out; have := hk1.out; omega
        have i1 : (0 : Int) ≤ (i : Int) := by omega
        have i2 : (i : Int) ≤ 8388608 := by omega
        clear hi1 hi2 hi3 hne
        go_wp2_with fail
        refine (indexEnd n i _ hnl (HMX.out.below H5.out.below) HIX.out).mono ?_
        rintro e w' ⟨rfl, rfl⟩
        obtain ⟨q0, q1⟩ := H5.out.two 0 rfl
        have f1 := H5.out.free 0 rfl 1
        go_wp2_with fail
        have H6 := Tre.hid (H5.out.setCell 0 rfl 1 (.int .i64 ((k1 : Int) + ((i : Int) + 4))))
        go_roundg (s.size - (k1 + (i + 4)))
        case measure => have h1 := hI.out.2; have := hk1.out; rw [h1]; omega
        case rel =>
          refine ⟨_, k1 + (i + 4), rfl, ⟨?_, rfl⟩, hk2, ?_⟩
          · rw [HKE.out, HDN.out]
          · have := H6.out
            rw [show ((k1 : Int) + ((i : Int) + 4)) = ((k1 + (i + 4) : Nat) : Int) by omega] at this
            exact this
    · have hn' : Lib.hasPrefix d.data.toList [40, 42] = false := by simpa using hn
      have HNN := Tre.hid hn'
      have HSK : Hid (D = some (s.data.toList.drop k1)) := by
        show _ = _
        rw [← hI.out.1, skipS_rest, ← HX.out, ← HD.out, HDK.out]
        intro r hr
        rw [← HX.out, ← HD.out] at hr
        apply hn
        rw [hr]
        exact List.isPrefixOf_iff_prefix.2 ⟨r, rfl⟩
      clear hn hn'
      go_wp2_with fail
      refine (cutNote d n false _ HNN.out HN.out).mono ?_
      rintro e w' ⟨rfl, rfl⟩
      go_wp2_with fail
      go_ret
      exact .inl ⟨k1, hkk, HSK.out, rfl, H5.out⟩
end Go.Proofs.YtcpcheengfgpaaaGreatDoor.lex
namespace Go.Tre
open Go.RowKit
theorem builder_keep {T e : TypeId} {B b : Nat} {bs : List Value} {w w' : World} (h : Lib.IsBuilder T e B b bs w) (hg : w.grownBy w' none) : Lib.IsBuilder T e B b bs w' := by
  have one : ∀ p, Lib.BuilderAt T e B b p bs w → Lib.BuilderAt T e B b p bs w' := fun p k => by
    have hlt := k.lt
    obtain ⟨hB, v, hb, hown, hne⟩ := k
    exact ⟨hB, v, (hg.block b hlt (by simp)).trans hb, hown.kept hg (Decidable.em _), hne⟩
  exact h.elim (fun h => .inl (one _ h)) (fun h => .inr (one _ h))
theorem builder_below {T e : TypeId} {B b : Nat} {bs : List Value} {w w' : World} (h : Lib.IsBuilder T e B b bs w) (hb : Below w.heap.size w w') : Lib.IsBuilder T e B b bs w' := builder_keep h (grown_below hb)
theorem bytes_app (l : List UInt8) (s : ByteArray) : Lib.byteCells l ++ Lib.strCells s = Lib.byteCells (l ++ s.data.toList) := by
  simp [Lib.byteCells, Lib.strCells]
theorem builder_new (w : World) (T e : TypeId) : Lib.IsBuilder T e w.heap.size w.heap.size (Lib.byteCells []) (w.alloc (.cells #[.pointer none, .slice none 0 0] T)) :=
  .inl ⟨Nat.le_refl _, .slice none 0 0, heap_alloc_new w _, World.ownsRow_nil _ _ _ _, by simp [Value.ownBlock]⟩
end Go.Tre
namespace Go.Proofs.YtcpcheengfgpaaaGreatDoor.gr
open Go.RowKit Go.Maps Go.Tre
theorem sizeBuilder : (Tryz.prog.info? 160).map (·.size) = some 2 := by kernel_rfl
theorem liesBuilder : liesAt Tryz.prog Tryz.prog.depth 160 (2 / Tryz.prog.cellsOf 160) 0 160 1 = true := by kernel_rfl
theorem infoU8 : (Tryz.prog.info? 5).map (fun i => (i.zero, i.size, i.bytes)) = some (some (.int .u8 0), 1, 1) := by kernel_rfl

set_option maxHeartbeats 1000000 in
set_option maxRecDepth 100000 in
theorem copyCheck_used (b : Nat) (w : World) (h0 : w.cell? ⟨b, 0, none⟩ = some (.pointer (some ⟨b, 0, none⟩))) :
    Calls Tryz.prog 99 #[.pointer (some ⟨b, 0, none⟩)] w fun e w' => e = .returned (.tuple #[]) ∧ w' = w := by
  obtain ⟨j, hj, _⟩ := Option.map_eq_some_iff.1 sizeBuilder
  go_enter Tryz.func99, Tryz.ntmps99
  go_wp2
  rw [Lib.run_neq_ptr_same w _ Tryz.underlying158 hj]
  go_wp2
  go_end0
  exact ⟨rfl, rfl⟩

set_option maxHeartbeats 1000000 in
set_option maxRecDepth 100000 in
theorem copyCheck_fresh (b : Nat) (w : World) (h0 : w.cell? ⟨b, 0, none⟩ = some (.pointer none)) (hsh : w.shape? b = some (160, 2)) (hfz : w.frozen? ⟨b, 0, none⟩ = false) :
    Calls Tryz.prog 99 #[.pointer (some ⟨b, 0, none⟩)] w fun e w' => e = .returned (.tuple #[]) ∧ w' = w.setCell ⟨b, 0, none⟩ (.pointer (some ⟨b, 0, none⟩)) := by
  obtain ⟨j, hj, hjs⟩ := Option.map_eq_some_iff.1 sizeBuilder
  go_enter Tryz.func99, Tryz.ntmps99
  go_wp2
  rw [Lib.run_to_unsafe w ⟨b, 0, none⟩ Tryz.underlying158 Tryz.underlying69 hj (by rw [hjs]; decide) hsh (Nat.zero_lt_succ 1)]
  simp only [Result.andThen]
  rw [Oper.upon_value]
  go_wp2
  rw [run_callFunc_extern Tryz.func111 (by kernel_rfl) (by kernel_rfl) (by kernel_rfl) (e := Extern.AbiNoEscape.same) (by kernel_rfl)]
  rw [Lib.run_noEscape]
  simp only [Result.andThen]
  rw [Oper.upon_value]
  go_wp2
  rw [Lib.run_from_unsafe w ⟨b, 0, none⟩ Tryz.underlying69 Tryz.underlying158 hj hsh liesBuilder]
  simp only [Result.andThen]
  rw [Oper.upon_value]
  go_wp2
  go_end0
  exact ⟨rfl, rfl⟩

theorem copyCheck (B b : Nat) (bs : List Value) (w : World) (h : Lib.IsBuilder 160 5 B b bs w) :
    Calls Tryz.prog 99 #[.pointer (some ⟨b, 0, none⟩)] w fun e w' => e = .returned (.tuple #[]) ∧ (Lib.BuilderAt 160 5 B b (.pointer (some ⟨b, 0, none⟩)) bs w' ∧ Below B w w') := by
  rcases h with h | h
  · refine (copyCheck_fresh b w h.cell0 h.shape h.frozen0).mono ?_
    rintro e w' ⟨rfl, rfl⟩
    exact ⟨rfl, h.used _, (Below.refl B w).setCell (p := ⟨b, 0, none⟩) h.1 _⟩
  · refine (copyCheck_used b w h.cell0).mono ?_
    rintro e w' ⟨rfl, rfl⟩
    exact ⟨rfl, h, Below.refl B _⟩

theorem builderText (B b : Nat) (l : List UInt8) (w : World) (h : Lib.IsBuilder 160 5 B b (Lib.byteCells l) w) (hBw : B ≤ w.heap.size) :
    Calls Tryz.prog 79 #[.pointer (some ⟨b, 0, none⟩)] w fun e w' => e = .returned (.string ⟨l.toArray⟩) ∧ Below B w w' := Tryz.Builder_String_any B b l w h hBw
end Go.Proofs.YtcpcheengfgpaaaGreatDoor.gr
