/- Names and words: lex.goes, lex.word, and the reference's letter, digit, small, word. -/
import Derived.Test.YtlkfhbmjemjohaaRows
import Derived.Test.YtlkfhbmjemjohaaRep
import Derived.WalkSpells
import Derived.WalkLawsBesides
namespace Go.Tre
/-- may a byte go on a word, or begin one? -/
def goesB (c : Int) (b : Bool) : Bool := if (48 ≤ c ∧ c ≤ 57) ∨ (65 ≤ c ∧ c ≤ 90) then !b else decide ((97 ≤ c ∧ c ≤ 122) ∨ c = 95)
def wordFrom (b : Bool) : List UInt8 → Nat
  | [] => 0
  | c :: r => if goesB c.toNat b then 1 + wordFrom false r else 0
def wordLen (s : ByteArray) : Nat := wordFrom true s.data.toList
end Go.Tre
namespace Go.Proofs.Ytlkfhbmjemjohaa.lex
open Go.RowKit Go.Tre

theorem ret_int {k : IntKind} {a b : Int} (h : a = b) : Ending.returned (.int k a) = .returned (.int k b) := by rw [h]
theorem nat_beq0 (k : Nat) : ((k : Int) == 0) = (k == 0) := by
  cases k
  · rfl
  · simp; omega
theorem drop_at (s : ByteArray) (k : Nat) (h : k < s.size) : s.data.toList.drop k = s[k] :: s.data.toList.drop (k + 1) := by
  rw [List.drop_eq_getElem_cons (by simpa using h)]; rfl
theorem ret_bool {x y : Bool} (h : x = y) : Ending.returned (.bool x) = .returned (.bool y) := by rw [h]

set_option maxHeartbeats 1000000 in
theorem goes (c : Int) (b : Bool) (w : World) (h0 : 0 ≤ c) (h1 : c ≤ 255) :
    Calls Try.prog 50 #[.int .u8 c, .bool b] w fun e w' => e = .returned (.bool (goesB c b)) ∧ w = w' := by
  have H : c < 48 ∨ (48 ≤ c ∧ c ≤ 57) ∨ (57 < c ∧ c < 65) ∨ (65 ≤ c ∧ c ≤ 90) ∨ (90 < c ∧ c < 95) ∨ c = 95 ∨ c = 96 ∨ (97 ≤ c ∧ c ≤ 122) ∨ 122 < c := by omega
  cases b
  all_goals
    rcases H with h | ⟨h, h'⟩ | ⟨h, h'⟩ | ⟨h, h'⟩ | ⟨h, h'⟩ | rfl | rfl | ⟨h, h'⟩ | h
    all_goals
      go_enter Try.func50, Try.ntmps50
      go_wp2_with fail
      go_ret
      refine ⟨ret_bool ?_, rfl⟩
      unfold goesB
      simp
      try omega

set_option maxHeartbeats 1000000 in
theorem word (s : ByteArray) (w : World) (hs : s.size ≤ 8388608) :
    Calls Try.prog 48 #[.string s] w fun e w' => e = .returned (.int .i64 (wordLen s)) ∧ w = w' := by
  go_enter Try.func48, Try.ntmps48
  go_wp2_with fail
  go_loop [3] (fun n => ∃ k : Nat, k ≤ s.size ∧ n = .int .i64 k ∧ wordLen s = k + wordFrom (k == 0) (s.data.toList.drop k)) (fun n => s.size - (intOf n).toNat)
  case atStart => exact ⟨0, Nat.zero_le _, rfl, by simp [wordLen]⟩
  case round =>
    obtain ⟨k, hk, rfl, hrel⟩ := hrel
    have HR := Tre.hid hrel
    clear hrel
    by_cases hlt : k < s.size
    · have hd : s.data.toList.drop k = s[k] :: s.data.toList.drop (k + 1) := drop_at s k hlt
      have h255 := s[k].toNat_lt
      by_cases hg : goesB s[k].toNat ((k : Int) == 0) = true
      · have HW : Hid (wordLen s = (k + 1 : Nat) + wordFrom ((k + 1 : Nat) == 0) (s.data.toList.drop (k + 1))) := by
          show _ = _
          rw [HR.out, hd, wordFrom, ← nat_beq0, if_pos hg, show (k + 1 == 0) = false from rfl]; omega
        clear hd
        go_wp2_with (go_at_call 50; refine (goes _ _ _ (by omega) (by omega)).mono ?_; rintro e w' ⟨rfl, rfl⟩)
        go_round
        case rel => exact ⟨k + 1, by omega, rfl, HW.out⟩
        case measure => simp [intOf]; omega
      · have hg' : goesB s[k].toNat ((k : Int) == 0) = false := by simpa using hg
        have HW : Hid (wordLen s = k) := by
          show _ = _
          rw [HR.out, hd, wordFrom, ← nat_beq0, if_neg (by simpa using hg)]; omega
        clear hd hg
        go_wp2_with (go_at_call 50; refine (goes _ _ _ (by omega) (by omega)).mono ?_; rintro e w' ⟨rfl, rfl⟩)
        go_ret
        exact ⟨ret_int (by rw [HW.out]), rfl⟩
    · have HW : Hid (wordLen s = k) := by
        show _ = _
        rw [HR.out, List.drop_of_length_le (by simp; omega)]; rfl
      go_wp2_with fail
      go_ret
      exact ⟨ret_int (by rw [HW.out]), rfl⟩
end Go.Proofs.Ytlkfhbmjemjohaa.lex
