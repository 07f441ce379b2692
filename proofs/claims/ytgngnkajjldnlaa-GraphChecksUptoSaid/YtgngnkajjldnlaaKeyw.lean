/- The walks of lex.IsKey, lex.IsName, of the reference's word, IsKey, IsName: one plain function each, the same on both sides. -/
import Derived.Test.YtgngnkajjldnlaaLex
import Derived.Test.YtgngnkajjldnlaaKeys
import Derived.Test.YtgngnkajjldnlaaShelf
namespace Go.Tre
/-- the library's variable holds a number -/
def MaxAt (w : World) : Prop := ∃ m, w.cell? ⟨0, 0, none⟩ = some (.int .i64 m)
theorem MaxAt.below {w w' : World} (h : MaxAt w) (hb : RowKit.Below w.heap.size w w') : MaxAt w' := by
  obtain ⟨m, hm⟩ := h
  exact ⟨m, cell_below hb hm⟩
def isName (s : ByteArray) : Bool := decide (s.size ≠ 0) && decide (s.size ≤ 100) && decide (wordLen s = s.size) && !isKey s
end Go.Tre
namespace Go.Proofs.Ytgngnkajjldnlaa.lex
open Go.RowKit Go.Tre

theorem contains (s sub : ByteArray) (r : Bool) (w : World) (hs : s.size < 4294967281) (hm : MaxAt w) (hr : Lib.contains s.data.toList sub.data.toList = r) :
    Calls Try.prog 55 #[.string s, .string sub] w fun e w' => e = .returned (.bool r) ∧ w = w' := by
  obtain ⟨m, hm⟩ := hm
  refine (Try.strings_Contains s sub m w hs hm).mono ?_
  rintro e w' ⟨rfl, hw⟩
  exact ⟨by rw [hr], hw.symm⟩

theorem isKey_blank {s : ByteArray} (h : (32 : UInt8) ∈ s.data.toList) : isKey s = false := by
  unfold isKey
  rw [← Bool.not_eq_true, List.contains_iff_mem]
  exact fun hm => keyWords_no _ hm _ h rfl
theorem toList_empty {s : ByteArray} : s.data.toList = [] ↔ s.size = 0 := by
  rw [← List.length_eq_zero_iff]; simp
theorem isKey_empty {s : ByteArray} (h : s.size = 0) : isKey s = false := by
  unfold isKey
  rw [toList_empty.2 h]
  decide
theorem app3 (s : ByteArray) : ((⟨#[32]⟩ : ByteArray) ++ s ++ ⟨#[32]⟩).data.toList = 32 :: (s.data.toList ++ [32]) := by
  simp [ByteArray.data_append]

theorem emp1 {s : ByteArray} (h : s.size = 0) : s.toList.isEmpty = true := by rw [ByteArray.toList_eq, toList_empty.2 h]; rfl
theorem emp0 {s : ByteArray} (h : ¬ s.size = 0) : s.toList.isEmpty = false := by
  rw [ByteArray.toList_eq]
  cases hl : s.data.toList with
  | nil => exact absurd (toList_empty.1 hl) h
  | cons a l => rfl
theorem keysText (s : ByteArray) (h : ¬ (32 : UInt8) ∈ s.data.toList) (h0 : ¬ s.size = 0) (K : List UInt8) (hK : K = spaced keyWords) : Lib.contains K ((⟨#[32]⟩ : ByteArray) ++ s ++ ⟨#[32]⟩).data.toList = isKey s := by
  rw [hK, app3]
  exact contains_keys _ h (fun e => h0 (toList_empty.1 e))

set_option maxHeartbeats 1000000 in
theorem isKey_any (s : ByteArray) (w : World) (hs : s.size ≤ 8388608) (hm : MaxAt w) :
    Calls Try.prog 50 #[.string s] w fun e w' => e = .returned (.bool (isKey s)) ∧ w = w' := by
  by_cases h0 : s.size = 0
  · have H := Tre.hid (isKey_empty h0)
    have e0 := emp1 h0
    have e1 : (!s.toList.isEmpty) = false := by rw [e0]; rfl
    clear h0
    go_enter Try.func50, Try.ntmps50
    go_wp2_with fail
    go_ret
    exact ⟨ret_bool H.out.symm, rfl⟩
  · have e0 := emp0 h0
    have e1 : (!s.toList.isEmpty) = true := by rw [e0]; rfl
    have hc := contains_blank s.data.toList
    by_cases hb : (32 : UInt8) ∈ s.data.toList
    · have H := Tre.hid (isKey_blank hb)
      have C : Hid (Lib.contains s.data.toList [32] = true) := by show _ = _; rw [hc]; simp [hb]
      clear hc hb h0
      go_enter Try.func50, Try.ntmps50
      go_wp2_with fail
      refine (contains s _ true _ (by omega) hm C.out).mono ?_
      rintro e w' ⟨rfl, rfl⟩
      go_wp2_with fail
      go_ret
      exact ⟨ret_bool H.out.symm, rfl⟩
    · have C : Hid (Lib.contains s.data.toList [32] = false) := by show _ = _; rw [hc]; simp [hb]
      have KT := Tre.hid (keysText s hb h0)
      clear hc hb h0
      go_enter Try.func50, Try.ntmps50
      go_wp2_with fail
      refine (contains s _ false _ (by omega) hm C.out).mono ?_
      rintro e w' ⟨rfl, rfl⟩
      go_wp2_with fail
      refine (contains _ _ (isKey s) _ ?_ hm (KT.out _ ?_)).mono ?_
      · decide
      · decide
      rintro e w' ⟨rfl, rfl⟩
      go_wp2_with fail
      go_ret
      exact ⟨rfl, rfl⟩

theorem isName_of {s : ByteArray} {b : Bool} (h : (decide (s.size ≠ 0) && decide (s.size ≤ 100) && decide (wordLen s = s.size) && !isKey s) = b) : isName s = b := h
theorem wordFrom_le : ∀ (l : List UInt8) (b : Bool), wordFrom b l ≤ l.length
  | [], _ => Nat.le_refl _
  | c :: r, b => by
    unfold wordFrom
    split
    · have := wordFrom_le r false; simp; omega
    · simp
theorem wordLen_le (s : ByteArray) : wordLen s ≤ s.size := by have := wordFrom_le s.data.toList true; simpa [wordLen] using this

set_option maxHeartbeats 1000000 in
theorem isName_any (s : ByteArray) (w : World) (hs : s.size ≤ 8388608) (hm : MaxAt w) :
    Calls Try.prog 46 #[.string s] w fun e w' => e = .returned (.bool (isName s)) ∧ w = w' := by
  by_cases h0 : s.size = 0
  · have H : Hid (isName s = false) := isName_of (by simp [h0])
    have e0 := emp1 h0
    have e1 : (!s.toList.isEmpty) = false := by rw [e0]; rfl
    clear h0
    go_enter Try.func46, Try.ntmps46
    go_wp2_with fail
    go_ret
    exact ⟨ret_bool H.out.symm, rfl⟩
  · have e0 := emp0 h0
    have e1 : (!s.toList.isEmpty) = true := by rw [e0]; rfl
    by_cases h1 : s.size ≤ 100
    · by_cases h2 : wordLen s = s.size
      · have H : Hid (isName s = !isKey s) := isName_of (by simp [h0, h1, h2])
        have e2 : ((wordLen s : Int) == (s.size : Int)) = true := by rw [h2]; simp
        clear h0 h2
        go_enter Try.func46, Try.ntmps46
        go_wp2_with fail
        refine (word s _ hs).mono ?_
        rintro e w' ⟨rfl, rfl⟩
        go_wp2_with fail
        refine (isKey_any s _ hs hm).mono ?_
        rintro e w' ⟨rfl, rfl⟩
        go_wp2_with fail
        go_ret
        exact ⟨ret_bool H.out.symm, rfl⟩
      · have H : Hid (isName s = false) := isName_of (by simp [h2])
        have e2 : ((wordLen s : Int) == (s.size : Int)) = false := by simp; omega
        clear h0 h2
        go_enter Try.func46, Try.ntmps46
        go_wp2_with fail
        refine (word s _ hs).mono ?_
        rintro e w' ⟨rfl, rfl⟩
        go_wp2_with fail
        go_ret
        exact ⟨ret_bool H.out.symm, rfl⟩
    · have H : Hid (isName s = false) := isName_of (by simp [h1])
      clear h0
      go_enter Try.func46, Try.ntmps46
      go_wp2_with fail
      go_ret
      exact ⟨ret_bool H.out.symm, rfl⟩

theorem b0 (u : UInt8) : (0 : Int) ≤ u.toNat := Int.natCast_nonneg _
theorem b255 (u : UInt8) : (u.toNat : Int) ≤ 255 := by have := u.toNat_lt; omega
/-! the reference's -/
set_option maxHeartbeats 1000000 in
theorem small (c : Int) (r : Bool) (w : World) (h0 : 0 ≤ c) (h1 : c ≤ 255) (hr : Hid (goesB c true = r)) :
    Calls Try.prog 51 #[.int .u8 c] w fun e w' => e = .returned (.bool r) ∧ w = w' := by
  have H : c < 95 ∨ c = 95 ∨ c = 96 ∨ (97 ≤ c ∧ c ≤ 122) ∨ 122 < c := by omega
  rcases H with h | rfl | rfl | ⟨h, h'⟩ | h
  all_goals
    go_enter Try.func51, Try.ntmps51
    go_wp2_with fail
    go_ret
    refine ⟨ret_bool ?_, rfl⟩
    rw [← hr.out]
    unfold goesB
    first | (simp; done) | (rw [Bool.eq_iff_iff]; simp; omega)

def letterB (c : Int) : Bool := decide ((97 ≤ c ∧ c ≤ 122) ∨ (65 ≤ c ∧ c ≤ 90) ∨ c = 95)
def digitB (c : Int) : Bool := decide (48 ≤ c ∧ c ≤ 57)
set_option maxHeartbeats 1000000 in
theorem letter (c : Int) (w : World) (h0 : 0 ≤ c) (h1 : c ≤ 255) :
    Calls Try.prog 52 #[.int .u8 c] w fun e w' => e = .returned (.bool (letterB c)) ∧ w = w' := by
  have H : c < 65 ∨ (65 ≤ c ∧ c ≤ 90) ∨ (90 < c ∧ c < 95) ∨ c = 95 ∨ c = 96 ∨ (97 ≤ c ∧ c ≤ 122) ∨ 122 < c := by omega
  rcases H with h | ⟨h, h'⟩ | ⟨h, h'⟩ | rfl | rfl | ⟨h, h'⟩ | h
  all_goals
    go_enter Try.func52, Try.ntmps52
    go_wp2_with fail
    go_ret
    refine ⟨ret_bool ?_, rfl⟩
    unfold letterB
    first | (simp; done) | (rw [Bool.eq_iff_iff]; simp; omega)
set_option maxHeartbeats 1000000 in
theorem digit (c : Int) (w : World) (h0 : 0 ≤ c) (h1 : c ≤ 255) :
    Calls Try.prog 53 #[.int .u8 c] w fun e w' => e = .returned (.bool (digitB c)) ∧ w = w' := by
  have H : c < 48 ∨ (48 ≤ c ∧ c ≤ 57) ∨ 57 < c := by omega
  rcases H with h | ⟨h, h'⟩ | h
  all_goals
    go_enter Try.func53, Try.ntmps53
    go_wp2_with fail
    go_ret
    refine ⟨ret_bool ?_, rfl⟩
    unfold digitB
    first | (simp; done) | (rw [Bool.eq_iff_iff]; simp; omega)
theorem goes_ld (c : Int) : goesB c false = (letterB c || digitB c) := by
  unfold goesB letterB digitB
  by_cases h : (48 ≤ c ∧ c ≤ 57) ∨ (65 ≤ c ∧ c ≤ 90)
  · rw [if_pos h]
    rcases h with h | h
    · simp [h]
    · simp [h]
  · rw [if_neg h]
    have h1 : ¬ (48 ≤ c ∧ c ≤ 57) := fun e => h (.inl e)
    have h2 : ¬ (65 ≤ c ∧ c ≤ 90) := fun e => h (.inr e)
    simp [h1, h2]

set_option maxHeartbeats 2000000 in
theorem refWord (s : ByteArray) (w : World) (hs : s.size ≤ 8388608) :
    Calls Try.prog 47 #[.string s] w fun e w' => e = .returned (.int .i64 (wordLen s)) ∧ w = w' := by
  by_cases h0 : s.size = 0
  · have H : Hid (wordLen s = 0) := by
      show _ = _
      unfold wordLen; rw [toList_empty.2 h0]; rfl
    go_enter Try.func47, Try.ntmps47
    go_wp2_with fail
    go_ret
    exact ⟨ret_int (by rw [H.out]; rfl), rfl⟩
  · have hp : 0 < s.size := by omega
    have hd : s.data.toList = s[0] :: s.data.toList.drop 1 := by simpa using drop_at s 0 hp
    have h255 := s[0].toNat_lt
    have e0 : ((s.size : Int) == 0) = false := beq_eq_false_iff_ne.2 (by omega)
    by_cases hg : goesB s[0].toNat true = true
    · have H : Hid (wordLen s = 1 + wordFrom false (s.data.toList.drop 1)) := by
        show _ = _
        unfold wordLen; conv => lhs; rw [hd]
        rw [wordFrom, if_pos hg]
      have G := Tre.hid hg
      clear hd hg h0
      go_enter Try.func47, Try.ntmps47
      go_wp2_with fail
      refine (small _ true _ (b0 _) (b255 _) G).mono ?_
      rintro e w' ⟨rfl, rfl⟩
      go_wp2_with fail
      go_loop [3] (fun n => ∃ k : Nat, 1 ≤ k ∧ k ≤ s.size ∧ n = .int .i64 k ∧ wordLen s = k + wordFrom false (s.data.toList.drop k)) (fun n => s.size - (intOf n).toNat)
      case atStart => exact ⟨1, Nat.le_refl _, by omega, rfl, H.out⟩
      case round =>
        obtain ⟨k, hk1, hk, rfl, hrel⟩ := hrel
        have HR := Tre.hid hrel
        clear hrel
        by_cases hlt : k < s.size
        · have hd : s.data.toList.drop k = s[k] :: s.data.toList.drop (k + 1) := drop_at s k hlt
          have k255 := s[k].toNat_lt
          have hld := goes_ld s[k].toNat
          by_cases hl : letterB s[k].toNat = true
          · have HW : Hid (wordLen s = (k + 1 : Nat) + wordFrom false (s.data.toList.drop (k + 1))) := by
              show _ = _
              rw [HR.out, hd, wordFrom, hld, hl]; simp; omega
            clear hd hld
            go_wp2_with (go_at_call 52; refine (letter _ _ (b0 _) (b255 _)).mono ?_; rintro e w' ⟨rfl, rfl⟩)
            go_round
            case rel => exact ⟨k + 1, by omega, by omega, rfl, HW.out⟩
            case measure => simp [intOf]; omega
          · have hl' : letterB s[k].toNat = false := by simpa using hl
            by_cases hdg : digitB s[k].toNat = true
            · have HW : Hid (wordLen s = (k + 1 : Nat) + wordFrom false (s.data.toList.drop (k + 1))) := by
                show _ = _
                rw [HR.out, hd, wordFrom, hld, hl', hdg]; simp; omega
              clear hd hld hl
              go_wp2_with (first | (go_at_call 52; refine (letter _ _ (b0 _) (b255 _)).mono ?_; rintro e w' ⟨rfl, rfl⟩) | (go_at_call 53; refine (digit _ _ (b0 _) (b255 _)).mono ?_; rintro e w' ⟨rfl, rfl⟩))
              go_round
              case rel => exact ⟨k + 1, by omega, by omega, rfl, HW.out⟩
              case measure => simp [intOf]; omega
            · have hdg' : digitB s[k].toNat = false := by simpa using hdg
              have HW : Hid (wordLen s = k) := by
                show _ = _
                rw [HR.out, hd, wordFrom, hld, hl', hdg']; simp
              clear hd hld hl hdg
              go_wp2_with (first | (go_at_call 52; refine (letter _ _ (b0 _) (b255 _)).mono ?_; rintro e w' ⟨rfl, rfl⟩) | (go_at_call 53; refine (digit _ _ (b0 _) (b255 _)).mono ?_; rintro e w' ⟨rfl, rfl⟩))
              go_ret
              exact ⟨ret_int (by rw [HW.out]), rfl⟩
        · have HW : Hid (wordLen s = k) := by
            show _ = _
            rw [HR.out, List.drop_of_length_le (by simp; omega)]; rfl
          go_wp2_with fail
          go_ret
          exact ⟨ret_int (by rw [HW.out]), rfl⟩
    · have H : Hid (wordLen s = 0) := by
        show _ = _
        unfold wordLen; rw [hd, wordFrom, if_neg hg]
      have G : Hid (goesB s[0].toNat true = false) := by show _ = _; simpa using hg
      clear hd hg h0
      go_enter Try.func47, Try.ntmps47
      go_wp2_with fail
      refine (small _ false _ (b0 _) (b255 _) G).mono ?_
      rintro e w' ⟨rfl, rfl⟩
      go_wp2_with fail
      go_ret
      exact ⟨ret_int (by rw [H.out]; rfl), rfl⟩
end Go.Proofs.Ytgngnkajjldnlaa.lex
