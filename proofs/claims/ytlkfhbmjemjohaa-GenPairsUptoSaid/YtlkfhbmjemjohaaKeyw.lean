/- The walks of lex.IsKey, lex.IsName, of the reference's word, IsKey, IsName: one plain function each, the same on both sides. -/
import Derived.Test.YtlkfhbmjemjohaaLex
import Derived.Test.YtlkfhbmjemjohaaKeys
import Derived.Test.YtlkfhbmjemjohaaShelf
namespace Go.Tre
/-- the library's variable holds a number -/
def MaxAt (w : World) : Prop := ∃ m, w.cell? ⟨0, 0, none⟩ = some (.int .i64 m)
theorem MaxAt.below {w w' : World} (h : MaxAt w) (hb : RowKit.Below w.heap.size w w') : MaxAt w' := by
  obtain ⟨m, hm⟩ := h
  exact ⟨m, cell_below hb hm⟩
def isName (s : ByteArray) : Bool := decide (s.size ≠ 0) && decide (s.size ≤ 100) && decide (wordLen s = s.size) && !isKey s
end Go.Tre
namespace Go.Proofs.Ytlkfhbmjemjohaa.lex
open Go.RowKit Go.Tre

theorem contains (s sub : ByteArray) (r : Bool) (w : World) (hs : s.size < 4294967281) (hm : MaxAt w) (hr : Lib.contains s.data.toList sub.data.toList = r) :
    Calls Try.prog 51 #[.string s, .string sub] w fun e w' => e = .returned (.bool r) ∧ w = w' := by
  obtain ⟨m, hm⟩ := hm
  refine (Try.strings_Contains s sub m w hs hm).mono ?_
  rintro e w' ⟨rfl, hw⟩
  exact ⟨by rw [hr], hw.symm⟩

theorem isKey_blank {s : ByteArray} (h : (32 : UInt8) ∈ s.data.toList) : isKey s = false := by
  unfold isKey
  rw [← Bool.not_eq_true, List.contains_iff_mem]
  exact fun hm => keyWords_no _ hm _ h rfl
theorem toList_empty {s : ByteArray} : s.data.toList = [] ↔ s.size = 0 := by
  rw [← List.length_eq_zero_iff]; simp
theorem isKey_empty {s : ByteArray} (h : s.size = 0) : isKey s = false := by
  unfold isKey
  rw [toList_empty.2 h]
  decide
theorem app3 (s : ByteArray) : ((⟨#[32]⟩ : ByteArray) ++ s ++ ⟨#[32]⟩).data.toList = 32 :: (s.data.toList ++ [32]) := by
  simp [ByteArray.data_append]

theorem emp1 {s : ByteArray} (h : s.size = 0) : s.toList.isEmpty = true := by rw [ByteArray.toList_eq, toList_empty.2 h]; rfl
theorem emp0 {s : ByteArray} (h : ¬ s.size = 0) : s.toList.isEmpty = false := by
  rw [ByteArray.toList_eq]
  cases hl : s.data.toList with
  | nil => exact absurd (toList_empty.1 hl) h
  | cons a l => rfl
theorem keysText (s : ByteArray) (h : ¬ (32 : UInt8) ∈ s.data.toList) (h0 : ¬ s.size = 0) (K : List UInt8) (hK : K = spaced keyWords) : Lib.contains K ((⟨#[32]⟩ : ByteArray) ++ s ++ ⟨#[32]⟩).data.toList = isKey s := by
  rw [hK, app3]
  exact contains_keys _ h (fun e => h0 (toList_empty.1 e))

set_option maxHeartbeats 1000000 in
theorem isKey_any (s : ByteArray) (w : World) (hs : s.size ≤ 8388608) (hm : MaxAt w) :
    Calls Try.prog 49 #[.string s] w fun e w' => e = .returned (.bool (isKey s)) ∧ w = w' := by
  by_cases h0 : s.size = 0
  · have H := Tre.hid (isKey_empty h0)
    have e0 := emp1 h0
    have e1 : (!s.toList.isEmpty) = false := by rw [e0]; rfl
    clear h0
    go_enter Try.func49, Try.ntmps49
    go_wp2_with fail
    go_ret
    exact ⟨ret_bool H.out.symm, rfl⟩
  · have e0 := emp0 h0
    have e1 : (!s.toList.isEmpty) = true := by rw [e0]; rfl
    have hc := contains_blank s.data.toList
    by_cases hb : (32 : UInt8) ∈ s.data.toList
    · have H := Tre.hid (isKey_blank hb)
      have C : Hid (Lib.contains s.data.toList [32] = true) := by show _ = _; rw [hc]; simp [hb]
      clear hc hb h0
      go_enter Try.func49, Try.ntmps49
      go_wp2_with fail
      refine (contains s _ true _ (by omega) hm C.out).mono ?_
      rintro e w' ⟨rfl, rfl⟩
      go_wp2_with fail
      go_ret
      exact ⟨ret_bool H.out.symm, rfl⟩
    · have C : Hid (Lib.contains s.data.toList [32] = false) := by show _ = _; rw [hc]; simp [hb]
      have KT := Tre.hid (keysText s hb h0)
      clear hc hb h0
      go_enter Try.func49, Try.ntmps49
      go_wp2_with fail
      refine (contains s _ false _ (by omega) hm C.out).mono ?_
      rintro e w' ⟨rfl, rfl⟩
      go_wp2_with fail
      refine (contains _ _ (isKey s) _ ?_ hm (KT.out _ ?_)).mono ?_
      · decide
      · decide
      rintro e w' ⟨rfl, rfl⟩
      go_wp2_with fail
      go_ret
      exact ⟨rfl, rfl⟩

theorem isName_of {s : ByteArray} {b : Bool} (h : (decide (s.size ≠ 0) && decide (s.size ≤ 100) && decide (wordLen s = s.size) && !isKey s) = b) : isName s = b := h
theorem wordFrom_le : ∀ (l : List UInt8) (b : Bool), wordFrom b l ≤ l.length
  | [], _ => Nat.le_refl _
  | c :: r, b => by
    unfold wordFrom
    split
    · have := wordFrom_le r false; simp; omega
    · simp
theorem wordLen_le (s : ByteArray) : wordLen s ≤ s.size := by have := wordFrom_le s.data.toList true; simpa [wordLen] using this

set_option maxHeartbeats 1000000 in
theorem isName_any (s : ByteArray) (w : World) (hs : s.size ≤ 8388608) (hm : MaxAt w) :
    Calls Try.prog 46 #[.string s] w fun e w' => e = .returned (.bool (isName s)) ∧ w = w' := by
  by_cases h0 : s.size = 0
  · have H : Hid (isName s = false) := isName_of (by simp [h0])
    have e0 := emp1 h0
    have e1 : (!s.toList.isEmpty) = false := by rw [e0]; rfl
    clear h0
    go_enter Try.func46, Try.ntmps46
    go_wp2_with fail
    go_ret
    exact ⟨ret_bool H.out.symm, rfl⟩
  · have e0 := emp0 h0
    have e1 : (!s.toList.isEmpty) = true := by rw [e0]; rfl
    by_cases h1 : s.size ≤ 100
    · by_cases h2 : wordLen s = s.size
      · have H : Hid (isName s = !isKey s) := isName_of (by simp [h0, h1, h2])
        have e2 : ((wordLen s : Int) == (s.size : Int)) = true := by rw [h2]; simp
        clear h0 h2
        go_enter Try.func46, Try.ntmps46
        go_wp2_with fail
        refine (word s _ hs).mono ?_
        rintro e w' ⟨rfl, rfl⟩
        go_wp2_with fail
        refine (isKey_any s _ hs hm).mono ?_
        rintro e w' ⟨rfl, rfl⟩
        go_wp2_with fail
        go_ret
        exact ⟨ret_bool H.out.symm, rfl⟩
      · have H : Hid (isName s = false) := isName_of (by simp [h2])
        have e2 : ((wordLen s : Int) == (s.size : Int)) = false := by simp; omega
        clear h0 h2
        go_enter Try.func46, Try.ntmps46
        go_wp2_with fail
        refine (word s _ hs).mono ?_
        rintro e w' ⟨rfl, rfl⟩
        go_wp2_with fail
        go_ret
        exact ⟨ret_bool H.out.symm, rfl⟩
    · have H : Hid (isName s = false) := isName_of (by simp [h1])
      clear h0
      go_enter Try.func46, Try.ntmps46
      go_wp2_with fail
      go_ret
      exact ⟨ret_bool H.out.symm, rfl⟩

theorem b0 (u : UInt8) : (0 : Int) ≤ u.toNat := Int.natCast_nonneg _
theorem b255 (u : UInt8) : (u.toNat : Int) ≤ 255 := by have := u.toNat_lt; omega
/-! the reference's -/
end Go.Proofs.Ytlkfhbmjemjohaa.lex
