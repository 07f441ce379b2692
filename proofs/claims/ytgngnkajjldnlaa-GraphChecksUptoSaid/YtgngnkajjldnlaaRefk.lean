/- The reference's IsKey and IsName. -/
import Derived.Test.YtgngnkajjldnlaaKeyw
namespace Go.Proofs.Ytgngnkajjldnlaa.lex
open Go.RowKit Go.Tre

def keyAt (k : Nat) : ByteArray := ⟨(keyWords.getD k []).toArray⟩
theorem idx (k : Nat) (h : k < 19) (w : World) : (Instr.index 74 (.agg #[Value.string ⟨#[97, 110, 100]⟩, Value.string ⟨#[97, 115]⟩, Value.string ⟨#[99, 108, 97, 115, 115]⟩, Value.string ⟨#[101, 108, 115, 101]⟩, Value.string ⟨#[101, 110, 100]⟩, Value.string ⟨#[102, 97, 108, 115, 101]⟩, Value.string ⟨#[102, 117, 110]⟩, Value.string ⟨#[105, 102]⟩, Value.string ⟨#[105, 110]⟩, Value.string ⟨#[105, 110, 104, 101, 114, 105, 116]⟩, Value.string ⟨#[108, 101, 116]⟩, Value.string ⟨#[109, 101, 116, 104, 111, 100]⟩, Value.string ⟨#[110, 101, 119]⟩, Value.string ⟨#[111, 98, 106, 101, 99, 116]⟩, Value.string ⟨#[114, 101, 99]⟩, Value.string ⟨#[116, 104, 101, 110]⟩, Value.string ⟨#[116, 114, 117, 101]⟩, Value.string ⟨#[118, 97, 108]⟩, Value.string ⟨#[118, 105, 114, 116, 117, 97, 108]⟩]) (.int .i64 (k : Int))).run Try.prog w = .ok (.string (keyAt k)) w := by
  obtain rfl | rfl | rfl | rfl | rfl | rfl | rfl | rfl | rfl | rfl | rfl | rfl | rfl | rfl | rfl | rfl | rfl | rfl | rfl : k = 0 ∨ k = 1 ∨ k = 2 ∨ k = 3 ∨ k = 4 ∨ k = 5 ∨ k = 6 ∨ k = 7 ∨ k = 8 ∨ k = 9 ∨ k = 10 ∨ k = 11 ∨ k = 12 ∨ k = 13 ∨ k = 14 ∨ k = 15 ∨ k = 16 ∨ k = 17 ∨ k = 18 := by omega
  all_goals kernel_rfl
theorem keyAt_list (k : Nat) : (keyAt k).toList = keyWords.getD k [] := by unfold keyAt; rw [ByteArray.toList_mk]
theorem key_hit {k : Nat} {s : ByteArray} (h : k < 19) (e : keyWords.getD k [] = s.data.toList) : isKey s = true := by
  unfold isKey
  rw [List.contains_iff_mem, ← e, List.getD_eq_getElem?_getD, List.getElem?_eq_getElem (by simpa [keyWords] using h), Option.getD_some]
  exact List.getElem_mem _
theorem key_miss {s : ByteArray} (h : ∀ j, j < 19 → keyWords.getD j [] ≠ s.data.toList) : isKey s = false := by
  unfold isKey
  rw [← Bool.not_eq_true, List.contains_iff_mem]
  intro hm
  obtain ⟨j, hj, e⟩ := List.getElem_of_mem hm
  exact h j (by simpa [keyWords] using hj) (by rw [List.getD_eq_getElem?_getD, List.getElem?_eq_getElem hj, Option.getD_some, e])

set_option maxHeartbeats 2000000 in
theorem refKey (s : ByteArray) (w : World) :
    Calls Try.prog 48 #[.string s] w fun e w' => e = .returned (.bool (isKey s)) ∧ w = w' := by
  go_enter Try.func48, Try.ntmps48
  go_wp2_with fail
  go_loop [6] (fun i => ∃ k : Nat, k ≤ 19 ∧ i = .int .i64 k ∧ ∀ j, j < k → keyWords.getD j [] ≠ s.data.toList) (fun i => 19 - (intOf i).toNat)
  case atStart => exact ⟨0, by omega, rfl, fun j h => by omega⟩
  case round =>
    obtain ⟨k, hk, rfl, hrel⟩ := hrel
    have HR := Tre.hid hrel
    clear hrel
    by_cases hlt : k < 19
    · have hi := idx k hlt w
      by_cases he : keyWords.getD k [] = s.data.toList
      · have e1 : ((keyAt k).toList == s.toList) = true := by rw [keyAt_list, ByteArray.toList_eq, he]; simp
        have H := Tre.hid (key_hit hlt he)
        clear he
        go_wp2_with fail
        go_ret
        exact ⟨ret_bool H.out.symm, rfl⟩
      · have e1 : ((keyAt k).toList == s.toList) = false := by rw [keyAt_list, ByteArray.toList_eq]; exact beq_eq_false_iff_ne.2 he
        have HE := Tre.hid he
        clear he
        go_wp2_with fail
        go_round
        case rel =>
          refine ⟨k + 1, by omega, by go_num, fun j hj => ?_⟩
          by_cases hjk : j = k
          · subst hjk; exact HE.out
          · exact HR.out j (by omega)
        case measure => simp [intOf]; omega
    · have H : Hid (isKey s = false) := key_miss (fun j hj => HR.out j (by omega))
      go_wp2_with fail
      go_ret
      exact ⟨ret_bool H.out.symm, rfl⟩

set_option maxHeartbeats 1000000 in
theorem refName (s : ByteArray) (w : World) (hs : s.size ≤ 8388608) :
    Calls Try.prog 44 #[.string s] w fun e w' => e = .returned (.bool (isName s)) ∧ w = w' := by
  by_cases h0 : s.size = 0
  · have H : Hid (isName s = false) := isName_of (by simp [h0])
    have e2 : ¬ (0 : Int) < s.size := by omega
    clear h0
    go_enter Try.func44, Try.ntmps44
    go_wp2_with fail
    go_ret
    exact ⟨ret_bool H.out.symm, rfl⟩
  · have e2 : (0 : Int) < s.size := by omega
    by_cases h1 : s.size ≤ 100
    · by_cases h2 : wordLen s = s.size
      · have H : Hid (isName s = !isKey s) := isName_of (by simp [h0, h1, h2])
        have e2 : ((wordLen s : Int) == (s.size : Int)) = true := by rw [h2]; simp
        clear h0 h2
        go_enter Try.func44, Try.ntmps44
        go_wp2_with fail
        refine (refWord s _ hs).mono ?_
        rintro e w' ⟨rfl, rfl⟩
        go_wp2_with fail
        refine (refKey s _).mono ?_
        rintro e w' ⟨rfl, rfl⟩
        go_wp2_with fail
        go_ret
        exact ⟨ret_bool H.out.symm, rfl⟩
      · have H : Hid (isName s = false) := isName_of (by simp [h2])
        have e2 : ((wordLen s : Int) == (s.size : Int)) = false := beq_eq_false_iff_ne.2 (by omega)
        clear h0 h2
        go_enter Try.func44, Try.ntmps44
        go_wp2_with fail
        refine (refWord s _ hs).mono ?_
        rintro e w' ⟨rfl, rfl⟩
        go_wp2_with fail
        go_ret
        exact ⟨ret_bool H.out.symm, rfl⟩
    · have H : Hid (isName s = false) := isName_of (by simp [h1])
      clear h0
      go_enter Try.func44, Try.ntmps44
      go_wp2_with fail
      go_ret
      exact ⟨ret_bool H.out.symm, rfl⟩
end Go.Proofs.Ytgngnkajjldnlaa.lex
