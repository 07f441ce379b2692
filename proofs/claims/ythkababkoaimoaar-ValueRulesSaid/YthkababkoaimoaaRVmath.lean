/- Plain arithmetic of 64 bits with wrap-round: sums and differences go back; a quotient times its divisor, and what is left. -/
import Derived.RowKit
namespace Go.Tre
open Go.RowKit

theorem wrap64_of {n : Int} (h : -9223372036854775808 ≤ n) (h' : n ≤ 9223372036854775807) : wrap64 n = n := by unfold wrap64; omega
theorem wrap64_lo (n : Int) : -9223372036854775808 ≤ wrap64 n ∧ wrap64 n ≤ 9223372036854775807 := by unfold wrap64; omega
theorem wrap64_emod (n : Int) : ∃ k : Int, wrap64 n = n + 18446744073709551616 * k := by
  refine ⟨-((n + 9223372036854775808) / 18446744073709551616), ?_⟩
  unfold wrap64; omega
theorem wrap64_eq {m n k : Int} (h : m = n + 18446744073709551616 * k) : wrap64 m = wrap64 n := by subst h; unfold wrap64; omega
theorem back (a b : Int) (h : -9223372036854775808 ≤ a) (h' : a ≤ 9223372036854775807) : wrap64 (wrap64 (a + b) - b) = a := by unfold wrap64; omega
/-- what is left, of a divided by b: as of the plain numbers -/
theorem rest_eq (a b : Int) : wrap64 (a - wrap64 (wrap64 (a.tdiv b) * b)) = wrap64 (a.tmod b) := by
  obtain ⟨k, hk⟩ := wrap64_emod (a.tdiv b)
  obtain ⟨j, hj⟩ := wrap64_emod (wrap64 (a.tdiv b) * b)
  have e : a.tmod b = a - a.tdiv b * b := by
    have := Int.tmod_add_mul_tdiv a b; rw [Int.mul_comm] at this; omega
  refine wrap64_eq (k := -(k * b) - j) ?_
  rw [hj, hk, e, Int.add_mul, Int.mul_sub, Int.mul_neg, Int.mul_assoc 18446744073709551616 k b]
  omega
theorem tmod_lo (a b : Int) (hb : 0 < b) : -b < a.tmod b ∧ a.tmod b < b := by
  rcases Int.le_total 0 a with h | h
  · have := Int.tmod_nonneg b h; have := Int.tmod_lt_of_pos a hb; omega
  · have e : a.tmod b = -((-a).tmod b) := by rw [Int.neg_tmod]; omega
    have h1 := Int.tmod_nonneg b (show 0 ≤ -a by omega); have h2 := Int.tmod_lt_of_pos (-a) hb
    omega
theorem tmod_sign (a b : Int) : (0 ≤ a → 0 ≤ a.tmod b) ∧ (a ≤ 0 → a.tmod b ≤ 0) := by
  refine ⟨fun h => Int.tmod_nonneg b h, fun h => ?_⟩
  have e : a.tmod b = -((-a).tmod b) := by rw [Int.neg_tmod]; omega
  have h1 := Int.tmod_nonneg b (show 0 ≤ -a by omega)
  omega
theorem tmod_range (a b : Int) (hb : b ≠ 0) : (0 < b → -b < a.tmod b ∧ a.tmod b < b) ∧ (b < 0 → b < a.tmod b ∧ a.tmod b < -b) := by
  refine ⟨fun h => tmod_lo a b h, fun h => ?_⟩
  have := tmod_lo a (-b) (by omega)
  rw [Int.tmod_neg] at this
  omega
/-- by the least number of all -/
theorem tdiv_least (a : Int) (h : -9223372036854775808 ≤ a) (h' : a ≤ 9223372036854775807) (hne : a ≠ -9223372036854775808) : a.tdiv (-9223372036854775808) = 0 := by
  rw [Int.tdiv_neg]
  rcases Int.le_total 0 a with h0 | h0
  · rw [Int.tdiv_eq_ediv_of_nonneg h0]; omega
  · have e : a.tdiv 9223372036854775808 = -((-a).tdiv 9223372036854775808) := by rw [Int.neg_tdiv]; omega
    rw [e, Int.tdiv_eq_ediv_of_nonneg (by omega)]; omega

theorem wm (a b : Int) : wrap64 (a * wrap64 b) = wrap64 (a * b) := by
  obtain ⟨k, hk⟩ := wrap64_emod b
  exact wrap64_eq (k := a * k) (by rw [hk, Int.mul_add, Int.mul_left_comm])
theorem wm' (a b : Int) : wrap64 (wrap64 a * b) = wrap64 (a * b) := by rw [Int.mul_comm, wm, Int.mul_comm]
theorem wa (a b : Int) : wrap64 (a + wrap64 b) = wrap64 (a + b) := by unfold wrap64; omega
theorem wa' (a b : Int) : wrap64 (wrap64 a + b) = wrap64 (a + b) := by unfold wrap64; omega
theorem ws (a b : Int) : wrap64 (a - wrap64 b) = wrap64 (a - b) := by unfold wrap64; omega
theorem spread (a b c : Int) : wrap64 (a * wrap64 (b + c)) = wrap64 (wrap64 (a * b) + wrap64 (a * c)) := by
  rw [wm, wa, wa', Int.mul_add]
theorem three (a b c : Int) : wrap64 (a + wrap64 (b + c)) = wrap64 (wrap64 (a + b) + c) := by rw [wa, wa', Int.add_assoc]
theorem three' (a b c : Int) : wrap64 (a * wrap64 (b * c)) = wrap64 (wrap64 (a * b) * c) := by rw [wm, wm', Int.mul_assoc]
end Go.Tre
