/- Plain: a text between quotes is one token; a number's text is read as it. Contracts of value.Num at its four operators. Plain arithmetic of 64 bits with wrap-round: sums and differences go back; a quotient times its divisor, and what is left. The walks of alive, of ValueBack: whatever the two numbers, it answers true, and nothing that was there is written. -/
import Derived.Test.YtcpcheengfgpaaaGreatDoorB02
import Derived.Test.YtcpcheengfgpaaaGreatDoorB06
import Derived.Test.YtcpcheengfgpaaaGreatDoorB09
import Derived.Test.YtcpcheengfgpaaaGreatDoorRows
import Derived.Test.YtcpcheengfgpaaaGreatDoorB00
import Derived.WalkSpells
import Derived.WalkLawsBesides
import Derived.ProofKit
import Derived.RowKit
set_option linter.unusedVariables false
namespace Go.Tre
open Go.Lib (decDigits itoa)
theorem quotedS_back : ∀ s : List UInt8, quotedS (escB s ++ [34]) = some (s, (escB s).length + 1)
  | [] => by rw [escB, List.nil_append]; unfold quotedS; rw [if_pos rfl]; rfl
  | b :: r => by
    have ih := quotedS_back r
    by_cases hb : specB b = true
    · rw [escB, if_pos hb]
      show quotedS (92 :: newB b :: (escB r ++ [34])) = some (b :: r, (escB r).length + 2 + 1)
      conv => lhs; unfold quotedS
      rw [if_neg (by decide), if_pos rfl]
      simp only
      by_cases h10 : b = 10
      · subst h10
        rw [show newB 10 = 110 from rfl, if_neg (by decide), if_pos rfl, ih]
        simp only [Option.map_some]
      · have h2 : b = 34 ∨ b = 92 := by simpa [specB, h10] using hb
        have hnb : newB b = b := by unfold newB; rw [if_neg h10]
        rw [hnb, if_pos h2.symm, ih]
        simp only [Option.map_some]
    · rw [escB, if_neg hb]
      show quotedS (b :: (escB r ++ [34])) = some (b :: r, (escB r).length + 1 + 1)
      have hn : ¬ b = 34 ∧ ¬ b = 92 := by
        simp only [specB, Bool.or_eq_true, beq_iff_eq, not_or] at hb
        exact hb.2
      conv => lhs; unfold quotedS
      rw [if_neg hn.1, if_neg hn.2, ih]
      simp only [Option.map_some]
/-- a text between quotes -/
theorem lexS_text (s : List UInt8) (h : s.length ≤ 30000) : lexS (34 :: (escB s ++ [34])) = some [⟨4, 0, 0, s⟩, ⟨0, (escB s).length + 2, 0, []⟩] := by
  have hl : (34 :: (escB s ++ [34])).length = (escB s).length + 2 := by simp
  have hle : (escB s).length ≤ 60000 := by rw [escB_len]; have := specN_le s; omega
  have hn : nextS (34 :: (escB s ++ [34])) = some (⟨4, 0, 0, s⟩, (escB s).length + 2) := by
    unfold nextS
    rw [if_neg (by unfold wordFrom; rw [if_neg (by decide)]; omega)]
    simp only
    rw [if_neg (by decide), if_neg (by decide), if_pos trivial, quotedS_back]
    rfl
  unfold lexS
  rw [if_pos (by omega), allS_eq, skipS_plain (by decide) (by decide)]
  simp only
  rw [hn, hl]
  simp only
  rw [List.drop_of_length_le (by omega), allS_eq, skipS_nil]
  simp
end Go.Tre
namespace Go.Proofs.YtcpcheengfgpaaaGreatDoor.lex
open Go.Tre
open Go.Lib (decDigits itoa)
theorem parse_neg (l : List UInt8) (h0 : l ≠ []) (hd : ∀ c ∈ l, isDig c = true) (hv : 1 ≤ digitsVal l) (hle : digitsVal l ≤ 9223372036854775808) : Lib.parseIntB 64 (45 :: l) = .ok (-(digitsVal l : Int)) := by
  unfold Lib.parseIntB
  simp only
  rw [if_pos (by decide)]
  unfold Lib.parseUintB
  rw [if_neg (by cases l <;> simp_all), show 2 ^ 64 - 1 = 18446744073709551615 from rfl, parse_digits _ _ hd (by omega)]
  have e : l.foldl (fun a c => 10 * a + (c.toNat - 48)) 0 = digitsVal l := rfl
  rw [e, if_pos (by omega)]
  simp only
  rw [show 2 ^ (64 - 1) = 9223372036854775808 from rfl, if_neg (by simp), if_neg (by omega), if_pos (by decide)]
theorem parse_itoa (n : Int) (h0 : -9223372036854775808 ≤ n) (h1 : n ≤ 9223372036854775807) : Lib.parseIntB 64 (itoa n) = .ok n := by
  by_cases hneg : n < 0
  · obtain ⟨u, hu⟩ : ∃ u : Nat, n = -(u : Int) := ⟨n.natAbs, by omega⟩
    rw [hu, Lib.itoa_neg u (by omega), parse_neg _ (decDigits_ne u) (decDigits_dig u) (by rw [decDigits_val]; omega) (by rw [decDigits_val]; omega), decDigits_val]
  · obtain ⟨u, hu⟩ : ∃ u : Nat, n = (u : Int) := ⟨n.toNat, by omega⟩
    rw [hu, Lib.itoa_nonneg, parse_num (decDigits_ne u) (decDigits_dig u), decDigits_val, if_pos (by omega)]
end Go.Proofs.YtcpcheengfgpaaaGreatDoor.lex
namespace Go.Proofs.YtcpcheengfgpaaaGreatDoor.num
open Go.RowKit Go.Maps Go.Tre

abbrev fv (n : Nat) : Value := .func (.func n) #[] #[]
theorem K : Keyed Tryz.prog 9 := string_keyed Tryz.underlying9
theorem inj (a b : ByteArray) (h : Value.string a = Value.string b) : a = b := by injection h
theorem zf (w : World) : (zeroValue 51).run Tryz.prog w = .ok .nilFunc w := by kernel_rfl
theorem ky (s : ByteArray) (h : s.size ≤ maxLen) : keyOf Tryz.prog 9 (.string s) = some (.string s.data.toList) := by
  simp [keyOf, Tryz.underlying9, mapKey, h]
theorem k1 (b : UInt8) : keyOf Tryz.prog 9 (.string ⟨#[b]⟩) = some (.string [b]) := ky ⟨#[b]⟩ (by show 1 ≤ maxLen; decide)
def F : ByteArray → Option Nat := upd (upd (upd (upd (fun _ => none) ⟨#[43]⟩ 19) ⟨#[45]⟩ 20) ⟨#[42]⟩ 21) ⟨#[47]⟩ 22
theorem F1 : F ⟨#[43]⟩ = some 19 := by decide
theorem F2 : F ⟨#[45]⟩ = some 20 := by decide
theorem F3 : F ⟨#[42]⟩ = some 21 := by decide
theorem F4 : F ⟨#[47]⟩ = some 22 := by decide

set_option maxHeartbeats 400000 in
theorem plus (a b : Int) (w : World) :
    Calls Tryz.prog 9 #[.string ⟨#[43]⟩, .int .i64 a, .int .i64 b] w fun e w' => e = .returned (.tuple #[.int .i64 (wrap64 (a + b)), .int .i64 0]) ∧ Below w.heap.size w w' := by
  have hmm := @run_makeMap Tryz.prog
  have h0 := MapIs.made w Tryz.prog 9 Value.string fv
  have b0 := (Below.refl w.heap.size w).alloc (Nat.le_refl _) (.map #[] 0)
  go_enter Tryz.func9, Tryz.ntmps9
  go_wp2_with (first | (refine wpList_store rfl _ _ _ 52 (.inr rfl) 51 K inj Tryz.underlying52 rfl (by assumption) _ rfl (k1 _) 19 rfl ?_; intro w1 h1 g1; have bb := below_row (by assumption) g1 (Nat.le_refl _)) | (refine wpList_store rfl _ _ _ 52 (.inr rfl) 51 K inj Tryz.underlying52 rfl (by assumption) _ rfl (k1 _) 20 rfl ?_; intro w1 h1 g1; have bb := below_row (by assumption) g1 (Nat.le_refl _)) | (refine wpList_store rfl _ _ _ 52 (.inr rfl) 51 K inj Tryz.underlying52 rfl (by assumption) _ rfl (k1 _) 21 rfl ?_; intro w1 h1 g1; have bb := below_row (by assumption) g1 (Nat.le_refl _)) | (refine wpList_store rfl _ _ _ 52 (.inr rfl) 51 K inj Tryz.underlying52 rfl (by assumption) _ rfl (k1 _) 22 rfl ?_; intro w1 h1 g1; have bb := below_row (by assumption) g1 (Nat.le_refl _)) | (refine wpList_look_some rfl _ _ 52 rfl 51 K inj Tryz.underlying52 (zf _) rfl (by assumption) _ rfl (k1 _) _ F1 ?_) | go_in)
  go_ret2
  exact ⟨rfl, by assumption⟩
set_option maxHeartbeats 400000 in
theorem minus (a b : Int) (w : World) :
    Calls Tryz.prog 9 #[.string ⟨#[45]⟩, .int .i64 a, .int .i64 b] w fun e w' => e = .returned (.tuple #[.int .i64 (wrap64 (a - b)), .int .i64 0]) ∧ Below w.heap.size w w' := by
  have hmm := @run_makeMap Tryz.prog
  have h0 := MapIs.made w Tryz.prog 9 Value.string fv
  have b0 := (Below.refl w.heap.size w).alloc (Nat.le_refl _) (.map #[] 0)
  go_enter Tryz.func9, Tryz.ntmps9
  go_wp2_with (first | (refine wpList_store rfl _ _ _ 52 (.inr rfl) 51 K inj Tryz.underlying52 rfl (by assumption) _ rfl (k1 _) 19 rfl ?_; intro w1 h1 g1; have bb := below_row (by assumption) g1 (Nat.le_refl _)) | (refine wpList_store rfl _ _ _ 52 (.inr rfl) 51 K inj Tryz.underlying52 rfl (by assumption) _ rfl (k1 _) 20 rfl ?_; intro w1 h1 g1; have bb := below_row (by assumption) g1 (Nat.le_refl _)) | (refine wpList_store rfl _ _ _ 52 (.inr rfl) 51 K inj Tryz.underlying52 rfl (by assumption) _ rfl (k1 _) 21 rfl ?_; intro w1 h1 g1; have bb := below_row (by assumption) g1 (Nat.le_refl _)) | (refine wpList_store rfl _ _ _ 52 (.inr rfl) 51 K inj Tryz.underlying52 rfl (by assumption) _ rfl (k1 _) 22 rfl ?_; intro w1 h1 g1; have bb := below_row (by assumption) g1 (Nat.le_refl _)) | (refine wpList_look_some rfl _ _ 52 rfl 51 K inj Tryz.underlying52 (zf _) rfl (by assumption) _ rfl (k1 _) _ F2 ?_) | go_in)
  go_ret2
  exact ⟨rfl, by assumption⟩
set_option maxHeartbeats 400000 in
theorem times (a b : Int) (w : World) :
    Calls Tryz.prog 9 #[.string ⟨#[42]⟩, .int .i64 a, .int .i64 b] w fun e w' => e = .returned (.tuple #[.int .i64 (wrap64 (a * b)), .int .i64 0]) ∧ Below w.heap.size w w' := by
  have hmm := @run_makeMap Tryz.prog
  have h0 := MapIs.made w Tryz.prog 9 Value.string fv
  have b0 := (Below.refl w.heap.size w).alloc (Nat.le_refl _) (.map #[] 0)
  go_enter Tryz.func9, Tryz.ntmps9
  go_wp2_with (first | (refine wpList_store rfl _ _ _ 52 (.inr rfl) 51 K inj Tryz.underlying52 rfl (by assumption) _ rfl (k1 _) 19 rfl ?_; intro w1 h1 g1; have bb := below_row (by assumption) g1 (Nat.le_refl _)) | (refine wpList_store rfl _ _ _ 52 (.inr rfl) 51 K inj Tryz.underlying52 rfl (by assumption) _ rfl (k1 _) 20 rfl ?_; intro w1 h1 g1; have bb := below_row (by assumption) g1 (Nat.le_refl _)) | (refine wpList_store rfl _ _ _ 52 (.inr rfl) 51 K inj Tryz.underlying52 rfl (by assumption) _ rfl (k1 _) 21 rfl ?_; intro w1 h1 g1; have bb := below_row (by assumption) g1 (Nat.le_refl _)) | (refine wpList_store rfl _ _ _ 52 (.inr rfl) 51 K inj Tryz.underlying52 rfl (by assumption) _ rfl (k1 _) 22 rfl ?_; intro w1 h1 g1; have bb := below_row (by assumption) g1 (Nat.le_refl _)) | (refine wpList_look_some rfl _ _ 52 rfl 51 K inj Tryz.underlying52 (zf _) rfl (by assumption) _ rfl (k1 _) _ F3 ?_) | go_in)
  go_ret2
  exact ⟨rfl, by assumption⟩
set_option maxHeartbeats 400000 in
theorem quo (a b : Int) (h : (b == 0) = false) (w : World) :
    Calls Tryz.prog 9 #[.string ⟨#[47]⟩, .int .i64 a, .int .i64 b] w fun e w' => e = .returned (.tuple #[.int .i64 (wrap64 (a.tdiv b)), .int .i64 0]) ∧ Below w.heap.size w w' := by
  have h' : ¬ b = 0 := by simpa using h
  have hmm := @run_makeMap Tryz.prog
  have h0 := MapIs.made w Tryz.prog 9 Value.string fv
  have b0 := (Below.refl w.heap.size w).alloc (Nat.le_refl _) (.map #[] 0)
  go_enter Tryz.func9, Tryz.ntmps9
  go_wp2_with (first | (refine wpList_store rfl _ _ _ 52 (.inr rfl) 51 K inj Tryz.underlying52 rfl (by assumption) _ rfl (k1 _) 19 rfl ?_; intro w1 h1 g1; have bb := below_row (by assumption) g1 (Nat.le_refl _)) | (refine wpList_store rfl _ _ _ 52 (.inr rfl) 51 K inj Tryz.underlying52 rfl (by assumption) _ rfl (k1 _) 20 rfl ?_; intro w1 h1 g1; have bb := below_row (by assumption) g1 (Nat.le_refl _)) | (refine wpList_store rfl _ _ _ 52 (.inr rfl) 51 K inj Tryz.underlying52 rfl (by assumption) _ rfl (k1 _) 21 rfl ?_; intro w1 h1 g1; have bb := below_row (by assumption) g1 (Nat.le_refl _)) | (refine wpList_store rfl _ _ _ 52 (.inr rfl) 51 K inj Tryz.underlying52 rfl (by assumption) _ rfl (k1 _) 22 rfl ?_; intro w1 h1 g1; have bb := below_row (by assumption) g1 (Nat.le_refl _)) | (refine wpList_look_some rfl _ _ 52 rfl 51 K inj Tryz.underlying52 (zf _) rfl (by assumption) _ rfl (k1 _) _ F4 ?_) | go_in)
  go_ret2
  exact ⟨rfl, by assumption⟩
set_option maxHeartbeats 400000 in
theorem zero (a : Int) (w : World) :
    Calls Tryz.prog 9 #[.string ⟨#[47]⟩, .int .i64 a, .int .i64 0] w fun e w' => e = .returned (.tuple #[.int .i64 0, .int .i64 11]) ∧ Below w.heap.size w w' := by
  have hmm := @run_makeMap Tryz.prog
  have h0 := MapIs.made w Tryz.prog 9 Value.string fv
  have b0 := (Below.refl w.heap.size w).alloc (Nat.le_refl _) (.map #[] 0)
  go_enter Tryz.func9, Tryz.ntmps9
  go_wp2_with (first | (refine wpList_store rfl _ _ _ 52 (.inr rfl) 51 K inj Tryz.underlying52 rfl (by assumption) _ rfl (k1 _) 19 rfl ?_; intro w1 h1 g1; have bb := below_row (by assumption) g1 (Nat.le_refl _)) | (refine wpList_store rfl _ _ _ 52 (.inr rfl) 51 K inj Tryz.underlying52 rfl (by assumption) _ rfl (k1 _) 20 rfl ?_; intro w1 h1 g1; have bb := below_row (by assumption) g1 (Nat.le_refl _)) | (refine wpList_store rfl _ _ _ 52 (.inr rfl) 51 K inj Tryz.underlying52 rfl (by assumption) _ rfl (k1 _) 21 rfl ?_; intro w1 h1 g1; have bb := below_row (by assumption) g1 (Nat.le_refl _)) | (refine wpList_store rfl _ _ _ 52 (.inr rfl) 51 K inj Tryz.underlying52 rfl (by assumption) _ rfl (k1 _) 22 rfl ?_; intro w1 h1 g1; have bb := below_row (by assumption) g1 (Nat.le_refl _)) | (refine wpList_look_some rfl _ _ 52 rfl 51 K inj Tryz.underlying52 (zf _) rfl (by assumption) _ rfl (k1 _) _ F4 ?_) | go_in)
  go_ret2
  exact ⟨rfl, by assumption⟩
end Go.Proofs.YtcpcheengfgpaaaGreatDoor.num
namespace Go.Tre
open Go.RowKit

theorem wrap64_of {n : Int} (h : -9223372036854775808 ≤ n) (h' : n ≤ 9223372036854775807) : wrap64 n = n := by unfold wrap64; omega
theorem wrap64_lo (n : Int) : -9223372036854775808 ≤ wrap64 n ∧ wrap64 n ≤ 9223372036854775807 := by unfold wrap64; omega
theorem wrap64_emod (n : Int) : ∃ k : Int, wrap64 n = n + 18446744073709551616 * k := by
  refine ⟨-((n + 9223372036854775808) / 18446744073709551616), ?_⟩
  unfold wrap64; omega
theorem wrap64_eq {m n k : Int} (h : m = n + 18446744073709551616 * k) : wrap64 m = wrap64 n := by subst h; unfold wrap64; omega
theorem back (a b : Int) (h : -9223372036854775808 ≤ a) (h' : a ≤ 9223372036854775807) : wrap64 (wrap64 (a + b) - b) = a := by unfold wrap64; omega
/-- what is left, of a divided by b: as of the plain numbers -/
theorem rest_eq (a b : Int) : wrap64 (a - wrap64 (wrap64 (a.tdiv b) * b)) = wrap64 (a.tmod b) := by
  obtain ⟨k, hk⟩ := wrap64_emod (a.tdiv b)
  obtain ⟨j, hj⟩ := wrap64_emod (wrap64 (a.tdiv b) * b)
  have e : a.tmod b = a - a.tdiv b * b := by
    have := Int.tmod_add_mul_tdiv a b; rw [Int.mul_comm] at this; omega
  refine wrap64_eq (k := -(k * b) - j) ?_
  rw [hj, hk, e, Int.add_mul, Int.mul_sub, Int.mul_neg, Int.mul_assoc 18446744073709551616 k b]
  omega
theorem tmod_lo (a b : Int) (hb : 0 < b) : -b < a.tmod b ∧ a.tmod b < b := by
  rcases Int.le_total 0 a with h | h
  · have := Int.tmod_nonneg b h; have := Int.tmod_lt_of_pos a hb; omega
  · have e : a.tmod b = -((-a).tmod b) := by rw [Int.neg_tmod]; omega
    have h1 := Int.tmod_nonneg b (show 0 ≤ -a by omega); have h2 := Int.tmod_lt_of_pos (-a) hb
    omega
theorem tmod_sign (a b : Int) : (0 ≤ a → 0 ≤ a.tmod b) ∧ (a ≤ 0 → a.tmod b ≤ 0) := by
  refine ⟨fun h => Int.tmod_nonneg b h, fun h => ?_⟩
  have e : a.tmod b = -((-a).tmod b) := by rw [Int.neg_tmod]; omega
  have h1 := Int.tmod_nonneg b (show 0 ≤ -a by omega)
  omega
theorem tmod_range (a b : Int) : (0 < b → -b < a.tmod b ∧ a.tmod b < b) ∧ (b < 0 → b < a.tmod b ∧ a.tmod b < -b) := by
  refine ⟨fun h => tmod_lo a b h, fun h => ?_⟩
  have := tmod_lo a (-b) (by omega)
  rw [Int.tmod_neg] at this
  omega
/-- by the least number of all -/
theorem tdiv_least (a : Int) (h : -9223372036854775808 ≤ a) (h' : a ≤ 9223372036854775807) (hne : a ≠ -9223372036854775808) : a.tdiv (-9223372036854775808) = 0 := by
  rw [Int.tdiv_neg]
  rcases Int.le_total 0 a with h0 | h0
  · rw [Int.tdiv_eq_ediv_of_nonneg h0]; omega
  · have e : a.tdiv 9223372036854775808 = -((-a).tdiv 9223372036854775808) := by rw [Int.neg_tdiv]; omega
    rw [e, Int.tdiv_eq_ediv_of_nonneg (by omega)]; omega

theorem wm (a b : Int) : wrap64 (a * wrap64 b) = wrap64 (a * b) := by
  obtain ⟨k, hk⟩ := wrap64_emod b
  exact wrap64_eq (k := a * k) (by rw [hk, Int.mul_add, Int.mul_left_comm])
theorem wm' (a b : Int) : wrap64 (wrap64 a * b) = wrap64 (a * b) := by rw [Int.mul_comm, wm, Int.mul_comm]
theorem wa (a b : Int) : wrap64 (a + wrap64 b) = wrap64 (a + b) := by unfold wrap64; omega
theorem wa' (a b : Int) : wrap64 (wrap64 a + b) = wrap64 (a + b) := by unfold wrap64; omega
theorem ws (a b : Int) : wrap64 (a - wrap64 b) = wrap64 (a - b) := by unfold wrap64; omega
theorem spread (a b c : Int) : wrap64 (a * wrap64 (b + c)) = wrap64 (wrap64 (a * b) + wrap64 (a * c)) := by
  rw [wm, wa, wa', Int.mul_add]
theorem three (a b c : Int) : wrap64 (a + wrap64 (b + c)) = wrap64 (wrap64 (a + b) + c) := by rw [wa, wa', Int.add_assoc]
theorem three' (a b c : Int) : wrap64 (a * wrap64 (b * c)) = wrap64 (wrap64 (a * b) * c) := by rw [wm, wm', Int.mul_assoc]
end Go.Tre
namespace Go.Proofs.YtcpcheengfgpaaaGreatDoor.vb
open Go.RowKit Go.Maps Go.Tre

theorem plus' (a b s : Int) (w : World) (h : wrap64 (a + b) = s) : Calls Tryz.prog 9 #[.string ⟨#[43]⟩, .int .i64 a, .int .i64 b] w fun e w' => e = .returned (.tuple #[.int .i64 s, .int .i64 0]) ∧ Below w.heap.size w w' := h ▸ num.plus a b w
theorem minus' (a b s : Int) (w : World) (h : wrap64 (a - b) = s) : Calls Tryz.prog 9 #[.string ⟨#[45]⟩, .int .i64 a, .int .i64 b] w fun e w' => e = .returned (.tuple #[.int .i64 s, .int .i64 0]) ∧ Below w.heap.size w w' := h ▸ num.minus a b w
theorem times' (a b s : Int) (w : World) (h : wrap64 (a * b) = s) : Calls Tryz.prog 9 #[.string ⟨#[42]⟩, .int .i64 a, .int .i64 b] w fun e w' => e = .returned (.tuple #[.int .i64 s, .int .i64 0]) ∧ Below w.heap.size w w' := h ▸ num.times a b w
theorem quo' (a b s : Int) (w : World) (hb : b ≠ 0) (h : wrap64 (a.tdiv b) = s) : Calls Tryz.prog 9 #[.string ⟨#[47]⟩, .int .i64 a, .int .i64 b] w fun e w' => e = .returned (.tuple #[.int .i64 s, .int .i64 0]) ∧ Below w.heap.size w w' := h ▸ num.quo a b (by simpa using hb) w

theorem pairc (w : World) : Calls Tryz.prog 10 #[.string ⟨#[49]⟩, .string ⟨#[116, 114, 117, 101]⟩] w fun e w' => e = .returned (.string ⟨#[40, 49, 44, 32, 116, 114, 117, 101, 41]⟩) ∧ w = w' := by
  have he : (⟨#[40]⟩ : ByteArray) ++ ⟨#[49]⟩ ++ ⟨#[44, 32]⟩ ++ ⟨#[116, 114, 117, 101]⟩ ++ ⟨#[41]⟩ = ⟨#[40, 49, 44, 32, 116, 114, 117, 101, 41]⟩ := by decide +kernel
  go_enter Tryz.func10, Tryz.ntmps10
  go_wp2
  go_ret
  exact ⟨by first | rfl | (simp [he]; done), rfl⟩

theorem alive (w : World) : Calls Tryz.prog 4 #[] w fun e w' => e = .returned (.bool true) ∧ Below w.heap.size w w' := by
  go_enter Tryz.func4, Tryz.ntmps4
  go_wp2_with fail
  refine (quo' (-7) 2 (-3) _ (by decide) (by decide +kernel)).mono ?_
  rintro e w1 ⟨rfl, b1⟩
  go_wp2_with (first | (go_at_call 10; refine (pairc _).mono ?_; rintro e w' ⟨rfl, rfl⟩) | go_in)
  go_ret
  exact ⟨rfl, b1⟩
end Go.Proofs.YtcpcheengfgpaaaGreatDoor.vb
