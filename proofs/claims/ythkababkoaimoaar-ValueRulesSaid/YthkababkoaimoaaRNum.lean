/- Contracts of value.Num at its four operators. -/
import Derived.Test.YthkababkoaimoaaRRows
import Derived.Test.YthkababkoaimoaaRMapl
import Derived.WalkSpells
import Derived.WalkLawsBesides
import Derived.ProofKit
namespace Go.Proofs.YthkababkoaimoaaR.num
open Go.RowKit Go.Maps Go.Tre

abbrev fv (n : Nat) : Value := .func (.func n) #[] #[]
theorem K : Keyed Try.prog 9 := string_keyed Try.underlying9
theorem inj (a b : ByteArray) (h : Value.string a = Value.string b) : a = b := by injection h
theorem zf (w : World) : (zeroValue 31).run Try.prog w = .ok .nilFunc w := by kernel_rfl
theorem ky (s : ByteArray) (h : s.size ≤ maxLen) : keyOf Try.prog 9 (.string s) = some (.string s.data.toList) := by
  simp [keyOf, Try.underlying9, mapKey, h]
theorem k1 (b : UInt8) : keyOf Try.prog 9 (.string ⟨#[b]⟩) = some (.string [b]) := ky ⟨#[b]⟩ (by show 1 ≤ maxLen; decide)
def F : ByteArray → Option Nat := upd (upd (upd (upd (fun _ => none) ⟨#[43]⟩ 10) ⟨#[45]⟩ 11) ⟨#[42]⟩ 12) ⟨#[47]⟩ 13
theorem F1 : F ⟨#[43]⟩ = some 10 := by decide
theorem F2 : F ⟨#[45]⟩ = some 11 := by decide
theorem F3 : F ⟨#[42]⟩ = some 12 := by decide
theorem F4 : F ⟨#[47]⟩ = some 13 := by decide

set_option maxHeartbeats 400000 in
theorem plus (a b : Int) (w : World) :
    Calls Try.prog 6 #[.string ⟨#[43]⟩, .int .i64 a, .int .i64 b] w fun e w' => e = .returned (.tuple #[.int .i64 (wrap64 (a + b)), .int .i64 0]) ∧ Below w.heap.size w w' := by
  have hmm := @run_makeMap Try.prog
  have h0 := MapIs.made w Try.prog 9 Value.string fv
  have b0 := (Below.refl w.heap.size w).alloc (Nat.le_refl _) (.map #[] 0)
  go_enter Try.func6, Try.ntmps6
  go_wp2_with (first | (refine wpList_store rfl _ _ _ 32 (.inr rfl) 31 K inj Try.underlying32 rfl (by assumption) _ rfl (k1 _) 10 rfl ?_; intro w1 h1 g1; have bb := below_row (by assumption) g1 (Nat.le_refl _)) | (refine wpList_store rfl _ _ _ 32 (.inr rfl) 31 K inj Try.underlying32 rfl (by assumption) _ rfl (k1 _) 11 rfl ?_; intro w1 h1 g1; have bb := below_row (by assumption) g1 (Nat.le_refl _)) | (refine wpList_store rfl _ _ _ 32 (.inr rfl) 31 K inj Try.underlying32 rfl (by assumption) _ rfl (k1 _) 12 rfl ?_; intro w1 h1 g1; have bb := below_row (by assumption) g1 (Nat.le_refl _)) | (refine wpList_store rfl _ _ _ 32 (.inr rfl) 31 K inj Try.underlying32 rfl (by assumption) _ rfl (k1 _) 13 rfl ?_; intro w1 h1 g1; have bb := below_row (by assumption) g1 (Nat.le_refl _)) | (refine wpList_look_some rfl _ _ 32 rfl 31 K inj Try.underlying32 (zf _) rfl (by assumption) _ rfl (k1 _) _ F1 ?_) | go_in)
  go_ret2
  exact ⟨rfl, by assumption⟩
set_option maxHeartbeats 400000 in
theorem minus (a b : Int) (w : World) :
    Calls Try.prog 6 #[.string ⟨#[45]⟩, .int .i64 a, .int .i64 b] w fun e w' => e = .returned (.tuple #[.int .i64 (wrap64 (a - b)), .int .i64 0]) ∧ Below w.heap.size w w' := by
  have hmm := @run_makeMap Try.prog
  have h0 := MapIs.made w Try.prog 9 Value.string fv
  have b0 := (Below.refl w.heap.size w).alloc (Nat.le_refl _) (.map #[] 0)
  go_enter Try.func6, Try.ntmps6
  go_wp2_with (first | (refine wpList_store rfl _ _ _ 32 (.inr rfl) 31 K inj Try.underlying32 rfl (by assumption) _ rfl (k1 _) 10 rfl ?_; intro w1 h1 g1; have bb := below_row (by assumption) g1 (Nat.le_refl _)) | (refine wpList_store rfl _ _ _ 32 (.inr rfl) 31 K inj Try.underlying32 rfl (by assumption) _ rfl (k1 _) 11 rfl ?_; intro w1 h1 g1; have bb := below_row (by assumption) g1 (Nat.le_refl _)) | (refine wpList_store rfl _ _ _ 32 (.inr rfl) 31 K inj Try.underlying32 rfl (by assumption) _ rfl (k1 _) 12 rfl ?_; intro w1 h1 g1; have bb := below_row (by assumption) g1 (Nat.le_refl _)) | (refine wpList_store rfl _ _ _ 32 (.inr rfl) 31 K inj Try.underlying32 rfl (by assumption) _ rfl (k1 _) 13 rfl ?_; intro w1 h1 g1; have bb := below_row (by assumption) g1 (Nat.le_refl _)) | (refine wpList_look_some rfl _ _ 32 rfl 31 K inj Try.underlying32 (zf _) rfl (by assumption) _ rfl (k1 _) _ F2 ?_) | go_in)
  go_ret2
  exact ⟨rfl, by assumption⟩
set_option maxHeartbeats 400000 in
theorem times (a b : Int) (w : World) :
    Calls Try.prog 6 #[.string ⟨#[42]⟩, .int .i64 a, .int .i64 b] w fun e w' => e = .returned (.tuple #[.int .i64 (wrap64 (a * b)), .int .i64 0]) ∧ Below w.heap.size w w' := by
  have hmm := @run_makeMap Try.prog
  have h0 := MapIs.made w Try.prog 9 Value.string fv
  have b0 := (Below.refl w.heap.size w).alloc (Nat.le_refl _) (.map #[] 0)
  go_enter Try.func6, Try.ntmps6
  go_wp2_with (first | (refine wpList_store rfl _ _ _ 32 (.inr rfl) 31 K inj Try.underlying32 rfl (by assumption) _ rfl (k1 _) 10 rfl ?_; intro w1 h1 g1; have bb := below_row (by assumption) g1 (Nat.le_refl _)) | (refine wpList_store rfl _ _ _ 32 (.inr rfl) 31 K inj Try.underlying32 rfl (by assumption) _ rfl (k1 _) 11 rfl ?_; intro w1 h1 g1; have bb := below_row (by assumption) g1 (Nat.le_refl _)) | (refine wpList_store rfl _ _ _ 32 (.inr rfl) 31 K inj Try.underlying32 rfl (by assumption) _ rfl (k1 _) 12 rfl ?_; intro w1 h1 g1; have bb := below_row (by assumption) g1 (Nat.le_refl _)) | (refine wpList_store rfl _ _ _ 32 (.inr rfl) 31 K inj Try.underlying32 rfl (by assumption) _ rfl (k1 _) 13 rfl ?_; intro w1 h1 g1; have bb := below_row (by assumption) g1 (Nat.le_refl _)) | (refine wpList_look_some rfl _ _ 32 rfl 31 K inj Try.underlying32 (zf _) rfl (by assumption) _ rfl (k1 _) _ F3 ?_) | go_in)
  go_ret2
  exact ⟨rfl, by assumption⟩
set_option maxHeartbeats 400000 in
theorem quo (a b : Int) (h : (b == 0) = false) (w : World) :
    Calls Try.prog 6 #[.string ⟨#[47]⟩, .int .i64 a, .int .i64 b] w fun e w' => e = .returned (.tuple #[.int .i64 (wrap64 (a.tdiv b)), .int .i64 0]) ∧ Below w.heap.size w w' := by
  have h' : ¬ b = 0 := by simpa using h
  have hmm := @run_makeMap Try.prog
  have h0 := MapIs.made w Try.prog 9 Value.string fv
  have b0 := (Below.refl w.heap.size w).alloc (Nat.le_refl _) (.map #[] 0)
  go_enter Try.func6, Try.ntmps6
  go_wp2_with (first | (refine wpList_store rfl _ _ _ 32 (.inr rfl) 31 K inj Try.underlying32 rfl (by assumption) _ rfl (k1 _) 10 rfl ?_; intro w1 h1 g1; have bb := below_row (by assumption) g1 (Nat.le_refl _)) | (refine wpList_store rfl _ _ _ 32 (.inr rfl) 31 K inj Try.underlying32 rfl (by assumption) _ rfl (k1 _) 11 rfl ?_; intro w1 h1 g1; have bb := below_row (by assumption) g1 (Nat.le_refl _)) | (refine wpList_store rfl _ _ _ 32 (.inr rfl) 31 K inj Try.underlying32 rfl (by assumption) _ rfl (k1 _) 12 rfl ?_; intro w1 h1 g1; have bb := below_row (by assumption) g1 (Nat.le_refl _)) | (refine wpList_store rfl _ _ _ 32 (.inr rfl) 31 K inj Try.underlying32 rfl (by assumption) _ rfl (k1 _) 13 rfl ?_; intro w1 h1 g1; have bb := below_row (by assumption) g1 (Nat.le_refl _)) | (refine wpList_look_some rfl _ _ 32 rfl 31 K inj Try.underlying32 (zf _) rfl (by assumption) _ rfl (k1 _) _ F4 ?_) | go_in)
  go_ret2
  exact ⟨rfl, by assumption⟩
set_option maxHeartbeats 400000 in
theorem zero (a : Int) (w : World) :
    Calls Try.prog 6 #[.string ⟨#[47]⟩, .int .i64 a, .int .i64 0] w fun e w' => e = .returned (.tuple #[.int .i64 0, .int .i64 11]) ∧ Below w.heap.size w w' := by
  have hmm := @run_makeMap Try.prog
  have h0 := MapIs.made w Try.prog 9 Value.string fv
  have b0 := (Below.refl w.heap.size w).alloc (Nat.le_refl _) (.map #[] 0)
  go_enter Try.func6, Try.ntmps6
  go_wp2_with (first | (refine wpList_store rfl _ _ _ 32 (.inr rfl) 31 K inj Try.underlying32 rfl (by assumption) _ rfl (k1 _) 10 rfl ?_; intro w1 h1 g1; have bb := below_row (by assumption) g1 (Nat.le_refl _)) | (refine wpList_store rfl _ _ _ 32 (.inr rfl) 31 K inj Try.underlying32 rfl (by assumption) _ rfl (k1 _) 11 rfl ?_; intro w1 h1 g1; have bb := below_row (by assumption) g1 (Nat.le_refl _)) | (refine wpList_store rfl _ _ _ 32 (.inr rfl) 31 K inj Try.underlying32 rfl (by assumption) _ rfl (k1 _) 12 rfl ?_; intro w1 h1 g1; have bb := below_row (by assumption) g1 (Nat.le_refl _)) | (refine wpList_store rfl _ _ _ 32 (.inr rfl) 31 K inj Try.underlying32 rfl (by assumption) _ rfl (k1 _) 13 rfl ?_; intro w1 h1 g1; have bb := below_row (by assumption) g1 (Nat.le_refl _)) | (refine wpList_look_some rfl _ _ 32 rfl 31 K inj Try.underlying32 (zf _) rfl (by assumption) _ rfl (k1 _) _ F4 ?_) | go_in)
  go_ret2
  exact ⟨rfl, by assumption⟩
end Go.Proofs.YthkababkoaimoaaR.num
