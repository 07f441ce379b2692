/- The walks of alive, of ValueBack: whatever the two numbers, it answers true, and nothing that was there is written. -/
import Derived.Test.YthkababkoaimoaaRNum
import Derived.Test.YthkababkoaimoaaRVmath
namespace Go.Proofs.YthkababkoaimoaaR.vb
open Go.RowKit Go.Maps Go.Tre

theorem plus' (a b s : Int) (w : World) (h : wrap64 (a + b) = s) : Calls Try.prog 6 #[.string ⟨#[43]⟩, .int .i64 a, .int .i64 b] w fun e w' => e = .returned (.tuple #[.int .i64 s, .int .i64 0]) ∧ Below w.heap.size w w' := h ▸ num.plus a b w
theorem minus' (a b s : Int) (w : World) (h : wrap64 (a - b) = s) : Calls Try.prog 6 #[.string ⟨#[45]⟩, .int .i64 a, .int .i64 b] w fun e w' => e = .returned (.tuple #[.int .i64 s, .int .i64 0]) ∧ Below w.heap.size w w' := h ▸ num.minus a b w
theorem times' (a b s : Int) (w : World) (h : wrap64 (a * b) = s) : Calls Try.prog 6 #[.string ⟨#[42]⟩, .int .i64 a, .int .i64 b] w fun e w' => e = .returned (.tuple #[.int .i64 s, .int .i64 0]) ∧ Below w.heap.size w w' := h ▸ num.times a b w
theorem quo' (a b s : Int) (w : World) (hb : b ≠ 0) (h : wrap64 (a.tdiv b) = s) : Calls Try.prog 6 #[.string ⟨#[47]⟩, .int .i64 a, .int .i64 b] w fun e w' => e = .returned (.tuple #[.int .i64 s, .int .i64 0]) ∧ Below w.heap.size w w' := h ▸ num.quo a b (by simpa using hb) w

theorem pairc (w : World) : Calls Try.prog 8 #[.string ⟨#[49]⟩, .string ⟨#[116, 114, 117, 101]⟩] w fun e w' => e = .returned (.string ⟨#[40, 49, 44, 32, 116, 114, 117, 101, 41]⟩) ∧ w = w' := by
  have he : (⟨#[40]⟩ : ByteArray) ++ ⟨#[49]⟩ ++ ⟨#[44, 32]⟩ ++ ⟨#[116, 114, 117, 101]⟩ ++ ⟨#[41]⟩ = ⟨#[40, 49, 44, 32, 116, 114, 117, 101, 41]⟩ := by decide +kernel
  go_enter Try.func8, Try.ntmps8
  go_wp2
  go_ret
  exact ⟨by first | rfl | (simp [he]; done), rfl⟩

theorem alive (w : World) : Calls Try.prog 5 #[] w fun e w' => e = .returned (.bool true) ∧ Below w.heap.size w w' := by
  go_enter Try.func5, Try.ntmps5
  go_wp2_with fail
  refine (quo' (-7) 2 (-3) _ (by decide) (by decide +kernel)).mono ?_
  rintro e w1 ⟨rfl, b1⟩
  go_wp2_with (first | (go_at_call 8; refine (pairc _).mono ?_; rintro e w' ⟨rfl, rfl⟩) | go_in)
  go_ret
  exact ⟨rfl, b1⟩
end Go.Proofs.YthkababkoaimoaaR.vb
