/- An argument that is a slice of numbers. -/
import Derived.Test.YtlkfhbmjemjohaaOpen
namespace Go.Proofs.Ytlkfhbmjemjohaa.gr
open Go.RowKit Go.Maps Go.Tre lex Go.ChangeShapes Go.WideShapes Go.Deep
theorem open_intsP {H : Type} {enc : TypeId × Value → H} {w : World} {base : Nat} {sp : Nat → Bool} {held : Bool} {r : Reach} {b0 : Nat} {v : Value} {d : DataW H} {ps : List MemPlace} (hval : Value.okWide Try.prog w r b0 25 v) (hd : DataW.Trod enc Try.prog w base sp held 25 v d ps) :
    ∃ (a : Option Addr) (cap : Nat) (xs : List Int), v = .slice a xs.length cap ∧ IntsAt w a xs ∧ xs.length ≤ Rows.uptoBulk d := by
  obtain ⟨fuel, hf⟩ := hd
  obtain ⟨a, cap, xs, e, hx, _, hz⟩ := open_ints' Try.underlying25 Try.underlying3 cellsInt hf
  have hv : v = .slice a xs.length cap := by
    obtain ⟨a', n', c', rfl⟩ := okWide_slice Try.underlying25 hval
    simp [Value.cells] at e
    obtain ⟨rfl, rfl, rfl⟩ := e
    rfl
  refine ⟨a, cap, xs, hv, hx, ?_⟩
  rcases hz with ⟨_, rfl⟩ | ⟨q, z⟩
  · simp
  · simp only at z
    rw [z]; simp only [Rows.uptoBulk, bulk_ints]; omega
end Go.Proofs.Ytlkfhbmjemjohaa.gr
