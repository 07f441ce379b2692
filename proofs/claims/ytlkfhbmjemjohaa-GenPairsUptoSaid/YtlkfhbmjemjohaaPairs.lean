/- Keys that are pairs of nodes, and numbers. -/
import Derived.Test.YtlkfhbmjemjohaaEqs
import Derived.DeepKeys4
import Derived.DeepKeys5
namespace Go.Proofs.Ytlkfhbmjemjohaa.gr
open Go.RowKit Go.Maps Go.Tre lex
theorem laidOut : laidOutB Try.prog = true := by kernel_rfl
theorem rowP : 63 < Try.prog.types.size := of_decide_eq_true (by kernel_rfl)
theorem wideP : (match Try.prog.underlying 63 with | some (.array _ _) | some (.struct _) => true | _ => false) = true := by kernel_rfl
theorem KP : Keyed Try.prog 63 := Keyed.of_law (deep_law_laid laidOut (m := 2) (by omega) rowP (by kernel_rfl) wideP)
theorem kp (a b : Nat) (ha : a ≤ 8388608) (hb : b ≤ 8388608) : ∃ l, keyOf Try.prog 63 (.agg #[.int .i64 a, .int .i64 b]) = some l := by
  have h1 : Try.prog.keyType 63 = true := by kernel_rfl
  have h2 : (Value.agg #[.int .i64 a, .int .i64 b]).formed Try.prog 63 = true := by kernel_rfl
  have c44 : Try.prog.cellsOf 63 = 2 := by kernel_rfl
  have c3 : Try.prog.cellsOf 3 = 1 := by kernel_rfl
  obtain ⟨m, hm⟩ : ∃ m, Try.prog.types.size = m + 1 := Nat.exists_eq_succ_of_ne_zero (by have := rowP; omega)
  have wa : (Lit.int .i64 (a : Int)).wf = true := by simp [Lit.wf, IntKind.min, IntKind.max, IntKind.signed, IntKind.bits]; omega
  have wb : (Lit.int .i64 (b : Int)).wf = true := by simp [Lit.wf, IntKind.min, IntKind.max, IntKind.signed, IntKind.bits]; omega
  have h3 : (Try.prog.keyLits (Try.prog.types.size + 1) 63 [.int .i64 (a : Int), .int .i64 (b : Int)]) = some [.int .i64 (a : Int), .int .i64 (b : Int)] := by
    rw [hm]
    simp [Program.keyLits, Try.underlying63, Try.underlying3, c44, c3, wa, wb]
  refine ⟨.string (keyBytes [.int .i64 (a : Int), .int .i64 (b : Int)]), ?_⟩
  unfold keyOf
  rw [Try.underlying63]
  simp only [h1, h2, Bool.and_self, if_true]
  show Option.map _ (Try.prog.keyLits (Try.prog.types.size + 1) 63 [.int .i64 (a : Int), .int .i64 (b : Int)]) = _
  rw [h3]
  rfl

abbrev ep (p : Nat × Nat) : Value := .agg #[.int .i64 (p.1 : Int), .int .i64 (p.2 : Int)]
abbrev en (n : Nat) : Value := .int .i64 (n : Int)
theorem injP (a b : Nat × Nat) (h : ep a = ep b) : a = b := by
  obtain ⟨a1, a2⟩ := a
  obtain ⟨b1, b2⟩ := b
  simp only [ep, Value.agg.injEq] at h
  have h' := congrArg Array.toList h
  simp only [List.cons.injEq, Value.int.injEq, true_and, and_true] at h'
  simp only [Prod.mk.injEq]
  omega
theorem injN (a b : Nat) (h : en a = en b) : a = b := by
  simp only [en, Value.int.injEq, true_and] at h
  omega
theorem KI : Keyed Try.prog 3 := int_keyed Try.underlying3
theorem kn (a : Nat) (ha : a ≤ 8388608) : keyOf Try.prog 3 (en a) = some (.int .i64 (a : Int)) :=
  keyOf_int_mk Try.underlying3 (by simp [Lit.wf, IntKind.min, IntKind.max, IntKind.signed, IntKind.bits]; omega)
theorem zb (w : World) : (zeroValue 4).run Try.prog w = .ok (.bool false) w := by kernel_rfl
end Go.Proofs.Ytlkfhbmjemjohaa.gr
