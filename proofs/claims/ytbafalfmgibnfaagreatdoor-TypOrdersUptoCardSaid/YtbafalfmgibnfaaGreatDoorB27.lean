/- How an argument that is a list of parts lies in memory, out of its reading. -/
import Derived.Test.YtbafalfmgibnfaaGreatDoorB26
import Derived.Test.YtbafalfmgibnfaaGreatDoorB23
set_option linter.unusedVariables false
namespace Go.Proofs.YtbafalfmgibnfaaGreatDoor.part
open Go.RowKit Go.Maps Go.Tre Go.ChangeShapes Go.Deep gr
set_option maxRecDepth 100000
theorem sum_ones {α : Type} : ∀ l : List α, (l.map fun _ => 1).sum = l.length
 | [] => rfl
 | x :: r => by rw [List.map_cons, List.sum_cons, sum_ones r, List.length_cons]; omega
theorem cellsPart : Tryz.prog.cellsOf 48 = 4 := by kernel_rfl
section
variable {H : Type} {enc : TypeId × Value → H} {w : World} {base : Nat} {sp : Nat → Bool} {held : Bool}
theorem u8_bounds {k : Int} (h : Lit.wf (.int .u8 k) = true) : 0 ≤ k ∧ k < 256 := by
 simp [Lit.wf, IntKind.min, IntKind.max, IntKind.signed, IntKind.bits] at h
 omega
theorem open_part {fuel : Nat} {cs : List Value} {x : DataW H × List MemPlace} (h : DataW.trod enc Tryz.prog w base sp held fuel 48 cs = some x) :
  ∃ p : Prt, cs = [.int .u8 p.kind, .string ⟨p.s.toArray⟩, .int .u8 p.args, .bool p.opn] ∧ p.kind < 256 ∧ p.args < 256 ∧ p.s.length + 4 ≤ Rows.uptoBulk x.1 := by
 obtain ⟨xs, n, _, rfl, hl, hn, hf⟩ := DataW.trod_struct Tryz.underlying48 h
 rw [cellsPart] at hl
 match cs, hl, xs, hn with
 | [c0, c1, c2, c3], _, [y0, y1, y2, y3], _ =>
  have f0 := hf 0 _ rfl
  have f1 := hf 1 _ rfl
  have f2 := hf 2 _ rfl
  have f3 := hf 3 _ rfl
  simp only [zqc, zqb] at f0 f1 f2 f3
  obtain ⟨k, e0, z0, b0⟩ := DataW.trod_int Tryz.underlying5 f0
  obtain ⟨s, e1, z1, _⟩ := DataW.trod_string Tryz.underlying9 f1
  obtain ⟨m, e2, z2, b2⟩ := DataW.trod_int Tryz.underlying5 f2
  obtain ⟨b, e3, z3⟩ := DataW.trod_bool Tryz.underlying4 f3
  cases e0; cases e1; cases e2; cases e3
  have k0 := u8_bounds b0
  have k2 := u8_bounds b2
  obtain ⟨kn, rfl⟩ : ∃ kn : Nat, (kn : Int) = k := ⟨k.toNat, by omega⟩
  obtain ⟨mn, rfl⟩ : ∃ mn : Nat, (mn : Int) = m := ⟨m.toNat, by omega⟩
  refine ⟨⟨kn, s.data.toList, mn, b⟩, ?_, by show kn < 256; omega, by show mn < 256; omega, ?_⟩
  ·have : (⟨s.data.toList.toArray⟩ : ByteArray) = s := rfl
   simp only [this]
  ·have q0 : 1 ≤ Rows.uptoBulk y0.1 := bulk_pos _
   have q2 : 1 ≤ Rows.uptoBulk y2.1 := bulk_pos _
   have q3 : 1 ≤ Rows.uptoBulk y3.1 := bulk_pos _
   have q1 : s.data.toList.length + 1 ≤ Rows.uptoBulk y1.1 := by rw [z1]; simp only [Rows.uptoBulk]; exact Nat.le_refl _
   simp only [List.map_cons, List.map_nil, Rows.uptoBulk, Rows.uptoBulkAll]
   omega
theorem open_parts' {fuel : Nat} {cs : List Value} {x : DataW H × List MemPlace} (h : DataW.trod enc Tryz.prog w base sp held fuel 22 cs = some x) :
  ∃ (a : Option Addr) (cap : Nat) (l : List Prt), cs = [.slice a l.length cap] ∧ PrtsAt w a l ∧ l.length ≤ cap ∧ l.length + 1 ≤ Rows.uptoBulk x.1 := by
 rcases open_slice Tryz.underlying22 h with ⟨h1, h2⟩ | ⟨a, len, cap, m, fu, D, Pl, h1, _, h3, _, h5, rfl, h7⟩
 ·exact ⟨none, 0, [], h1, PrtsAt.nil _ _, Nat.le_refl _, by rw [h2]; simp [Rows.uptoBulk]⟩
 ·rw [cellsPart] at h7
  have hm : len ≤ m := by rw [h5]; split <;> omega
  have step : ∀ i, i < len → ∃ n : Prt, 1 ≤ Rows.uptoBulk (D i) ∧ ∃ b off, a = ⟨b, off, none⟩ ∧ PrtAt w b (off + i * 4) n := by
   intro i hi
   obtain ⟨cs', hc, ht⟩ := h7 i (by omega)
   obtain ⟨n, e, hk, ha, hw⟩ := open_part ht
   obtain ⟨_, _, hcell⟩ := World.cells?_some hc
   subst e
   have k0 : w.cell? ((a.add (i * 4)).add 0) = some (.int .u8 n.kind) := hcell 0 (by omega)
   have hp : ∃ b off, a = ⟨b, off, none⟩ := by
    by_cases hi0 : i = 0
    ·subst hi0
     rcases addr_plain k0 with h' | h'
     ·obtain ⟨b, off, e⟩ := h'
      exact ⟨b, off, by simpa [Addr.add] using e⟩
     ·omega
    ·obtain ⟨cs0, hc0, ht0⟩ := h7 0 (by omega)
     obtain ⟨n0, e0, _⟩ := open_part ht0
     obtain ⟨_, _, hcell0⟩ := World.cells?_some hc0
     subst e0
     have k00 : w.cell? ((a.add (0 * 4)).add 0) = some (.int .u8 n0.kind) := hcell0 0 (by omega)
     rcases addr_plain k00 with h' | h'
     ·obtain ⟨b, off, e⟩ := h'
      exact ⟨b, off, by simpa [Addr.add] using e⟩
     ·omega
   obtain ⟨b, off, rfl⟩ := hp
   have g : ∀ j, j < 4 → w.cell? ⟨b, off + i * 4 + j, none⟩ = ([.int .u8 n.kind, .string ⟨n.s.toArray⟩, .int .u8 n.args, .bool n.opn] : List Value)[j]? := fun j hj => by
    have := hcell j hj
    rwa [add_plain, add_plain] at this
   exact ⟨n, Nat.le_trans (by omega : 1 ≤ n.s.length + 4) hw, b, off, rfl, g 0 (by omega), g 1 (by omega), g 2 (by omega), g 3 (by omega), hk, ha⟩
  obtain ⟨f, hf⟩ : ∃ f : Nat → Prt, ∀ i, i < len → 1 ≤ Rows.uptoBulk (D i) ∧ ∃ b off, a = ⟨b, off, none⟩ ∧ PrtAt w b (off + i * 4) (f i) :=
   ⟨fun i => if h : i < len then Classical.choose (step i h) else ⟨0, [], 0, false⟩, fun i hi => by simp only [hi, dif_pos]; exact Classical.choose_spec (step i hi)⟩
  have hl : ((List.range len).map f).length = len := by simp
  refine ⟨some a, cap, (List.range len).map f, by rw [hl]; exact h1, ⟨fun k n hn => ?_⟩, by rw [hl]; exact h3, ?_⟩
  ·rw [List.getElem?_map] at hn
   obtain ⟨i, hi, rfl⟩ := Option.map_eq_some_iff.1 hn
   have hk : k < len := by have := (List.getElem?_eq_some_iff.1 hi).1; simpa using this
   rw [List.getElem?_range hk] at hi
   cases hi
   obtain ⟨_, b, off, e, hn⟩ := hf k hk
   exact ⟨b, off, by rw [e], hn⟩
  ·have h1 := bulk_map D (fun _ => 1) (List.range len) (fun i hi => (hf i (List.mem_range.1 hi)).1)
   have h2 : ((List.range len).map fun _ => 1).sum = len := by
    rw [sum_ones, List.length_range]
   rw [hl]
   simp only [Rows.uptoBulk]
   omega
theorem open_parts {r : Reach} {b0 : Nat} {v : Value} {d : DataW H} {ps : List MemPlace} (hval : Value.okWide Tryz.prog w r b0 22 v) (hd : DataW.Trod enc Tryz.prog w base sp held 22 v d ps) :
  ∃ (a : Option Addr) (cap : Nat) (l : List Prt), v = .slice a l.length cap ∧ (PrtsAt w a l ∧ l.length ≤ cap) ∧ l.length + 1 ≤ Rows.uptoBulk d := by
 obtain ⟨fuel, hf⟩ := hd
 obtain ⟨a, cap, l, e, h1, h2, h3⟩ := open_parts' hf
 refine ⟨a, cap, l, ?_, ⟨h1, h2⟩, h3⟩
 have hno : ∀ cs, v ≠ .agg cs := fun cs hcs => by
  subst hcs
  unfold Value.okWide at hval
  rw [Tryz.underlying22] at hval
  simp only [Cell.okWide, Tryz.underlying22] at hval
  simp [Cell.ok, Tryz.underlying22] at hval
 cases v with
 | agg cs => exact absurd rfl (hno cs)
 | _ => exact (List.cons.inj e).1
end
end Go.Proofs.YtbafalfmgibnfaaGreatDoor.part
