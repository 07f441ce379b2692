/- gen.Fixed, gen.Generic. -/
import Derived.Test.YtlkfhbmjemjohaaSorts
namespace Go.Tre
theorem mono_ok {g : Tre.Graph} {mono : List Nat} (c0 : g.checkC = 0) (hm : ∀ m ∈ mono, m < g.ns.length) : g.monoC (mono.map fun k : Nat => (k : Int)) = 0 := by
  unfold Graph.monoC
  rw [if_neg (by simp [c0]), if_neg]
  intro h
  obtain ⟨z, hz, e⟩ := List.any_eq_true.1 h
  obtain ⟨m, hm', rfl⟩ := List.mem_map.1 hz
  have := hm m hm'
  unfold outside at e
  simp only [Bool.or_eq_true, decide_eq_true_eq] at e
  omega
theorem mono_of {g : Tre.Graph} {mono : List Int} (h : g.monoC mono = 0) : g.checkC = 0 ∧ mono = (mono.map Int.toNat).map (fun k : Nat => (k : Int)) ∧ ∀ m ∈ mono.map Int.toNat, m < g.ns.length := by
  unfold Graph.monoC at h
  by_cases c0 : g.checkC = 0
  · rw [if_neg (by simp [c0])] at h
    have hin : ∀ z ∈ mono, 0 ≤ z ∧ z < (g.ns.length : Int) := fun z hz => by
      cases hy : outside g.ns.length z
      · unfold outside at hy
        simp only [Bool.or_eq_false_iff, decide_eq_false_iff_not] at hy
        omega
      · rw [if_pos (List.any_eq_true.2 ⟨z, hz, hy⟩)] at h; cases h
    refine ⟨c0, ?_, fun m hm => ?_⟩
    · rw [List.map_map]
      conv => lhs; rw [← List.map_id mono]
      refine List.map_congr_left (fun z hz => ?_)
      have := hin z hz
      simp only [id, Function.comp]
      omega
    · obtain ⟨z, hz, rfl⟩ := List.mem_map.1 hm
      have := hin z hz
      omega
  · rw [if_pos c0] at h; exact absurd h c0
theorem not_zero {n : Int} (h : ¬ n = 0) : (n != 0) = true := by simp [h]
end Go.Tre
namespace Go.Proofs.Ytlkfhbmjemjohaa.gr
open Go.RowKit Go.Shelf Go.Maps Go.Tre lex
set_option maxHeartbeats 1000000 in
theorem generic_ok (a : Option Addr) (ca : Nat) (g : Tre.Graph) (am : Option Addr) (cm : Nat) (mono : List Nat) (w : World) (hg : NodesAt w a g.ns) (c0 : g.checkC = 0) (wg : g.weight ≤ 2097152) (hl : IntsAt w am (mono.map fun k : Nat => (k : Int))) (hm : ∀ m ∈ mono, m < g.ns.length) (hll : mono.length ≤ 2097152) (hx : MaxAt w) :
    Calls Try.prog 9 #[.agg #[.slice a g.ns.length ca, .int .i64 g.root], .slice am mono.length cm] w fun e w' =>
      ∃ v, e = .returned (.tuple #[v, .int .i64 0]) ∧ Mem w w' [rowR 3 1 v (g.genericL mono).length ((g.genericL mono).map rk)] := by
  have M := (Mem.nil w).allocR #[.slice a g.ns.length ca, .int .i64 g.root] 24
  have CK := gcheck_any a ca g am cm (mono.map fun k : Nat => (k : Int)) _ (hg.below M.below) wg (hl.below M.below) (by rw [List.length_map]; omega) (hx.below M.below)
  rw [List.length_map, mono_ok c0 hm] at CK
  have HCK := Tre.hid CK
  have HG := Tre.hid hg
  have HL := Tre.hid hl
  have HM0 := Tre.hid M
  have C0 := Tre.hid c0
  have HLM := Tre.hid hm
  clear hg hl hx c0 hm M CK
  go_enter Try.func9, Try.ntmps9
  go_wp2_with fail
  refine HCK.out.mono ?_
  rintro e w1 ⟨rfl, b1⟩
  have M1 := HM0.out.quiet b1
  obtain ⟨g0, g1⟩ := M1.two 0 rfl
  have HM1 := Tre.hid M1
  clear M1 b1
  go_wp2_with fail
  refine (sorts_any a ca g am cm mono _ (HG.out.below HM1.out.below) C0.out wg (HL.out.below HM1.out.below) HLM.out hll).mono ?_
  rintro e w2 ⟨v1, v2, rfl, m2⟩
  have HM2 := Tre.hid (HM1.out.call m2)
  clear m2
  go_wp2_with fail
  go_ret2
  exact ⟨_, rfl, (HM2.out.del 0).del 1⟩
set_option maxHeartbeats 1000000 in
theorem fixed_ok (a : Option Addr) (ca : Nat) (g : Tre.Graph) (am : Option Addr) (cm : Nat) (mono : List Nat) (w : World) (hg : NodesAt w a g.ns) (c0 : g.checkC = 0) (wg : g.weight ≤ 2097152) (hl : IntsAt w am (mono.map fun k : Nat => (k : Int))) (hm : ∀ m ∈ mono, m < g.ns.length) (hll : mono.length ≤ 2097152) (hx : MaxAt w) :
    Calls Try.prog 10 #[.agg #[.slice a g.ns.length ca, .int .i64 g.root], .slice am mono.length cm] w fun e w' =>
      ∃ v, e = .returned (.tuple #[v, .int .i64 0]) ∧ Mem w w' [rowR 3 1 v (g.fixedL mono).length ((g.fixedL mono).map rk)] := by
  have M := (Mem.nil w).allocR #[.slice a g.ns.length ca, .int .i64 g.root] 24
  have CK := gcheck_any a ca g am cm (mono.map fun k : Nat => (k : Int)) _ (hg.below M.below) wg (hl.below M.below) (by rw [List.length_map]; omega) (hx.below M.below)
  rw [List.length_map, mono_ok c0 hm] at CK
  have HCK := Tre.hid CK
  have HG := Tre.hid hg
  have HL := Tre.hid hl
  have HM0 := Tre.hid M
  have C0 := Tre.hid c0
  have HLM := Tre.hid hm
  clear hg hl hx c0 hm M CK
  go_enter Try.func10, Try.ntmps10
  go_wp2_with fail
  refine HCK.out.mono ?_
  rintro e w1 ⟨rfl, b1⟩
  have M1 := HM0.out.quiet b1
  obtain ⟨g0, g1⟩ := M1.two 0 rfl
  have HM1 := Tre.hid M1
  clear M1 b1
  go_wp2_with fail
  refine (sorts_any a ca g am cm mono _ (HG.out.below HM1.out.below) C0.out wg (HL.out.below HM1.out.below) HLM.out hll).mono ?_
  rintro e w2 ⟨v1, v2, rfl, m2⟩
  have HM2 := Tre.hid (HM1.out.call m2)
  clear m2
  go_wp2_with fail
  go_ret2
  exact ⟨_, rfl, (HM2.out.del 1).del 1⟩
set_option maxHeartbeats 1000000 in
theorem generic_no (a : Option Addr) (ca : Nat) (g : Tre.Graph) (am : Option Addr) (cm : Nat) (mono : List Int) (w : World) (hg : NodesAt w a g.ns) (wg : g.weight ≤ 2097152) (hl : IntsAt w am mono) (hll : mono.length ≤ 2097152) (hx : MaxAt w) (hc : ¬ g.monoC mono = 0) :
    Calls Try.prog 9 #[.agg #[.slice a g.ns.length ca, .int .i64 g.root], .slice am mono.length cm] w fun e w' => e = .returned (.tuple #[.slice none 0 0, .int .i64 (g.monoC mono)]) ∧ Below w.heap.size w w' := by
  have M := (Mem.nil w).allocR #[.slice a g.ns.length ca, .int .i64 g.root] 24
  have HCK := Tre.hid (gcheck_any a ca g am cm mono _ (hg.below M.below) wg (hl.below M.below) (by omega) (hx.below M.below))
  have HM0 := Tre.hid M
  have u0 := not_zero hc
  clear hg hl hx M hc
  go_enter Try.func9, Try.ntmps9
  go_wp2_with fail
  refine HCK.out.mono ?_
  rintro e w1 ⟨rfl, b1⟩
  have HM1 := Tre.hid (HM0.out.quiet b1)
  clear b1
  go_wp2_with fail
  go_ret2
  exact ⟨rfl, HM1.out.below⟩
set_option maxHeartbeats 1000000 in
theorem fixed_no (a : Option Addr) (ca : Nat) (g : Tre.Graph) (am : Option Addr) (cm : Nat) (mono : List Int) (w : World) (hg : NodesAt w a g.ns) (wg : g.weight ≤ 2097152) (hl : IntsAt w am mono) (hll : mono.length ≤ 2097152) (hx : MaxAt w) (hc : ¬ g.monoC mono = 0) :
    Calls Try.prog 10 #[.agg #[.slice a g.ns.length ca, .int .i64 g.root], .slice am mono.length cm] w fun e w' => e = .returned (.tuple #[.slice none 0 0, .int .i64 (g.monoC mono)]) ∧ Below w.heap.size w w' := by
  have M := (Mem.nil w).allocR #[.slice a g.ns.length ca, .int .i64 g.root] 24
  have HCK := Tre.hid (gcheck_any a ca g am cm mono _ (hg.below M.below) wg (hl.below M.below) (by omega) (hx.below M.below))
  have HM0 := Tre.hid M
  have u0 := not_zero hc
  clear hg hl hx M hc
  go_enter Try.func10, Try.ntmps10
  go_wp2_with fail
  refine HCK.out.mono ?_
  rintro e w1 ⟨rfl, b1⟩
  have HM1 := Tre.hid (HM0.out.quiet b1)
  clear b1
  go_wp2_with fail
  go_ret2
  exact ⟨rfl, HM1.out.below⟩
end Go.Proofs.Ytlkfhbmjemjohaa.gr
