/- The law's example. -/
import Derived.Test.YtgngnkajjldnlaaTrim
import Derived.Test.YtgngnkajjldnlaaSama
namespace Go.Tre
open Go.RowKit
def arrowB : ByteArray := ⟨#[45, 62]⟩
def exG : Tre.Graph := ⟨[⟨2, arrowB, [1, 0], [], false⟩, ⟨1, ByteArray.empty, [], [], false⟩], 0⟩
def exH : Tre.Graph := ⟨[⟨2, arrowB, [1, 2], [], false⟩, ⟨1, ByteArray.empty, [], [], false⟩, ⟨2, arrowB, [1, 0], [], false⟩], 0⟩
def exE : Tre.Graph := ⟨[], 0⟩
theorem exG_ok : exG.checkC = 0 := by decide +kernel
theorem exH_ok : exH.checkC = 0 := by decide +kernel
theorem exE_no : exE.checkC = 2 := by decide +kernel
theorem exH_reach : exH.reachL = [0, 1, 2] := by
  unfold Graph.reachL
  rw [if_pos exH_ok]
  show exH.dfs [0] [] = _
  rw [Graph.dfs_take (by decide) (by decide), show exH.kids 0 = [1, 2] from rfl]
  show exH.dfs [1, 2] [0] = _
  rw [Graph.dfs_take (by decide) (by decide), show exH.kids 1 = [] from rfl]
  show exH.dfs [2] [0, 1] = _
  rw [Graph.dfs_take (by decide) (by decide), show exH.kids 2 = [1, 0] from rfl]
  show exH.dfs [1, 0] [0, 1, 2] = _
  rw [Graph.dfs_skip (by decide), Graph.dfs_skip (by decide), Graph.dfs_nil]
theorem ex_rp {a b : Nat} (r : RP exG exH a b) : (a = 0 ∧ b = 0) ∨ (a = 1 ∧ b = 1) ∨ (a = 0 ∧ b = 2) := by
  induction r with
  | root => exact .inl ⟨rfl, rfl⟩
  | kid _ h1 h2 ih =>
    rename_i i _
    rcases ih with ⟨rfl, rfl⟩ | ⟨rfl, rfl⟩ | ⟨rfl, rfl⟩
    · have h3 : i < 2 := h1
      match i, h3 with
      | 0, _ => exact .inr (.inl ⟨rfl, rfl⟩)
      | 1, _ => exact .inr (.inr ⟨rfl, rfl⟩)
    · have h3 : i < 0 := h1
      omega
    · have h3 : i < 2 := h1
      match i, h3 with
      | 0, _ => exact .inr (.inl ⟨rfl, rfl⟩)
      | 1, _ => exact .inl ⟨rfl, rfl⟩
theorem ex_same : SameG exG exH := by
  refine ⟨exG_ok, exH_ok, fun a b r => ?_, fun a b a' b' r r' hf => ?_⟩
  · rcases ex_rp r with ⟨rfl, rfl⟩ | ⟨rfl, rfl⟩ | ⟨rfl, rfl⟩ <;> decide +kernel
  · rcases ex_rp r with ⟨rfl, rfl⟩ | ⟨rfl, rfl⟩ | ⟨rfl, rfl⟩
    · exact absurd hf (by decide +kernel)
    · rcases ex_rp r' with ⟨rfl, rfl⟩ | ⟨rfl, rfl⟩ | ⟨rfl, rfl⟩ <;> decide
    · exact absurd hf (by decide +kernel)
theorem sameB_true {g h : Tre.Graph} (s : SameG g h) : sameB g h = true := by unfold sameB; simp [s]
/-- a row written out -/
theorem row_lit {W : World} {b : Nat} {t : TypeId} {cs : Array Value} (h : W.heap[b]? = some (.cells cs t (0, 0))) (sz n : Nat) (hl : cs.toList.length = n * sz) : Row W sz (some ⟨b, 0, none⟩) n cs.toList :=
  ⟨hl, fun j u hu => ⟨b, 0, rfl, by rw [Nat.zero_add]; simp [World.cell?, h] at hu ⊢; exact hu⟩⟩
theorem row_none (W : World) (sz : Nat) : Row W sz none 0 [] := ⟨by simp, fun j u hu => by simp at hu⟩
theorem lt_len2 {α : Type} {l : List α} {k : Nat} {x : α} (h : l[k]? = some x) : k < l.length := (List.getElem?_eq_some_iff.1 h).1
end Go.Tre
namespace Go.Proofs.Ytgngnkajjldnlaa.gr
open Go.RowKit Go.Shelf Go.Maps Go.Tre lex
theorem heapSize_alloc (w : World) (o : Obj) : (w.alloc o).heap.size = w.heap.size + 1 := by simp
set_option maxRecDepth 100000 in
set_option maxHeartbeats 2000000 in
theorem alive_any (w : World) (hm : MaxAt w) : Calls Try.prog 9 #[] w fun e w' => e = .returned (.bool true) ∧ Below w.heap.size w w' := by
  have HM := Tre.hid hm
  clear hm
  go_enter Try.func9, Try.ntmps9
  go_wp2_with fail
  have M := (((((((((Mem.nil w).allocR #[.int .i64 1, .string ByteArray.empty, .slice none 0 0, .slice none 0 0, .bool false] 33).allocR #[.int .i64 1, .int .i64 0] 3).allocR
    #[.int .i64 2, .string arrowB, .slice (some ⟨w.heap.size + 1, 0, none⟩) 2 2, .slice none 0 0, .bool false, .int .i64 1, .string ByteArray.empty, .slice none 0 0, .slice none 0 0, .bool false] 33).allocR
    #[.slice (some ⟨w.heap.size + 1 + 1, 0, none⟩) 2 2, .int .i64 0] 24).allocR #[.int .i64 1, .int .i64 2] 3).allocR #[.int .i64 1, .int .i64 0] 3).allocR
    #[.int .i64 2, .string arrowB, .slice (some ⟨w.heap.size + 1 + 1 + 1 + 1, 0, none⟩) 2 2, .slice none 0 0, .bool false, .int .i64 1, .string ByteArray.empty, .slice none 0 0, .slice none 0 0, .bool false, .int .i64 2, .string arrowB, .slice (some ⟨w.heap.size + 1 + 1 + 1 + 1 + 1, 0, none⟩) 2 2, .slice none 0 0, .bool false] 33).allocR
    #[.slice (some ⟨w.heap.size + 1 + 1 + 1 + 1 + 1 + 1, 0, none⟩) 3 3, .int .i64 0] 24)
  simp only [heapSize_alloc] at M
  have n3 := M.heap 1 rfl
  have n2 := M.heap 5 rfl
  have a1 := M.heap 6 rfl
  have a4 := M.heap 3 rfl
  have a5 := M.heap 2 rfl
  have bH : NodesAt _ (some ⟨w.heap.size + 1 + 1 + 1 + 1 + 1 + 1, 0, none⟩) exH.ns := ⟨fun k n hn => ⟨_, 0, rfl, by
    have hk : k < 3 := lt_len2 hn
    match k, hk with
    | 0, _ => cases hn; exact ⟨_, _, _, _, cell_of_heap n3 rfl, cell_of_heap n3 rfl, cell_of_heap n3 rfl, cell_of_heap n3 rfl, cell_of_heap n3 rfl, row_lit a4 1 2 rfl, row_none _ _, Nat.le_refl _, Nat.le_refl _⟩
    | 1, _ => cases hn; exact ⟨_, _, _, _, cell_of_heap n3 rfl, cell_of_heap n3 rfl, cell_of_heap n3 rfl, cell_of_heap n3 rfl, cell_of_heap n3 rfl, row_none _ _, row_none _ _, Nat.le_refl _, Nat.le_refl _⟩
    | 2, _ => cases hn; exact ⟨_, _, _, _, cell_of_heap n3 rfl, cell_of_heap n3 rfl, cell_of_heap n3 rfl, cell_of_heap n3 rfl, cell_of_heap n3 rfl, row_lit a5 1 2 rfl, row_none _ _, Nat.le_refl _, Nat.le_refl _⟩⟩⟩
  have bG : NodesAt _ (some ⟨w.heap.size + 1 + 1, 0, none⟩) exG.ns := ⟨fun k n hn => ⟨_, 0, rfl, by
    have hk : k < 2 := lt_len2 hn
    match k, hk with
    | 0, _ => cases hn; exact ⟨_, _, _, _, cell_of_heap n2 rfl, cell_of_heap n2 rfl, cell_of_heap n2 rfl, cell_of_heap n2 rfl, cell_of_heap n2 rfl, row_lit a1 1 2 rfl, row_none _ _, Nat.le_refl _, Nat.le_refl _⟩
    | 1, _ => cases hn; exact ⟨_, _, _, _, cell_of_heap n2 rfl, cell_of_heap n2 rfl, cell_of_heap n2 rfl, cell_of_heap n2 rfl, cell_of_heap n2 rfl, row_none _ _, row_none _ _, Nat.le_refl _, Nat.le_refl _⟩⟩⟩
  have HBH := Tre.hid bH
  have HBG := Tre.hid bG
  have HMM := Tre.hid M
  clear n3 n2 a1 a4 a5 bH bG M
  refine (reach_any _ 3 exH _ HBH.out (by decide +kernel) (HM.out.below HMM.out.below)).mono ?_
  rintro e w1 ⟨vl, rfl, m1⟩
  rw [exH_reach] at m1
  have M1 := HMM.out.call m1
  obtain ⟨al, cl, rfl, _⟩ := M1.val 0 rfl
  have b1 := m1.below
  have B1 := Tre.hid b1
  have g0 : w1.cell? ⟨w.heap.size + 1 + 1 + 1, 0, none⟩ = some (.slice (some ⟨w.heap.size + 1 + 1, 0, none⟩) 2 2) := M1.cell 5 rfl 0 rfl
  have g1 : w1.cell? ⟨w.heap.size + 1 + 1 + 1, 1, none⟩ = some (.int .i64 0) := M1.cell 5 rfl 1 rfl
  have h0 : w1.cell? ⟨w.heap.size + 1 + 1 + 1 + 1 + 1 + 1 + 1, 0, none⟩ = some (.slice (some ⟨w.heap.size + 1 + 1 + 1 + 1 + 1 + 1, 0, none⟩) 3 3) := M1.cell 1 rfl 0 rfl
  have h1 : w1.cell? ⟨w.heap.size + 1 + 1 + 1 + 1 + 1 + 1 + 1, 1, none⟩ = some (.int .i64 0) := M1.cell 1 rfl 1 rfl
  have HM1 := Tre.hid M1
  clear M1 m1 b1
  go_wp2_with fail
  refine (same_any _ _ 2 3 exG exH _ (HBG.out.below B1.out) (HBH.out.below B1.out) (by decide +kernel) (by decide +kernel) (HM.out.below HM1.out.below)).mono ?_
  rintro e w2 ⟨rfl, b2⟩
  rw [sameB_true ex_same]
  have M2 := HM1.out.quiet b2
  have g0 : w2.cell? ⟨w.heap.size + 1 + 1 + 1, 0, none⟩ = some (.slice (some ⟨w.heap.size + 1 + 1, 0, none⟩) 2 2) := M2.cell 5 rfl 0 rfl
  have g1 : w2.cell? ⟨w.heap.size + 1 + 1 + 1, 1, none⟩ = some (.int .i64 0) := M2.cell 5 rfl 1 rfl
  have B2 := Tre.hid (B1.out.trans (b2.mono B1.out.size))
  have HM2 := Tre.hid M2
  clear M2 b2
  go_wp2_with fail
  refine (check_any none 0 exE _ ⟨fun k n hn => by simp [exE] at hn⟩ (by decide +kernel) (HM.out.below HM2.out.below)).mono ?_
  rintro e w3 ⟨rfl, b3⟩
  rw [exE_no]
  have M3 := HM2.out.quiet b3
  have g0 : w3.cell? ⟨w.heap.size + 1 + 1 + 1, 0, none⟩ = some (.slice (some ⟨w.heap.size + 1 + 1, 0, none⟩) 2 2) := M3.cell 5 rfl 0 rfl
  have g1 : w3.cell? ⟨w.heap.size + 1 + 1 + 1, 1, none⟩ = some (.int .i64 0) := M3.cell 5 rfl 1 rfl
  have B3 := Tre.hid (B2.out.trans (b3.mono B2.out.size))
  have HM3 := Tre.hid M3
  clear M3 b3
  go_wp2_with fail
  refine (check_any _ 2 exG _ (HBG.out.below B3.out) (by decide +kernel) (HM.out.below HM3.out.below)).mono ?_
  rintro e w4 ⟨rfl, b4⟩
  rw [exG_ok]
  have M4 := HM3.out.quiet b4
  have HM4 := Tre.hid M4
  clear M4 b4
  go_wp2_with fail
  go_ret
  exact ⟨rfl, HM4.out.below⟩
end Go.Proofs.Ytgngnkajjldnlaa.gr
