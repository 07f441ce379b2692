/- gen.Fresh's weight; where it comes to an error. -/
import Derived.Test.YtlkfhbmjemjohaaGena
import Derived.Test.YtlkfhbmjemjohaaTrimp
namespace Go.Tre
theorem fresh_weight (g : Tre.Graph) (mono : List Nat) : (g.freshG mono).weight ≤ g.weight + g.weight := by
  have e : (g.freshG mono).weight = g.weight + ((g.copiesL mono).map fun i => (g.nd i).weight).sum := by
    unfold Graph.weight Graph.freshG
    simp only [List.map_append, List.sum_append, List.map_map]
    congr 2
    refine List.map_congr_left (fun i _ => ?_)
    simp [copyN, Node.weight]
  have h := sum_le_all (fun i => (g.nd i).weight) (n := g.ns.length) (Graph.copies_nodup (g := g) (mono := mono)) (fun a ha => Graph.copies_lt ha)
  rw [e]
  have h2 := g.weight_range
  omega
theorem copies_len_le (g : Tre.Graph) (mono : List Nat) : (g.copiesL mono).length ≤ g.ns.length := nodup_len Graph.copies_nodup (fun _ ha => Graph.copies_lt ha)
end Go.Tre
namespace Go.Proofs.Ytlkfhbmjemjohaa.gr
open Go.RowKit Go.Shelf Go.Maps Go.Tre lex
set_option maxRecDepth 100000 in
set_option maxHeartbeats 2000000 in
theorem fresh_no (a : Option Addr) (ca : Nat) (g : Tre.Graph) (am : Option Addr) (cm : Nat) (mono : List Int) (w : World) (hg : NodesAt w a g.ns) (wg : g.weight ≤ 2097152) (hl : IntsAt w am mono) (hll : mono.length ≤ 2097152) (hx : MaxAt w) (hc : ¬ g.monoC mono = 0) :
    Calls Try.prog 13 #[.agg #[.slice a g.ns.length ca, .int .i64 g.root], .slice am mono.length cm] w fun e w' => e = .returned (.tuple #[.agg #[.slice none 0 0, .int .i64 0], .int .i64 (g.monoC mono)]) ∧ Below w.heap.size w w' := by
  have M := ((Mem.nil w).allocR #[.slice a g.ns.length ca, .int .i64 g.root] 24).allocR #[.slice none 0 0, .int .i64 0] 24
  rw [heapSize_alloc] at M
  have HGN := Tre.hid (generic_no a ca g am cm mono _ (hg.below M.below) wg (hl.below M.below) hll (hx.below M.below) hc)
  have HM0 := Tre.hid M
  have u0 := not_zero hc
  clear hg hl hx M hc
  go_enter Try.func13, Try.ntmps13
  go_wp2_with fail
  refine HGN.out.mono ?_
  rintro e w1 ⟨rfl, b1⟩
  have M1 := HM0.out.quiet b1
  obtain ⟨p0, p1⟩ := M1.two 0 rfl
  have q0f := M1.free 0 rfl 0
  have q1f := M1.free 0 rfl 1
  have HM6 := Tre.hid ((M1.setCell 0 rfl 0 (.slice none 0 0)).setCell 0 rfl 1 (.int .i64 0))
  clear b1 M1
  go_wp2_with fail
  have z0 : ((w1.setCell ⟨w.heap.size + 1, 0, none⟩ (.slice none 0 0)).setCell ⟨w.heap.size + 1, 1, none⟩ (.int .i64 0)).cell? ⟨w.heap.size + 1, 0, none⟩ = some (.slice none 0 0) := HM6.out.cell 0 rfl 0 rfl
  have z1 : ((w1.setCell ⟨w.heap.size + 1, 0, none⟩ (.slice none 0 0)).setCell ⟨w.heap.size + 1, 1, none⟩ (.int .i64 0)).cell? ⟨w.heap.size + 1, 1, none⟩ = some (.int .i64 0) := HM6.out.cell 0 rfl 1 rfl
  exact bodyPost_ret (v := .tuple #[.agg #[.slice none 0 0, .int .i64 0], .int .i64 (g.monoC mono)]) (by simp [results, Try.results13, go_sem, z0, z1]) rfl ⟨rfl, HM6.out.below⟩
end Go.Proofs.Ytlkfhbmjemjohaa.gr
