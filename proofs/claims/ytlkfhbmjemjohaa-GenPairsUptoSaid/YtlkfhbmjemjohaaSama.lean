/- graph.Same, at any two graphs. -/
import Derived.Test.YtlkfhbmjemjohaaSame
namespace Go.Tre
theorem sum_const {α : Type} (c : Nat) : ∀ L : List α, (L.map fun _ => c).sum = L.length * c
  | [] => by simp
  | _ :: r => by simp only [List.map_cons, List.sum_cons, List.length_cons, sum_const c r, Nat.add_mul]; omega
theorem left_le (g h : Tre.Graph) : left g h (fun _ => none) ≤ g.weight * h.ns.length := by
  have e : ∀ L : List Nat, (∀ a ∈ L, a < g.ns.length) → ((L.flatMap fun a => (List.range h.ns.length).map fun b => (a, b)).map (wgt g (fun _ => none))).sum = (L.map fun a => h.ns.length * g.deg a).sum := by
    intro L
    induction L with
    | nil => intro _; rfl
    | cons a r ih =>
      intro hl
      rw [List.flatMap_cons, List.map_append, List.sum_append, ih (fun a h => hl a (by simp [h]))]
      simp only [wgt, List.map_map, Function.comp_def, if_true, List.map_cons, List.sum_cons, sum_const, List.length_range]
  unfold left univ
  rw [e _ (fun a h => by simpa using h)]
  have e2 : ((List.range g.ns.length).map fun a => h.ns.length * g.deg a) = g.ns.map fun n => h.ns.length * n.args.length := by
    apply List.ext_getElem
    · simp
    · intro i h1 h2
      have hi : i < g.ns.length := by simpa using h1
      simp [Graph.deg, Graph.nd_eq hi]
  rw [e2]
  unfold Graph.weight
  generalize g.ns = ns
  induction ns with
  | nil => simp
  | cons n r ih =>
    have : n.args.length ≤ n.weight := by unfold Tre.Node.weight; omega
    simp only [List.map_cons, List.sum_cons, Nat.add_mul]
    have h3 : h.ns.length * n.args.length ≤ n.weight * h.ns.length := by rw [Nat.mul_comm n.weight]; exact Nat.mul_le_mul_left _ this
    omega
theorem len_weight (g : Tre.Graph) : g.ns.length ≤ g.weight := length_le_sum _ (fun n => by unfold Tre.Node.weight; omega) g.ns
end Go.Tre
namespace Go.Proofs.Ytlkfhbmjemjohaa.gr
open Go.RowKit Go.Maps Go.Tre lex

set_option maxRecDepth 100000 in
set_option maxHeartbeats 4000000 in
theorem same_any (a b : Option Addr) (ca cb : Nat) (g h : Tre.Graph) (w : World) (hg : NodesAt w a g.ns) (hh : NodesAt w b h.ns) (wg : g.weight ≤ 2097152) (wh : h.weight ≤ 2097152) (hm : MaxAt w) :
    Calls Try.prog 15 #[.agg #[.slice a g.ns.length ca, .int .i64 g.root], .agg #[.slice b h.ns.length cb, .int .i64 h.root]] w fun e w' => e = .returned (.bool (sameB g h)) ∧ Below w.heap.size w w' := by
  by_cases c0 : g.checkC = 0
  · by_cases c1 : h.checkC = 0
    · refine same_ok a b ca cb g h w hg hh (by omega) (by omega) hm ?_ c0 c1
      have h1 := left_le g h
      have h2 := len_weight h
      have h3 : g.weight * h.ns.length ≤ 2097152 * 2097152 := Nat.mul_le_mul wg (by omega)
      omega
    · have b2 : Below w.heap.size w ((w.alloc (.cells #[.slice a g.ns.length ca, .int .i64 g.root] 24)).alloc (.cells #[.slice b h.ns.length cb, .int .i64 h.root] 24)) := ((Below.refl _ _).alloc (Nat.le_refl _) _).alloc (by simp) _
      have HM := Tre.hid hm
      have HG := Tre.hid hg
      have HH := Tre.hid hh
      have HC0 := Tre.hid c0
      have t1 := not_ok c1
      have HN : Hid (¬ SameG g h) := fun s => c1 s.okh
      clear hg hh hm c0 c1
      go_enter Try.func15, Try.ntmps15
      go_wp2_with fail
      refine (check_any a ca g _ (HG.out.below b2) (by omega) (HM.out.below b2)).mono ?_
      rintro e w1 ⟨rfl, d1⟩
      rw [HC0.out]
      have h0 : w1.cell? ⟨w.heap.size + 1, 0, none⟩ = some (.slice b h.ns.length cb) := cell_below d1 (cell_of_heap (heap_two _ _ _) rfl)
      have h1 : w1.cell? ⟨w.heap.size + 1, 1, none⟩ = some (.int .i64 h.root) := cell_below d1 (cell_of_heap (heap_two _ _ _) rfl)
      have B1 := after2 d1
      clear d1
      go_wp2_with fail
      refine (check_any b cb h _ (HH.out.below B1) (by omega) (HM.out.below B1)).mono ?_
      rintro e w2 ⟨rfl, d2⟩
      have B2 := after_two B1 d2
      clear d2
      go_wp2_with fail
      go_ret
      exact ⟨ret_bool (sameB_false HN.out).symm, B2⟩
  · have b2 : Below w.heap.size w ((w.alloc (.cells #[.slice a g.ns.length ca, .int .i64 g.root] 24)).alloc (.cells #[.slice b h.ns.length cb, .int .i64 h.root] 24)) := ((Below.refl _ _).alloc (Nat.le_refl _) _).alloc (by simp) _
    have HM := Tre.hid hm
    have HG := Tre.hid hg
    have t1 := not_ok c0
    have HN : Hid (¬ SameG g h) := fun s => c0 s.okg
    clear hg hh hm c0
    go_enter Try.func15, Try.ntmps15
    go_wp2_with fail
    refine (check_any a ca g _ (HG.out.below b2) (by omega) (HM.out.below b2)).mono ?_
    rintro e w1 ⟨rfl, d1⟩
    have B1 := after2 d1
    clear d1
    go_wp2_with fail
    go_ret
    exact ⟨ret_bool (sameB_false HN.out).symm, B1⟩
end Go.Proofs.Ytlkfhbmjemjohaa.gr
