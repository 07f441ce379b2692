/- Whether two variables are one is told: plain. graph.Same, at any two graphs. What is trimmed is the same type, and trimmed again it is itself: plain. Layer 7, plain: a type's nodes in a table; what its names are bound to; its graph. Steps through a drawn region, by hand: the slot that an operation writes is typed. -/
import Derived.Test.YtaleodkbghogfaaGreatDoorB09
import Derived.Test.YtaleodkbghogfaaGreatDoorB07
import Derived.Test.YtaleodkbghogfaaGreatDoorB03
import Derived.Deep.RegionHeld3
set_option linter.unusedVariables false
namespace Go.Tre
def starB : ByteArray := ⟨#[42]⟩
def varN : Tre.Node := ⟨1, ByteArray.empty, [], [], false⟩
def starN (a b : Int) : Tre.Node := ⟨2, starB, [a, b], [], false⟩
theorem outside_mono {a b : Nat} (h : a ≤ b) {x : Int} (hx : outside a x = false) : outside b x = false := by
  unfold outside at *
  simp only [Bool.or_eq_false_iff, decide_eq_false_iff_not] at *
  omega
theorem mayB_mono {a b : Nat} (h : a ≤ b) {n : Tre.Node} (hn : mayB n a = true) : mayB n b = true := by
  unfold mayB at *
  simp only [Bool.and_eq_true, Bool.not_eq_true', List.any_eq_false] at *
  refine ⟨fun x hx => ?_, hn.2⟩
  have := hn.1 x hx
  rw [Bool.not_eq_true] at this ⊢
  exact outside_mono h this
theorem mayB_var (k : Nat) : mayB varN k = true := by simp [mayB, varN]
theorem mayB_star {k : Nat} {a b : Int} (ha : 0 ≤ a) (ha' : a < k) (hb : 0 ≤ b) (hb' : b < k) : mayB (starN a b) k = true := by
  have e : arity starB = some 2 := by decide +kernel
  unfold mayB starN
  simp only [List.any_cons, List.any_nil, e]
  have h1 : outside k a = false := by unfold outside; simp; omega
  have h2 : outside k b = false := by unfold outside; simp; omega
  simp [h1, h2]
theorem check_mk {g : Tre.Graph} (hl : g.ns.length ≤ 1048576) (h0 : 0 ≤ g.root) (h1 : g.root < g.ns.length) (hm : ∀ n ∈ g.ns, mayB n g.ns.length = true) : g.checkC = 0 := by
  unfold Graph.checkC
  rw [if_neg (by omega), if_neg]
  rintro (h | h | h)
  · omega
  · omega
  · obtain ⟨n, hn, e⟩ := List.any_eq_true.1 h
    rw [hm n hn] at e
    cases e
theorem Graph.Ok.mays {g : Tre.Graph} (og : g.Ok) : ∀ n ∈ g.ns, mayB n g.ns.length = true := by
  intro n hn
  obtain ⟨i, hi, rfl⟩ := List.getElem_of_mem hn
  rw [← Graph.nd_eq hi]; exact og.may i hi
def oneG (g : Tre.Graph) : Tre.Graph := ⟨g.ns ++ [varN, starN g.ns.length g.ns.length], g.ns.length + 1⟩
def twoG (g : Tre.Graph) : Tre.Graph := ⟨g.ns ++ [varN, varN, starN g.ns.length (g.ns.length + 1)], g.ns.length + 2⟩
theorem nd_app (ns : List Tre.Node) (r : Int) (l : List Tre.Node) (j : Nat) : (⟨ns ++ l, r⟩ : Tre.Graph).nd (ns.length + j) = l.getD j dummy := by
  unfold Graph.nd
  simp only [List.getD_eq_getElem?_getD]
  rw [List.getElem?_append_right (by omega), Nat.add_sub_cancel_left]
theorem oneG_len (g : Tre.Graph) : (oneG g).ns.length = g.ns.length + 2 := by simp [oneG]
theorem twoG_len (g : Tre.Graph) : (twoG g).ns.length = g.ns.length + 3 := by simp [twoG]
theorem oneG_ok {g : Tre.Graph} (og : g.Ok) (hl : g.ns.length ≤ 1000) : (oneG g).checkC = 0 := by
  refine check_mk (by rw [oneG_len]; omega) (by show (0 : Int) ≤ g.ns.length + _; omega) (by rw [oneG_len]; show ((g.ns.length : Int) + _) < _; omega) (fun n hn => ?_)
  simp only [oneG, List.length_append, List.length_cons, List.length_nil] at hn ⊢
  rcases List.mem_append.1 hn with hn | hn
  · exact mayB_mono (by omega) (og.mays n hn)
  · simp at hn
    rcases hn with rfl | rfl
    · exact mayB_var _
    · exact mayB_star (by omega) (by omega) (by omega) (by omega)
theorem twoG_ok {g : Tre.Graph} (og : g.Ok) (hl : g.ns.length ≤ 1000) : (twoG g).checkC = 0 := by
  refine check_mk (by rw [twoG_len]; omega) (by show (0 : Int) ≤ g.ns.length + _; omega) (by rw [twoG_len]; show ((g.ns.length : Int) + _) < _; omega) (fun n hn => ?_)
  simp only [twoG, List.length_append, List.length_cons, List.length_nil] at hn ⊢
  rcases List.mem_append.1 hn with hn | hn
  · exact mayB_mono (by omega) (og.mays n hn)
  · simp at hn
    rcases hn with rfl | rfl
    · exact mayB_var _
    · exact mayB_star (by omega) (by omega) (by omega) (by omega)
theorem one_nd0 (g : Tre.Graph) : (oneG g).nd g.ns.length = varN := nd_app g.ns _ _ 0
theorem one_nd1 (g : Tre.Graph) : (oneG g).nd (g.ns.length + 1) = starN g.ns.length g.ns.length := nd_app g.ns _ _ 1
theorem two_nd0 (g : Tre.Graph) : (twoG g).nd g.ns.length = varN := nd_app g.ns _ _ 0
theorem two_nd1 (g : Tre.Graph) : (twoG g).nd (g.ns.length + 1) = varN := nd_app g.ns _ _ 1
theorem two_nd2 (g : Tre.Graph) : (twoG g).nd (g.ns.length + 2) = starN g.ns.length (g.ns.length + 1) := nd_app g.ns _ _ 2
theorem oneG_root (g : Tre.Graph) : (oneG g).root.toNat = g.ns.length + 1 := by show ((g.ns.length : Int) + _).toNat = _; omega
theorem twoG_root (g : Tre.Graph) : (twoG g).root.toNat = g.ns.length + 2 := by show ((g.ns.length : Int) + _).toNat = _; omega
theorem not_one_two (g : Tre.Graph) : sameB (oneG g) (twoG g) = false := by
  rw [← Bool.not_eq_true, sameB_iff]
  intro s
  have r : RP (oneG g) (twoG g) (g.ns.length + 1) (g.ns.length + 2) := by
    have := RP.root (g := oneG g) (h := twoG g)
    rwa [oneG_root, twoG_root] at this
  have d1 : (oneG g).deg (g.ns.length + 1) = 2 := by unfold Graph.deg; rw [one_nd1]; rfl
  have d2 : (twoG g).deg (g.ns.length + 2) = 2 := by unfold Graph.deg; rw [two_nd2]; rfl
  have k0 : (oneG g).kid (g.ns.length + 1) 0 = g.ns.length := by unfold Graph.kid; rw [one_nd1]; simp [starN]
  have k1 : (oneG g).kid (g.ns.length + 1) 1 = g.ns.length := by unfold Graph.kid; rw [one_nd1]; simp [starN]
  have l0 : (twoG g).kid (g.ns.length + 2) 0 = g.ns.length := by unfold Graph.kid; rw [two_nd2]; simp [starN]
  have l1 : (twoG g).kid (g.ns.length + 2) 1 = g.ns.length + 1 := by unfold Graph.kid; rw [two_nd2]; simp [starN]; try omega
  have r0 := RP.kid (i := 0) r (by omega) (by omega)
  have r1 := RP.kid (i := 1) r (by omega) (by omega)
  rw [k0, l0] at r0
  rw [k1, l1] at r1
  have := (s.one _ _ _ _ r0 r1 (by rw [one_nd0]; rfl)).1 rfl
  omega
theorem oneG_free {g : Tre.Graph} (og : g.Ok) (hl : g.ns.length ≤ 1000) : (oneG g).freeL.length = 1 := by
  have e : (oneG g).reachL = [g.ns.length + 1, g.ns.length] := by
    unfold Graph.reachL
    rw [if_pos (oneG_ok og hl), oneG_root, Graph.dfs_take (by simp) (by rw [oneG_len]; omega)]
    have k : (oneG g).kids (g.ns.length + 1) = [g.ns.length, g.ns.length] := by unfold Graph.kids; rw [one_nd1]; simp [starN]
    have k' : (oneG g).kids g.ns.length = [] := by unfold Graph.kids; rw [one_nd0]; rfl
    rw [k]
    simp only [List.nil_append, List.append_nil]
    rw [Graph.dfs_take (by simp) (by rw [oneG_len]; omega), k']
    simp only [List.nil_append, List.singleton_append]
    rw [Graph.dfs_skip (by simp), Graph.dfs_nil]
  unfold Graph.freeL
  rw [e]
  simp only [List.filter_cons, one_nd1, one_nd0]
  rfl
theorem twoG_free {g : Tre.Graph} (og : g.Ok) (hl : g.ns.length ≤ 1000) : (twoG g).freeL.length = 2 := by
  have e : (twoG g).reachL = [g.ns.length + 2, g.ns.length, g.ns.length + 1] := by
    unfold Graph.reachL
    rw [if_pos (twoG_ok og hl), twoG_root, Graph.dfs_take (by simp) (by rw [twoG_len]; omega)]
    have k : (twoG g).kids (g.ns.length + 2) = [g.ns.length, g.ns.length + 1] := by unfold Graph.kids; rw [two_nd2]; simp [starN]; try omega
    have k' : (twoG g).kids g.ns.length = [] := by unfold Graph.kids; rw [two_nd0]; rfl
    have k'' : (twoG g).kids (g.ns.length + 1) = [] := by unfold Graph.kids; rw [two_nd1]; rfl
    rw [k]
    simp only [List.nil_append, List.append_nil]
    rw [Graph.dfs_take (by simp) (by rw [twoG_len]; omega), k']
    simp only [List.nil_append, List.singleton_append]
    rw [Graph.dfs_take (by simp) (by rw [twoG_len]; omega), k'']
    simp only [List.append_nil, List.cons_append, List.nil_append]
    rw [Graph.dfs_nil]
  unfold Graph.freeL
  rw [e]
  simp only [List.filter_cons, two_nd1, two_nd0, two_nd2]
  rfl
theorem oneG_weight (g : Tre.Graph) : (oneG g).weight = g.weight + 5 := by
  unfold Graph.weight
  show ((g.ns ++ _).map Node.weight).sum = _
  rw [List.map_append, List.sum_append]
  rfl
theorem twoG_weight (g : Tre.Graph) : (twoG g).weight = g.weight + 6 := by
  unfold Graph.weight
  show ((g.ns ++ _).map Node.weight).sum = _
  rw [List.map_append, List.sum_append]
  rfl
theorem Graph.great_len (g : Tre.Graph) : g.ns.length ≤ g.great := by unfold Graph.great; omega
end Go.Tre
namespace Go.Tre
theorem sum_const {α : Type} (c : Nat) : ∀ L : List α, (L.map fun _ => c).sum = L.length * c
  | [] => by simp
  | _ :: r => by simp only [List.map_cons, List.sum_cons, List.length_cons, sum_const c r, Nat.add_mul]; omega
theorem left_le (g h : Tre.Graph) : left g h (fun _ => none) ≤ g.weight * h.ns.length := by
  have e : ∀ L : List Nat, (∀ a ∈ L, a < g.ns.length) → ((L.flatMap fun a => (List.range h.ns.length).map fun b => (a, b)).map (wgt g (fun _ => none))).sum = (L.map fun a => h.ns.length * g.deg a).sum := by
    intro L
    induction L with
    | nil => intro _; rfl
    | cons a r ih =>
      intro hl
      rw [List.flatMap_cons, List.map_append, List.sum_append, ih (fun a h => hl a (by simp [h]))]
      simp only [wgt, List.map_map, Function.comp_def, if_true, List.map_cons, List.sum_cons, sum_const, List.length_range]
  unfold left univ
  rw [e _ (fun a h => by simpa using h)]
  have e2 : ((List.range g.ns.length).map fun a => h.ns.length * g.deg a) = g.ns.map fun n => h.ns.length * n.args.length := by
    apply List.ext_getElem
    · simp
    · intro i h1 h2
      have hi : i < g.ns.length := by simpa using h1
      simp [Graph.deg, Graph.nd_eq hi]
  rw [e2]
  unfold Graph.weight
  generalize g.ns = ns
  induction ns with
  | nil => simp
  | cons n r ih =>
    have : n.args.length ≤ n.weight := by unfold Tre.Node.weight; omega
    simp only [List.map_cons, List.sum_cons, Nat.add_mul]
    have h3 : h.ns.length * n.args.length ≤ n.weight * h.ns.length := by rw [Nat.mul_comm n.weight]; exact Nat.mul_le_mul_left _ this
    omega
theorem len_weight (g : Tre.Graph) : g.ns.length ≤ g.weight := length_le_sum _ (fun n => by unfold Tre.Node.weight; omega) g.ns
end Go.Tre
namespace Go.Proofs.YtaleodkbghogfaaGreatDoor.gr
open Go.RowKit Go.Maps Go.Tre lex

set_option maxRecDepth 100000 in
set_option maxHeartbeats 4000000 in
theorem same_any (a b : Option Addr) (ca cb : Nat) (g h : Tre.Graph) (w : World) (hg : NodesAt w a g.ns) (hh : NodesAt w b h.ns) (wg : g.weight ≤ 2097152) (wh : h.weight ≤ 2097152) (hm : MaxAt w) :
    Calls Tryz.prog 14 #[.agg #[.slice a g.ns.length ca, .int .i64 g.root], .agg #[.slice b h.ns.length cb, .int .i64 h.root]] w fun e w' => e = .returned (.bool (sameB g h)) ∧ Below w.heap.size w w' := by
  by_cases c0 : g.checkC = 0
  · by_cases c1 : h.checkC = 0
    · refine same_ok a b ca cb g h w hg hh (by omega) (by omega) hm ?_ c0 c1
      have h1 := left_le g h
      have h2 := len_weight h
      have h3 : g.weight * h.ns.length ≤ 2097152 * 2097152 := Nat.mul_le_mul wg (by omega)
      omega
    · have b2 : Below w.heap.size w ((w.alloc (.cells #[.slice a g.ns.length ca, .int .i64 g.root] 24)).alloc (.cells #[.slice b h.ns.length cb, .int .i64 h.root] 24)) := ((Below.refl _ _).alloc (Nat.le_refl _) _).alloc (by simp) _
      have HM := Tre.hid hm
      have HG := Tre.hid hg
      have HH := Tre.hid hh
      have HC0 := Tre.hid c0
      have t1 := not_ok c1
      have HN : Hid (¬ SameG g h) := fun s => c1 s.okh
      clear hg hh hm c0 c1
      go_enter Tryz.func14, Tryz.ntmps14
      go_wp2_with fail
      refine (check_any a ca g _ (HG.out.below b2) (by omega) (HM.out.below b2)).mono ?_
      rintro e w1 ⟨rfl, d1⟩
      rw [HC0.out]
      have h0 : w1.cell? ⟨w.heap.size + 1, 0, none⟩ = some (.slice b h.ns.length cb) := cell_below d1 (cell_of_heap (heap_two _ _ _) rfl)
      have h1 : w1.cell? ⟨w.heap.size + 1, 1, none⟩ = some (.int .i64 h.root) := cell_below d1 (cell_of_heap (heap_two _ _ _) rfl)
      have B1 := after2 d1
      clear d1
      go_wp2_with fail
      refine (check_any b cb h _ (HH.out.below B1) (by omega) (HM.out.below B1)).mono ?_
      rintro e w2 ⟨rfl, d2⟩
      have B2 := after_two B1 d2
      clear d2
      go_wp2_with fail
      go_ret
      exact ⟨ret_bool (sameB_false HN.out).symm, B2⟩
  · have b2 : Below w.heap.size w ((w.alloc (.cells #[.slice a g.ns.length ca, .int .i64 g.root] 24)).alloc (.cells #[.slice b h.ns.length cb, .int .i64 h.root] 24)) := ((Below.refl _ _).alloc (Nat.le_refl _) _).alloc (by simp) _
    have HM := Tre.hid hm
    have HG := Tre.hid hg
    have t1 := not_ok c0
    have HN : Hid (¬ SameG g h) := fun s => c0 s.okg
    clear hg hh hm c0
    go_enter Tryz.func14, Tryz.ntmps14
    go_wp2_with fail
    refine (check_any a ca g _ (HG.out.below b2) (by omega) (HM.out.below b2)).mono ?_
    rintro e w1 ⟨rfl, d1⟩
    have B1 := after2 d1
    clear d1
    go_wp2_with fail
    go_ret
    exact ⟨ret_bool (sameB_false HN.out).symm, B1⟩
end Go.Proofs.YtaleodkbghogfaaGreatDoor.gr
namespace Go.Tre
theorem sum_mem (f : Nat → Nat) (n : Nat) : ∀ L : List Nat, L.Nodup → (∀ a ∈ L, a < n) → (L.map f).sum = ((List.range n).map fun i => if i ∈ L then f i else 0).sum
  | [], _, _ => by
    have := sum_const (α := Nat) 0 (List.range n)
    simp only [List.map_nil, List.sum_nil, List.not_mem_nil, if_false]
    omega
  | a :: L, hn, hl => by
    have h1 := List.nodup_cons.1 hn
    have ih := sum_mem f n L h1.2 (fun b hb => hl b (by simp [hb]))
    have := sum_upd (fun i => if i ∈ a :: L then f i else 0) (fun i => if i ∈ L then f i else 0) a (List.range n) List.nodup_range (List.mem_range.2 (hl a (by simp))) (fun q hq => by
      have : (q ∈ a :: L) = (q ∈ L) := by simp [hq]
      simp only [this])
    simp only [List.mem_cons, true_or, if_true, if_neg h1.1, Nat.add_zero] at this
    simp only [List.map_cons, List.sum_cons, List.mem_cons]
    omega
theorem sum_le_all (f : Nat → Nat) {n : Nat} {L : List Nat} (hn : L.Nodup) (hl : ∀ a ∈ L, a < n) : (L.map f).sum ≤ ((List.range n).map f).sum := by
  rw [sum_mem f n L hn hl]
  generalize List.range n = R
  induction R with
  | nil => simp
  | cons x R ih =>
    simp only [List.map_cons, List.sum_cons]
    split <;> omega
theorem nodup_len {n : Nat} {L : List Nat} (hn : L.Nodup) (hl : ∀ a ∈ L, a < n) : L.length ≤ n := by
  have h := sum_le_all (fun _ => 1) hn hl
  rw [sum_const, sum_const, List.length_range] at h
  omega
theorem Graph.weight_range (g : Tre.Graph) : g.weight = ((List.range g.ns.length).map fun i => (g.nd i).weight).sum := by
  unfold Graph.weight
  congr 1
  apply List.ext_getElem
  · simp
  · intro i h1 h2
    have hi : i < g.ns.length := by simpa using h1
    simp [Graph.nd_eq hi]
theorem trimNode_weight (L : List Nat) (n : Tre.Node) : (trimNode L n).weight = n.weight := by unfold Node.weight trimNode; simp
theorem Graph.trim_weight (g : Tre.Graph) : g.trim.weight ≤ g.weight := by
  have e : g.trim.weight = (g.reachL.map fun i => (g.nd i).weight).sum := by
    unfold Graph.weight Graph.trim
    simp only [List.map_map]
    congr 1
    apply List.map_congr_left
    intro i _
    exact trimNode_weight _ _
  rw [e, g.weight_range]
  exact sum_le_all _ g.reach_nodup g.reach_lt
theorem trim_len (g : Tre.Graph) : g.trim.ns.length = g.reachL.length := by simp [Graph.trim]
theorem reach_len_le (g : Tre.Graph) : g.reachL.length ≤ g.ns.length := nodup_len g.reach_nodup g.reach_lt
theorem trim_nd {g : Tre.Graph} {a : Nat} (ha : a ∈ g.reachL) : g.trim.nd (g.reachL.idxOf a) = trimNode g.reachL (g.nd a) := by
  have hl := List.idxOf_lt_length_of_mem ha
  rw [Graph.nd_eq (by rw [trim_len]; exact hl)]
  simp only [Graph.trim, List.getElem_map, List.getElem_idxOf]
theorem trim_kids {g : Tre.Graph} {a : Nat} (ha : a ∈ g.reachL) : g.trim.kids (g.reachL.idxOf a) = (g.kids a).map g.reachL.idxOf := by
  unfold Graph.kids
  rw [trim_nd ha]
  simp only [trimNode, List.map_map]
  apply List.map_congr_left
  intro x _
  simp [placeOf]
theorem mem_root {g : Tre.Graph} (h : g.checkC = 0) : g.root.toNat ∈ g.reachL := List.mem_of_getElem? (Graph.reach_head h)
theorem idx_root {g : Tre.Graph} (h : g.checkC = 0) : g.reachL.idxOf g.root.toNat = 0 := by
  have h1 := Graph.reach_head h
  have hl := (List.getElem?_eq_some_iff.1 h1).1
  have := idxOf_nodup g.reach_nodup hl
  rw [List.getElem?_eq_getElem hl] at h1
  rwa [Option.some.inj h1] at this
theorem mayB_trim {g : Tre.Graph} {a : Nat} (ha : a ∈ g.reachL) : mayB (trimNode g.reachL (g.nd a)) g.reachL.length = true := by
  have og := Graph.reach_ok ha
  have h := og.may a (g.reach_lt a ha)
  have hk := g.reach_kids ha
  unfold mayB at *
  simp only [Bool.and_eq_true, Bool.not_eq_true', List.any_eq_false] at *
  refine ⟨fun x hx => ?_, ?_⟩
  · simp only [trimNode, List.mem_map] at hx
    obtain ⟨y, hy, rfl⟩ := hx
    have hm : y.toNat ∈ g.reachL := hk _ (by unfold Graph.kids; exact List.mem_map.2 ⟨y, hy, rfl⟩)
    have := List.idxOf_lt_length_of_mem hm
    unfold outside placeOf
    simp
    omega
  · have := h.2
    simpa [trimNode] using this
theorem trim_ok {g : Tre.Graph} (h : g.checkC = 0) : g.trim.checkC = 0 := by
  have og := Graph.ok_of h
  have hr := mem_root h
  have hl := List.idxOf_lt_length_of_mem hr
  refine check_mk ?_ (Int.le_refl 0) ?_ (fun n hn => ?_)
  · rw [trim_len]; have := reach_len_le g; have := og.len; omega
  · rw [trim_len]; show (0 : Int) < _; omega
  · rw [trim_len]
    simp only [Graph.trim, List.mem_map] at hn
    obtain ⟨a, ha, rfl⟩ := hn
    exact mayB_trim ha
theorem idxOf_inj {L : List Nat} {a b : Nat} (ha : a ∈ L) (hb : b ∈ L) (h : L.idxOf a = L.idxOf b) : a = b := by
  have h1 := List.getElem_idxOf (List.idxOf_lt_length_of_mem ha)
  have h2 := List.getElem_idxOf (List.idxOf_lt_length_of_mem hb)
  rw [← h1, ← h2]
  congr 1
theorem kid_mem {g : Tre.Graph} {a i : Nat} (ha : a ∈ g.reachL) (hi : i < g.deg a) : g.kid a i ∈ g.reachL := by
  refine g.reach_kids ha _ ?_
  unfold Graph.kids Graph.kid
  unfold Graph.deg at hi
  rw [List.getD_eq_getElem?_getD, List.getElem?_eq_getElem hi]
  exact List.mem_map.2 ⟨_, List.getElem_mem hi, rfl⟩
theorem trim_rp {g : Tre.Graph} (h : g.checkC = 0) {a b : Nat} (r : RP g g.trim a b) : a ∈ g.reachL ∧ b = g.reachL.idxOf a := by
  induction r with
  | root => exact ⟨mem_root h, (idx_root h).symm⟩
  | kid _ h1 h2 ih =>
    obtain ⟨ha, rfl⟩ := ih
    refine ⟨kid_mem ha h1, ?_⟩
    unfold Graph.kid
    unfold Graph.deg at h1
    rw [trim_nd ha]
    simp only [trimNode, List.getD_eq_getElem?_getD, List.getElem?_map, List.getElem?_eq_getElem h1, Tre.qd, Option.getD_some]
    simp [placeOf]
theorem trim_same {g : Tre.Graph} (h : g.checkC = 0) : SameG g g.trim := by
  refine ⟨h, trim_ok h, fun a b r => ?_, fun a b a' b' r r' _ => ?_⟩
  · obtain ⟨ha, rfl⟩ := trim_rp h r
    rw [trim_nd ha]
    simp [alikeB, trimNode]
  · obtain ⟨ha, rfl⟩ := trim_rp h r
    obtain ⟨ha', rfl⟩ := trim_rp h r'
    exact ⟨fun e => by rw [e], idxOf_inj ha ha'⟩
theorem mem_map_idx {L out : List Nat} (ho : ∀ a ∈ out, a ∈ L) {a : Nat} (ha : a ∈ L) : L.idxOf a ∈ out.map L.idxOf ↔ a ∈ out := by
  rw [List.mem_map]
  constructor
  · rintro ⟨b, hb, e⟩
    rw [← idxOf_inj (ho b hb) ha e]; exact hb
  · intro h; exact ⟨a, h, rfl⟩
theorem trim_dfs {g : Tre.Graph} : ∀ (k : Nat) (s out : List Nat), g.budget out + s.length ≤ k → (∀ a ∈ s, a ∈ g.reachL) → (∀ a ∈ out, a ∈ g.reachL) →
    g.trim.dfs (s.map g.reachL.idxOf) (out.map g.reachL.idxOf) = (g.dfs s out).map g.reachL.idxOf := by
  intro k
  induction k with
  | zero =>
    intro s out hk _ _
    have : s = [] := List.length_eq_zero_iff.1 (by omega)
    subst this
    rw [List.map_nil, Graph.dfs_nil, Graph.dfs_nil]
  | succ k ih =>
    intro s out hk hs ho
    cases s with
    | nil => rw [List.map_nil, Graph.dfs_nil, Graph.dfs_nil]
    | cons a s =>
      have ha := hs a (by simp)
      rw [List.map_cons]
      by_cases hm : a ∈ out
      · rw [Graph.dfs_skip ((mem_map_idx ho ha).2 hm), Graph.dfs_skip hm]
        exact ih s out (by simp at hk; omega) (fun b hb => hs b (by simp [hb])) ho
      · have hal := g.reach_lt a ha
        have hb := Graph.budget_step hal hm
        rw [Graph.dfs_take (fun e => hm ((mem_map_idx ho ha).1 e)) (by rw [trim_len]; exact List.idxOf_lt_length_of_mem ha), Graph.dfs_take hm hal, trim_kids ha]
        have := ih (g.kids a ++ s) (out ++ [a]) (by simp only [List.length_append, List.length_cons, g.kids_len] at hk ⊢; omega)
          (fun b hb' => by
            rcases List.mem_append.1 hb' with h | h
            · exact g.reach_kids ha b h
            · exact hs b (by simp [h]))
          (fun b hb' => by
            rcases List.mem_append.1 hb' with h | h
            · exact ho b h
            · simp at h; subst h; exact ha)
        rw [List.map_append, List.map_append] at this
        exact this
theorem trim_reach {g : Tre.Graph} (h : g.checkC = 0) : g.trim.reachL = List.range g.reachL.length := by
  have e1 : g.reachL.map g.reachL.idxOf = List.range g.reachL.length := by
    apply List.ext_getElem
    · simp
    · intro i h1 h2
      have hi : i < g.reachL.length := by simpa using h1
      rw [List.getElem_map, List.getElem_range]
      exact idxOf_nodup g.reach_nodup hi
  have e2 : g.reachL = g.dfs [g.root.toNat] [] := by
    show (if g.checkC = 0 then _ else _) = _
    rw [if_pos h]
  have e3 : g.trim.reachL = g.trim.dfs [0] [] := by
    show (if g.trim.checkC = 0 then _ else _) = _
    rw [if_pos (trim_ok h)]; rfl
  have := trim_dfs (g := g) _ [g.root.toNat] [] (Nat.le_refl _) (fun a ha => by simp at ha; rw [ha]; exact mem_root h) (by simp)
  rw [List.map_cons, List.map_nil, idx_root h] at this
  rw [e3, this, ← e2, e1]
theorem range_idx {m a : Nat} (h : a < m) : (List.range m).idxOf a = a := by
  have := idxOf_nodup (L := List.range m) List.nodup_range (k := a) (by simpa using h)
  simpa using this
theorem trim_trim {g : Tre.Graph} (h : g.checkC = 0) : g.trim.trim = g.trim := by
  have og := Graph.ok_of (trim_ok h)
  have hr := trim_reach h
  have hl := trim_len g
  have e : g.trim.trim.ns = g.trim.ns := by
    show g.trim.reachL.map _ = _
    rw [hr]
    apply List.ext_getElem
    · simp [hl]
    · intro i h1 h2
      have hi : i < g.reachL.length := by simpa using h1
      rw [List.getElem_map, List.getElem_range, ← Graph.nd_eq h2]
      have ok := og.kids_eq h2
      generalize hn : g.trim.nd i = n at *
      have ea : n.args.map (placeOf (List.range g.reachL.length)) = n.args := by
        conv => rhs; rw [← List.map_id n.args]
        apply List.map_congr_left
        intro x hx
        rw [ok] at hx
        obtain ⟨y, hy, rfl⟩ := List.mem_map.1 hx
        have hlt := og.kids_lt h2 y hy
        rw [hl] at hlt
        simp [placeOf, range_idx hlt]
      show ({ n with args := n.args.map (placeOf (List.range g.reachL.length)) } : Tre.Node) = n
      rw [ea]
  show (⟨g.trim.trim.ns, 0⟩ : Tre.Graph) = ⟨g.trim.ns, 0⟩
  rw [e]
end Go.Tre
namespace Go.Tre
structure Ent where
  kind : Nat
  s : List UInt8
  args : List Nat
  labels : List (List UInt8)
  opn : Bool
mutual
def Ty.count : Ty → Nat
  | .mk _ _ args _ _ => 1 + counts args
def counts : List Ty → Nat
  | [] => 0
  | t :: r => t.count + counts r
end
def idxs : List Ty → Nat → List Nat
  | [], _ => []
  | t :: r, b => b :: idxs r (b + t.count)
mutual
def flat : Ty → Nat → List Ent
  | .mk k s args labels o, b => ⟨k, s, idxs args (b + 1), labels, o⟩ :: flats args (b + 1)
def flats : List Ty → Nat → List Ent
  | [], _ => []
  | t :: r, b => flat t b ++ flats r (b + t.count)
end
mutual
theorem flat_len : ∀ (t : Ty) (b : Nat), (flat t b).length = t.count
  | .mk k s args labels o, b => by unfold flat Ty.count; rw [List.length_cons, flats_len args (b + 1)]; omega
theorem flats_len : ∀ (l : List Ty) (b : Nat), (flats l b).length = counts l
  | [], b => by unfold flats counts; rfl
  | t :: r, b => by unfold flats counts; rw [List.length_append, flat_len t b, flats_len r _]
end
theorem idxs_len : ∀ (l : List Ty) (b : Nat), (idxs l b).length = l.length
  | [], _ => rfl
  | t :: r, b => by unfold idxs; simp [idxs_len r]
abbrev Bd := (ByteArray → Option Nat) × Nat
def stepB (e : Ent) (i : Nat) (bd : Bd) : Option Bd := if e.kind = 4 then (if (bd.1 ⟨e.s.toArray⟩).isSome then none else some (upd bd.1 ⟨e.s.toArray⟩ i, bd.2 + 1)) else some bd
def bind1 (T : List Ent) : Nat → Nat → Bd → Option Bd
  | 0, _, _ => none
  | k + 1, i, bd => (T[i]?).bind fun e => (stepB e i bd).bind fun bd => e.args.foldlM (fun bd j => bind1 T k j bd) bd
def follow1 (T : List Ent) (bd : ByteArray → Option Nat) : Nat → Nat → Option Nat
  | 0, _ => none
  | k + 1, i => (T[i]?).bind fun e =>
    if e.kind = 4 then (e.args[0]?).bind (follow1 T bd k)
    else if e.kind = 1 then (match bd ⟨e.s.toArray⟩ with | some b => follow1 T bd k b | none => some i) else some i
structure LSt where
  vars : ByteArray → Option Nat
  made : Nat → Option Nat
  ns : List Tre.Node
def nodeOf (e : Ent) : Tre.Node := if e.kind = 2 then ⟨2, ⟨e.s.toArray⟩, [], [], false⟩ else ⟨3, ByteArray.empty, [], byteStrs e.labels, e.opn⟩
def kidsF (f : Nat → LSt → Option (Nat × LSt)) : List Nat → List Nat → LSt → Option (List Nat × LSt)
  | [], l, st => some (l, st)
  | j :: r, l, st => (f j st).bind fun p => kidsF f r (l ++ [p.1]) p.2
def varNode : Tre.Node := ⟨1, ByteArray.empty, [], [], false⟩
def node1 (T : List Ent) (bd : Bd) : Nat → Nat → LSt → Option (Nat × LSt)
  | 0, _, _ => none
  | k + 1, i, st => (follow1 T bd.1 (2 * bd.2 + 2) i).bind fun x => (T[x]?).bind fun e =>
    if e.kind = 1 then some (match st.vars ⟨e.s.toArray⟩ with | some a => (a, st) | none => (st.ns.length, ⟨upd st.vars ⟨e.s.toArray⟩ st.ns.length, st.made, st.ns ++ [varNode]⟩))
    else match st.made x with
      | some a => some (a, st)
      | none => (kidsF (node1 T bd k) e.args [] ⟨st.vars, upd st.made x st.ns.length, st.ns ++ [nodeOf e]⟩).map fun p =>
        (st.ns.length, ⟨p.2.vars, p.2.made, p.2.ns.set st.ns.length { nodeOf e with args := p.1.map fun a : Nat => (a : Int) }⟩)
def loadT (T : List Ent) (k i : Nat) : Option Tre.Graph :=
  (bind1 T k i (fun _ => none, 0)).bind fun bd =>
    (node1 T bd k i ⟨fun _ => none, fun _ => none, []⟩).map fun p => ⟨p.2.ns, (p.1 : Int)⟩
structure SmallT (T : List Ent) : Prop where
  s : ∀ (i : Nat) (e : Ent), T[i]? = some e → e.s.length ≤ 4194304
  args : ∀ (i : Nat) (e : Ent), T[i]? = some e → e.args.length ≤ 4194304
  labs : ∀ (i : Nat) (e : Ent), T[i]? = some e → e.labels.length ≤ 4194304
end Go.Tre
namespace Go.Tre
section
variable {P : Program} {ops : Array Oper} {Q : Exit → Act → World → Prop} {md : Region.Mode} {S : World → Prop}
theorem hTake {i : Nat} (d : Option Tmp) {v : Value} {fuel : Nat} {listed : Array Bool} {a : Act} {w : World} (hd : (ops[i]?).map (·.dst) = some d) (hs : Region.noSelect ops = true) (hf : Region.free md ops listed i = true)
    (hr : (Region.ready md ops listed).contains i = true) (hQ : ∀ c a w, Q (.panic c) (a.put d v) w → Q (.panic c) a w) (hw : (ops[i]?).map (fun o => Region.wanted o (yielded ops a.tmps)) = some true)
    (hy : ∀ w, S w → (ops[i]?).map (fun o => (execOp a.eval o).run P w) = some (.ok (.value v) w)) (hS : S w) (h : wpAnyH P md ops Q S fuel (listed.setIfInBounds i true) (a.put d v) w) :
    wpAnyH P md ops Q S (fuel + 1) listed a w := by
  obtain ⟨o, ho, rfl⟩ := Option.map_eq_some_iff.1 hd
  rw [ho, Tre.qd, Tre.qe] at hw
  refine wpAnyH_take ho hs hf hr hQ (Or.inl ⟨hw, fun w hSw => ?_⟩) hS h
  have := hy w hSw
  rw [ho, Tre.qd, Tre.qe] at this
  exact this
theorem hTakeNo {i : Nat} (d : Option Tmp) {fuel : Nat} {listed : Array Bool} {a : Act} {w : World} (hd : (ops[i]?).map (·.dst) = some d) (hs : Region.noSelect ops = true) (hf : Region.free md ops listed i = true)
    (hr : (Region.ready md ops listed).contains i = true) (hQ : ∀ c a w, Q (.panic c) (a.put d undef) w → Q (.panic c) a w) (hw : (ops[i]?).map (fun o => Region.wanted o (yielded ops a.tmps)) = some false)
    (hS : S w) (h : wpAnyH P md ops Q S fuel (listed.setIfInBounds i true) (a.put d undef) w) : wpAnyH P md ops Q S (fuel + 1) listed a w := by
  obtain ⟨o, ho, rfl⟩ := Option.map_eq_some_iff.1 hd
  rw [ho, Tre.qd, Tre.qe] at hw
  exact wpAnyH_take ho hs hf hr hQ (Or.inr ⟨hw, rfl⟩) hS h
theorem hOne (i : Nat) {fuel : Nat} {listed : Array Bool} {a : Act} {w : World} (hr : Region.ready md ops listed = [i])
    (h : ∀ K' : Act → World → Prop, Shut (∀ a w, S w → (S w → wpAnyH P md ops Q S fuel (listed.setIfInBounds i true) a w) → K' a w) →
      match ops[i]? with | some o => if Region.wanted o (yielded ops a.tmps) = true then Oper.wp P o a w K' Q else K' (a.put o.dst undef) w | none => K' a w) : wpAnyH P md ops Q S (fuel + 1) listed a w := by
  refine wpAnyH_ready hr (by simp) ?_
  cases ho : ops[i]? with
  | none =>
    rw [ho] at h
    intro j hj
    rw [List.mem_singleton.1 hj]
    have h' := h (fun a' w' => S w' ∧ wpAnyH P md ops Q S fuel (listed.setIfInBounds i true) a' w') (fun a w hS hW => ⟨hS, hW hS⟩)
    unfold wpOp
    rw [ho]
    exact h'
  | some o =>
    rw [ho] at h
    exact AllReadyH.cons ho h AllReadyH.nil
end
end Go.Tre
