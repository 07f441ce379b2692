/- Whether two variables are one is told: plain. -/
import Derived.Test.YtlkfhbmjemjohaaPl
import Derived.Test.YtlkfhbmjemjohaaFree
namespace Go.Tre
def starB : ByteArray := ⟨#[42]⟩
def varN : Tre.Node := ⟨1, ByteArray.empty, [], [], false⟩
def starN (a b : Int) : Tre.Node := ⟨2, starB, [a, b], [], false⟩
theorem outside_mono {a b : Nat} (h : a ≤ b) {x : Int} (hx : outside a x = false) : outside b x = false := by
  unfold outside at *
  simp only [Bool.or_eq_false_iff, decide_eq_false_iff_not] at *
  omega
theorem mayB_mono {a b : Nat} (h : a ≤ b) {n : Tre.Node} (hn : mayB n a = true) : mayB n b = true := by
  unfold mayB at *
  simp only [Bool.and_eq_true, Bool.not_eq_true', List.any_eq_false] at *
  refine ⟨fun x hx => ?_, hn.2⟩
  have := hn.1 x hx
  rw [Bool.not_eq_true] at this ⊢
  exact outside_mono h this
theorem mayB_var (k : Nat) : mayB varN k = true := by simp [mayB, varN]
theorem mayB_star {k : Nat} {a b : Int} (ha : 0 ≤ a) (ha' : a < k) (hb : 0 ≤ b) (hb' : b < k) : mayB (starN a b) k = true := by
  have e : arity starB = some 2 := by decide +kernel
  unfold mayB starN
  simp only [List.any_cons, List.any_nil, e]
  have h1 : outside k a = false := by unfold outside; simp; omega
  have h2 : outside k b = false := by unfold outside; simp; omega
  simp [h1, h2]
theorem check_mk {g : Tre.Graph} (hl : g.ns.length ≤ 1048576) (h0 : 0 ≤ g.root) (h1 : g.root < g.ns.length) (hm : ∀ n ∈ g.ns, mayB n g.ns.length = true) : g.checkC = 0 := by
  unfold Graph.checkC
  rw [if_neg (by omega), if_neg]
  rintro (h | h | h)
  · omega
  · omega
  · obtain ⟨n, hn, e⟩ := List.any_eq_true.1 h
    rw [hm n hn] at e
    cases e
theorem Graph.Ok.mays {g : Tre.Graph} (og : g.Ok) : ∀ n ∈ g.ns, mayB n g.ns.length = true := by
  intro n hn
  obtain ⟨i, hi, rfl⟩ := List.getElem_of_mem hn
  rw [← Graph.nd_eq hi]; exact og.may i hi
/-- one variable, twice -/
def oneG (g : Tre.Graph) : Tre.Graph := ⟨g.ns ++ [varN, starN g.ns.length g.ns.length], g.ns.length + 1⟩
/-- two variables -/
def twoG (g : Tre.Graph) : Tre.Graph := ⟨g.ns ++ [varN, varN, starN g.ns.length (g.ns.length + 1)], g.ns.length + 2⟩
theorem nd_app (ns : List Tre.Node) (r : Int) (l : List Tre.Node) (j : Nat) : (⟨ns ++ l, r⟩ : Tre.Graph).nd (ns.length + j) = l.getD j dummy := by
  unfold Graph.nd
  simp only [List.getD_eq_getElem?_getD]
  rw [List.getElem?_append_right (by omega), Nat.add_sub_cancel_left]
theorem oneG_len (g : Tre.Graph) : (oneG g).ns.length = g.ns.length + 2 := by simp [oneG]
theorem twoG_len (g : Tre.Graph) : (twoG g).ns.length = g.ns.length + 3 := by simp [twoG]
theorem oneG_ok {g : Tre.Graph} (og : g.Ok) (hl : g.ns.length ≤ 1000) : (oneG g).checkC = 0 := by
  refine check_mk (by rw [oneG_len]; omega) (by show (0 : Int) ≤ g.ns.length + _; omega) (by rw [oneG_len]; show ((g.ns.length : Int) + _) < _; omega) (fun n hn => ?_)
  simp only [oneG, List.length_append, List.length_cons, List.length_nil] at hn ⊢
  rcases List.mem_append.1 hn with hn | hn
  · exact mayB_mono (by omega) (og.mays n hn)
  · simp at hn
    rcases hn with rfl | rfl
    · exact mayB_var _
    · exact mayB_star (by omega) (by omega) (by omega) (by omega)
theorem twoG_ok {g : Tre.Graph} (og : g.Ok) (hl : g.ns.length ≤ 1000) : (twoG g).checkC = 0 := by
  refine check_mk (by rw [twoG_len]; omega) (by show (0 : Int) ≤ g.ns.length + _; omega) (by rw [twoG_len]; show ((g.ns.length : Int) + _) < _; omega) (fun n hn => ?_)
  simp only [twoG, List.length_append, List.length_cons, List.length_nil] at hn ⊢
  rcases List.mem_append.1 hn with hn | hn
  · exact mayB_mono (by omega) (og.mays n hn)
  · simp at hn
    rcases hn with rfl | rfl
    · exact mayB_var _
    · exact mayB_star (by omega) (by omega) (by omega) (by omega)
theorem one_nd0 (g : Tre.Graph) : (oneG g).nd g.ns.length = varN := nd_app g.ns _ _ 0
theorem one_nd1 (g : Tre.Graph) : (oneG g).nd (g.ns.length + 1) = starN g.ns.length g.ns.length := nd_app g.ns _ _ 1
theorem two_nd0 (g : Tre.Graph) : (twoG g).nd g.ns.length = varN := nd_app g.ns _ _ 0
theorem two_nd1 (g : Tre.Graph) : (twoG g).nd (g.ns.length + 1) = varN := nd_app g.ns _ _ 1
theorem two_nd2 (g : Tre.Graph) : (twoG g).nd (g.ns.length + 2) = starN g.ns.length (g.ns.length + 1) := nd_app g.ns _ _ 2
theorem oneG_root (g : Tre.Graph) : (oneG g).root.toNat = g.ns.length + 1 := by show ((g.ns.length : Int) + _).toNat = _; omega
theorem twoG_root (g : Tre.Graph) : (twoG g).root.toNat = g.ns.length + 2 := by show ((g.ns.length : Int) + _).toNat = _; omega
theorem not_one_two (g : Tre.Graph) : sameB (oneG g) (twoG g) = false := by
  rw [← Bool.not_eq_true, sameB_iff]
  intro s
  have r : RP (oneG g) (twoG g) (g.ns.length + 1) (g.ns.length + 2) := by
    have := RP.root (g := oneG g) (h := twoG g)
    rwa [oneG_root, twoG_root] at this
  have d1 : (oneG g).deg (g.ns.length + 1) = 2 := by unfold Graph.deg; rw [one_nd1]; rfl
  have d2 : (twoG g).deg (g.ns.length + 2) = 2 := by unfold Graph.deg; rw [two_nd2]; rfl
  have k0 : (oneG g).kid (g.ns.length + 1) 0 = g.ns.length := by unfold Graph.kid; rw [one_nd1]; simp [starN]
  have k1 : (oneG g).kid (g.ns.length + 1) 1 = g.ns.length := by unfold Graph.kid; rw [one_nd1]; simp [starN]
  have l0 : (twoG g).kid (g.ns.length + 2) 0 = g.ns.length := by unfold Graph.kid; rw [two_nd2]; simp [starN]
  have l1 : (twoG g).kid (g.ns.length + 2) 1 = g.ns.length + 1 := by unfold Graph.kid; rw [two_nd2]; simp [starN]; try omega
  have r0 := RP.kid (i := 0) r (by omega) (by omega)
  have r1 := RP.kid (i := 1) r (by omega) (by omega)
  rw [k0, l0] at r0
  rw [k1, l1] at r1
  have := (s.one _ _ _ _ r0 r1 (by rw [one_nd0]; rfl)).1 rfl
  omega
theorem oneG_free {g : Tre.Graph} (og : g.Ok) (hl : g.ns.length ≤ 1000) : (oneG g).freeL.length = 1 := by
  have e : (oneG g).reachL = [g.ns.length + 1, g.ns.length] := by
    unfold Graph.reachL
    rw [if_pos (oneG_ok og hl), oneG_root, Graph.dfs_take (by simp) (by rw [oneG_len]; omega)]
    have k : (oneG g).kids (g.ns.length + 1) = [g.ns.length, g.ns.length] := by unfold Graph.kids; rw [one_nd1]; simp [starN]
    have k' : (oneG g).kids g.ns.length = [] := by unfold Graph.kids; rw [one_nd0]; rfl
    rw [k]
    simp only [List.nil_append, List.append_nil]
    rw [Graph.dfs_take (by simp) (by rw [oneG_len]; omega), k']
    simp only [List.nil_append, List.singleton_append]
    rw [Graph.dfs_skip (by simp), Graph.dfs_nil]
  unfold Graph.freeL
  rw [e]
  simp only [List.filter_cons, one_nd1, one_nd0]
  rfl
theorem twoG_free {g : Tre.Graph} (og : g.Ok) (hl : g.ns.length ≤ 1000) : (twoG g).freeL.length = 2 := by
  have e : (twoG g).reachL = [g.ns.length + 2, g.ns.length, g.ns.length + 1] := by
    unfold Graph.reachL
    rw [if_pos (twoG_ok og hl), twoG_root, Graph.dfs_take (by simp) (by rw [twoG_len]; omega)]
    have k : (twoG g).kids (g.ns.length + 2) = [g.ns.length, g.ns.length + 1] := by unfold Graph.kids; rw [two_nd2]; simp [starN]; try omega
    have k' : (twoG g).kids g.ns.length = [] := by unfold Graph.kids; rw [two_nd0]; rfl
    have k'' : (twoG g).kids (g.ns.length + 1) = [] := by unfold Graph.kids; rw [two_nd1]; rfl
    rw [k]
    simp only [List.nil_append, List.append_nil]
    rw [Graph.dfs_take (by simp) (by rw [twoG_len]; omega), k']
    simp only [List.nil_append, List.singleton_append]
    rw [Graph.dfs_take (by simp) (by rw [twoG_len]; omega), k'']
    simp only [List.append_nil, List.cons_append, List.nil_append]
    rw [Graph.dfs_nil]
  unfold Graph.freeL
  rw [e]
  simp only [List.filter_cons, two_nd1, two_nd0, two_nd2]
  rfl
theorem oneG_weight (g : Tre.Graph) : (oneG g).weight = g.weight + 5 := by
  unfold Graph.weight
  show ((g.ns ++ _).map Node.weight).sum = _
  rw [List.map_append, List.sum_append]
  rfl
theorem twoG_weight (g : Tre.Graph) : (twoG g).weight = g.weight + 6 := by
  unfold Graph.weight
  show ((g.ns ++ _).map Node.weight).sum = _
  rw [List.map_append, List.sum_append]
  rfl
theorem Graph.great_len (g : Tre.Graph) : g.ns.length ≤ g.great := by unfold Graph.great; omega
end Go.Tre
