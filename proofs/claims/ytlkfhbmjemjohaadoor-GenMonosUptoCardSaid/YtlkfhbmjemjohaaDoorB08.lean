/- graph.Trim: plain. Plain laws on being the same. Whether two variables are one is told: plain. Layer 13: plain. What is marked, fixed, generic; the fresh copy. graph.Same, at any two graphs. -/
import Derived.Test.YtlkfhbmjemjohaaDoorB07
import Derived.Test.YtlkfhbmjemjohaaDoorB05
namespace Go.Tre
/-- which place a node has among those that are reached -/
def placeOf (L : List Nat) (a : Int) : Int := ((L.idxOf a.toNat : Nat) : Int)
def trimNode (L : List Nat) (n : Tre.Node) : Tre.Node := { n with args := n.args.map (placeOf L) }
def Graph.trim (g : Tre.Graph) : Tre.Graph := ⟨g.reachL.map fun i => trimNode g.reachL (g.nd i), 0⟩
def idxMap (L : List Nat) (k : Nat) : Nat → Option Nat := fun x => if x ∈ L.take k then some (L.idxOf x) else none
theorem idxOf_nodup {L : List Nat} (hn : L.Nodup) {k : Nat} (h : k < L.length) : L.idxOf L[k] = k := by
  have h1 : L.idxOf L[k] < L.length := List.idxOf_lt_length_of_mem (List.getElem_mem h)
  have h2 : L[L.idxOf L[k]] = L[k] := List.getElem_idxOf h1
  exact (List.getElem?_inj h1 hn).1 (by rw [List.getElem?_eq_getElem h1, List.getElem?_eq_getElem h, h2])
theorem idxMap_succ {L : List Nat} (hn : L.Nodup) {k : Nat} (h : k < L.length) : upd (idxMap L k) L[k] k = idxMap L (k + 1) := by
  funext x
  unfold upd idxMap
  have e : L.take (k + 1) = L.take k ++ [L[k]] := by rw [List.take_add_one, List.getElem?_eq_getElem h]; rfl
  rw [e]
  by_cases hx : x = L[k]
  · subst hx
    rw [if_pos rfl, if_pos (List.mem_append.2 (.inr (List.mem_singleton.2 rfl))), idxOf_nodup hn h]
  · rw [if_neg hx]
    have : (x ∈ L.take k ++ [L[k]]) = (x ∈ L.take k) := by rw [List.mem_append, List.mem_singleton]; simp only [hx, or_false]
    simp only [this]
theorem idxMap_all (L : List Nat) {x : Nat} (h : x ∈ L) : idxMap L L.length x = some (L.idxOf x) := by
  unfold idxMap; rw [List.take_length, if_pos h]
/-- the first j are turned -/
def half {α : Type} (f : α → α) (l : List α) (j : Nat) : List α := (l.take j).map f ++ l.drop j
theorem half_zero {α : Type} (f : α → α) (l : List α) : half f l 0 = l := by simp [half]
theorem half_all {α : Type} (f : α → α) (l : List α) : half f l l.length = l.map f := by simp [half]
theorem half_at {α : Type} (f : α → α) (l : List α) {j : Nat} (h : j < l.length) : (half f l j)[j]? = some l[j] := by
  unfold half
  rw [List.getElem?_append_right (by rw [List.length_map, List.length_take]; omega), List.length_map, List.length_take, Nat.min_eq_left (by omega), Nat.sub_self, List.getElem?_drop, Nat.add_zero, List.getElem?_eq_getElem h]
theorem half_set {α : Type} (f : α → α) (l : List α) {j : Nat} (h : j < l.length) : (half f l j).set j (f l[j]) = half f l (j + 1) := by
  unfold half
  have e : ((l.take j).map f).length = j := by rw [List.length_map, List.length_take]; omega
  rw [List.set_append_right _ _ (by omega), e, Nat.sub_self, List.drop_eq_getElem_cons h, List.set_cons_zero, List.take_add_one, List.getElem?_eq_getElem h, List.map_append]
  simp
theorem half_len {α : Type} (f : α → α) (l : List α) (j : Nat) : (half f l j).length = l.length := by
  unfold half
  rw [List.length_append, List.length_map, List.length_take, List.length_drop]; omega
theorem Graph.reach_kids (g : Tre.Graph) {a : Nat} (ha : a ∈ g.reachL) : ∀ b ∈ g.kids a, b ∈ g.reachL := by
  unfold Graph.reachL at ha ⊢
  by_cases h : g.checkC = 0
  · rw [if_pos h] at ha ⊢
    have og := Graph.ok_of h
    exact (g.dfs_spec og _ [g.root.toNat] [] (Nat.le_refl _) (by simp) (by simp) (fun a ha => by simp at ha; rw [ha]; exact og.root1) (by simp)).2.2.1 a ha
  · rw [if_neg h] at ha; simp at ha
theorem Graph.reach_ok {g : Tre.Graph} {a : Nat} (ha : a ∈ g.reachL) : g.Ok := by
  unfold Graph.reachL at ha
  by_cases h : g.checkC = 0
  · exact Graph.ok_of h
  · rw [if_neg h] at ha; simp at ha
end Go.Tre
namespace Go.Tre
def setMap (L : List Nat) (k : Nat) : Nat → Option Unit := fun x => if x ∈ L.take k then some () else none
theorem setMap_zero (L : List Nat) : setMap L 0 = fun _ => none := by funext x; simp [setMap]
theorem take_snoc_n {α : Type} {L : List α} {k : Nat} (h : k < L.length) : L.take (k + 1) = L.take k ++ [L[k]] := by rw [List.take_add_one, List.getElem?_eq_getElem h]; rfl
theorem setMap_succ {L : List Nat} {k : Nat} (h : k < L.length) : upd (setMap L k) L[k] () = setMap L (k + 1) := by
  funext x
  unfold upd setMap
  rw [take_snoc_n h]
  by_cases hx : x = L[k]
  · subst hx
    rw [if_pos rfl, if_pos (List.mem_append.2 (.inr (List.mem_singleton.2 rfl)))]
  · rw [if_neg hx]
    have : (x ∈ L.take k ++ [L[k]]) = (x ∈ L.take k) := by rw [List.mem_append, List.mem_singleton]; simp only [hx, or_false]
    simp only [this]
theorem setMap_new {L : List Nat} (hn : L.Nodup) {k : Nat} (h : k < L.length) : setMap L k L[k] = none := by
  unfold setMap
  rw [if_neg]
  intro hm
  obtain ⟨i, hi, e⟩ := List.getElem_of_mem hm
  rw [List.getElem_take] at e
  have hi' : i < k := by rw [List.length_take] at hi; omega
  have := (List.getElem?_inj (by omega) hn).1 (show L[i]? = L[k]? by rw [List.getElem?_eq_getElem (by omega), List.getElem?_eq_getElem h, e])
  omega
theorem setMap_all {L : List Nat} {x : Nat} (h : x ∈ L) : setMap L L.length x = some () := by unfold setMap; rw [List.take_length, if_pos h]
theorem setMap_no {L : List Nat} {x : Nat} (h : x ∉ L) : setMap L L.length x = none := by unfold setMap; rw [List.take_length, if_neg h]

theorem Graph.reach_head {g : Tre.Graph} (h : g.checkC = 0) : g.reachL[0]? = some g.root.toNat := by
  have og := Graph.ok_of h
  unfold Graph.reachL
  rw [if_pos h, Graph.dfs_take (by simp) og.root1, List.append_nil, List.nil_append]
  obtain ⟨_, _, _, ⟨t, ht⟩, _⟩ := g.dfs_spec og _ (g.kids g.root.toNat) [g.root.toNat] (Nat.le_refl _) (by simp) (fun a ha => by simp at ha; rw [ha]; exact og.root1) (og.kids_lt og.root1) (fun a ha b hb => by simp at ha; subst ha; exact .inr hb)
  rw [ht]; rfl
theorem alike_refl (x : Tre.Node) : alikeB x x = true := by simp [alikeB]
theorem alike_symm {x y : Tre.Node} (h : alikeB x y = true) : alikeB y x = true := by
  unfold alikeB at *
  simp only [Bool.and_eq_true, decide_eq_true_eq] at *
  obtain ⟨⟨⟨⟨h1, h2⟩, h3⟩, h4⟩, h5⟩ := h
  exact ⟨⟨⟨⟨h1.symm, h2.symm⟩, h3.symm⟩, h4.symm⟩, h5.symm⟩
theorem alike_trans {x y z : Tre.Node} (h : alikeB x y = true) (k : alikeB y z = true) : alikeB x z = true := by
  unfold alikeB at *
  simp only [Bool.and_eq_true, decide_eq_true_eq] at *
  obtain ⟨⟨⟨⟨h1, h2⟩, h3⟩, h4⟩, h5⟩ := h
  obtain ⟨⟨⟨⟨k1, k2⟩, k3⟩, k4⟩, k5⟩ := k
  exact ⟨⟨⟨⟨h1.trans k1, h2.trans k2⟩, h3.trans k3⟩, h4.trans k4⟩, h5.trans k5⟩
theorem RP.symm {g h : Tre.Graph} {a b : Nat} (r : RP g h a b) : RP h g b a := by
  induction r with
  | root => exact .root
  | kid _ h1 h2 ih => exact .kid ih h2 h1
theorem SameG.symm {g h : Tre.Graph} (s : SameG g h) : SameG h g :=
  ⟨s.okh, s.okg, fun a b r => alike_symm (s.alike b a r.symm), fun a b a' b' r r' hf => (s.one b a b' a' r.symm r'.symm (by rw [alike_free (s.alike b a r.symm)]; exact hf)).symm⟩
theorem RP.refl_eq {g : Tre.Graph} {a b : Nat} (r : RP g g a b) : a = b := by
  induction r with
  | root => rfl
  | kid _ _ _ ih => rw [ih]
theorem SameG.refl {g : Tre.Graph} (h : g.checkC = 0) : SameG g g :=
  ⟨h, h, fun a b r => by rw [r.refl_eq]; exact alike_refl _, fun a b a' b' r r' _ => by rw [r.refl_eq, r'.refl_eq]⟩
theorem RP.comp {g h k : Tre.Graph} (s : SameG g h) (_t : SameG h k) {a c : Nat} (r : RP g k a c) : ∃ b, RP g h a b ∧ RP h k b c := by
  induction r with
  | root => exact ⟨_, .root, .root⟩
  | kid _ h1 h2 ih =>
    obtain ⟨b, r1, r2⟩ := ih
    have e1 := alike_deg (s.alike _ _ r1)
    refine ⟨h.kid b _, .kid r1 h1 ?_, .kid r2 ?_ h2⟩ <;> (unfold Graph.deg at *; omega)
theorem SameG.trans {g h k : Tre.Graph} (s : SameG g h) (t : SameG h k) : SameG g k := by
  refine ⟨s.okg, t.okh, fun a c r => ?_, fun a c a' c' r r' hf => ?_⟩
  · obtain ⟨b, r1, r2⟩ := r.comp s t
    exact alike_trans (s.alike _ _ r1) (t.alike _ _ r2)
  · obtain ⟨b, r1, r2⟩ := r.comp s t
    obtain ⟨b', r1', r2'⟩ := r'.comp s t
    exact (s.one _ _ _ _ r1 r1' hf).trans (t.one _ _ _ _ r2 r2' (by rw [← alike_free (s.alike _ _ r1)]; exact hf))
theorem sameB_iff {g h : Tre.Graph} : sameB g h = true ↔ SameG g h := by unfold sameB; simp
theorem sameB_symm (g h : Tre.Graph) : sameB g h = sameB h g := by
  rw [Bool.eq_iff_iff, sameB_iff, sameB_iff]; exact ⟨SameG.symm, SameG.symm⟩
end Go.Tre
namespace Go.Tre
def starB : ByteArray := ⟨#[42]⟩
def varN : Tre.Node := ⟨1, ByteArray.empty, [], [], false⟩
def starN (a b : Int) : Tre.Node := ⟨2, starB, [a, b], [], false⟩
theorem outside_mono {a b : Nat} (h : a ≤ b) {x : Int} (hx : outside a x = false) : outside b x = false := by
  unfold outside at *
  simp only [Bool.or_eq_false_iff, decide_eq_false_iff_not] at *
  omega
theorem mayB_mono {a b : Nat} (h : a ≤ b) {n : Tre.Node} (hn : mayB n a = true) : mayB n b = true := by
  unfold mayB at *
  simp only [Bool.and_eq_true, Bool.not_eq_true', List.any_eq_false] at *
  refine ⟨fun x hx => ?_, hn.2⟩
  have := hn.1 x hx
  rw [Bool.not_eq_true] at this ⊢
  exact outside_mono h this
theorem mayB_var (k : Nat) : mayB varN k = true := by simp [mayB, varN]
theorem mayB_star {k : Nat} {a b : Int} (ha : 0 ≤ a) (ha' : a < k) (hb : 0 ≤ b) (hb' : b < k) : mayB (starN a b) k = true := by
  have e : arity starB = some 2 := by decide +kernel
  unfold mayB starN
  simp only [List.any_cons, List.any_nil, e]
  have h1 : outside k a = false := by unfold outside; simp; omega
  have h2 : outside k b = false := by unfold outside; simp; omega
  simp [h1, h2]
theorem check_mk {g : Tre.Graph} (hl : g.ns.length ≤ 1048576) (h0 : 0 ≤ g.root) (h1 : g.root < g.ns.length) (hm : ∀ n ∈ g.ns, mayB n g.ns.length = true) : g.checkC = 0 := by
  unfold Graph.checkC
  rw [if_neg (by omega), if_neg]
  rintro (h | h | h)
  · omega
  · omega
  · obtain ⟨n, hn, e⟩ := List.any_eq_true.1 h
    rw [hm n hn] at e
    cases e
theorem Graph.Ok.mays {g : Tre.Graph} (og : g.Ok) : ∀ n ∈ g.ns, mayB n g.ns.length = true := by
  intro n hn
  obtain ⟨i, hi, rfl⟩ := List.getElem_of_mem hn
  rw [← Graph.nd_eq hi]; exact og.may i hi
/-- one variable, twice -/
def oneG (g : Tre.Graph) : Tre.Graph := ⟨g.ns ++ [varN, starN g.ns.length g.ns.length], g.ns.length + 1⟩
/-- two variables -/
def twoG (g : Tre.Graph) : Tre.Graph := ⟨g.ns ++ [varN, varN, starN g.ns.length (g.ns.length + 1)], g.ns.length + 2⟩
theorem nd_app (ns : List Tre.Node) (r : Int) (l : List Tre.Node) (j : Nat) : (⟨ns ++ l, r⟩ : Tre.Graph).nd (ns.length + j) = l.getD j dummy := by
  unfold Graph.nd
  simp only [List.getD_eq_getElem?_getD]
  rw [List.getElem?_append_right (by omega), Nat.add_sub_cancel_left]
theorem oneG_len (g : Tre.Graph) : (oneG g).ns.length = g.ns.length + 2 := by simp [oneG]
theorem twoG_len (g : Tre.Graph) : (twoG g).ns.length = g.ns.length + 3 := by simp [twoG]
theorem oneG_ok {g : Tre.Graph} (og : g.Ok) (hl : g.ns.length ≤ 1000) : (oneG g).checkC = 0 := by
  refine check_mk (by rw [oneG_len]; omega) (by show (0 : Int) ≤ g.ns.length + _; omega) (by rw [oneG_len]; show ((g.ns.length : Int) + _) < _; omega) (fun n hn => ?_)
  simp only [oneG, List.length_append, List.length_cons, List.length_nil] at hn ⊢
  rcases List.mem_append.1 hn with hn | hn
  · exact mayB_mono (by omega) (og.mays n hn)
  · simp at hn
    rcases hn with rfl | rfl
    · exact mayB_var _
    · exact mayB_star (by omega) (by omega) (by omega) (by omega)
theorem twoG_ok {g : Tre.Graph} (og : g.Ok) (hl : g.ns.length ≤ 1000) : (twoG g).checkC = 0 := by
  refine check_mk (by rw [twoG_len]; omega) (by show (0 : Int) ≤ g.ns.length + _; omega) (by rw [twoG_len]; show ((g.ns.length : Int) + _) < _; omega) (fun n hn => ?_)
  simp only [twoG, List.length_append, List.length_cons, List.length_nil] at hn ⊢
  rcases List.mem_append.1 hn with hn | hn
  · exact mayB_mono (by omega) (og.mays n hn)
  · simp at hn
    rcases hn with rfl | rfl
    · exact mayB_var _
    · exact mayB_star (by omega) (by omega) (by omega) (by omega)
theorem one_nd0 (g : Tre.Graph) : (oneG g).nd g.ns.length = varN := nd_app g.ns _ _ 0
theorem one_nd1 (g : Tre.Graph) : (oneG g).nd (g.ns.length + 1) = starN g.ns.length g.ns.length := nd_app g.ns _ _ 1
theorem two_nd0 (g : Tre.Graph) : (twoG g).nd g.ns.length = varN := nd_app g.ns _ _ 0
theorem two_nd1 (g : Tre.Graph) : (twoG g).nd (g.ns.length + 1) = varN := nd_app g.ns _ _ 1
theorem two_nd2 (g : Tre.Graph) : (twoG g).nd (g.ns.length + 2) = starN g.ns.length (g.ns.length + 1) := nd_app g.ns _ _ 2
theorem oneG_root (g : Tre.Graph) : (oneG g).root.toNat = g.ns.length + 1 := by show ((g.ns.length : Int) + _).toNat = _; omega
theorem twoG_root (g : Tre.Graph) : (twoG g).root.toNat = g.ns.length + 2 := by show ((g.ns.length : Int) + _).toNat = _; omega
theorem not_one_two (g : Tre.Graph) : sameB (oneG g) (twoG g) = false := by
  rw [← Bool.not_eq_true, sameB_iff]
  intro s
  have r : RP (oneG g) (twoG g) (g.ns.length + 1) (g.ns.length + 2) := by
    have := RP.root (g := oneG g) (h := twoG g)
    rwa [oneG_root, twoG_root] at this
  have d1 : (oneG g).deg (g.ns.length + 1) = 2 := by unfold Graph.deg; rw [one_nd1]; rfl
  have d2 : (twoG g).deg (g.ns.length + 2) = 2 := by unfold Graph.deg; rw [two_nd2]; rfl
  have k0 : (oneG g).kid (g.ns.length + 1) 0 = g.ns.length := by unfold Graph.kid; rw [one_nd1]; simp [starN]
  have k1 : (oneG g).kid (g.ns.length + 1) 1 = g.ns.length := by unfold Graph.kid; rw [one_nd1]; simp [starN]
  have l0 : (twoG g).kid (g.ns.length + 2) 0 = g.ns.length := by unfold Graph.kid; rw [two_nd2]; simp [starN]
  have l1 : (twoG g).kid (g.ns.length + 2) 1 = g.ns.length + 1 := by unfold Graph.kid; rw [two_nd2]; simp [starN]; try omega
  have r0 := RP.kid (i := 0) r (by omega) (by omega)
  have r1 := RP.kid (i := 1) r (by omega) (by omega)
  rw [k0, l0] at r0
  rw [k1, l1] at r1
  have := (s.one _ _ _ _ r0 r1 (by rw [one_nd0]; rfl)).1 rfl
  omega
theorem oneG_free {g : Tre.Graph} (og : g.Ok) (hl : g.ns.length ≤ 1000) : (oneG g).freeL.length = 1 := by
  have e : (oneG g).reachL = [g.ns.length + 1, g.ns.length] := by
    unfold Graph.reachL
    rw [if_pos (oneG_ok og hl), oneG_root, Graph.dfs_take (by simp) (by rw [oneG_len]; omega)]
    have k : (oneG g).kids (g.ns.length + 1) = [g.ns.length, g.ns.length] := by unfold Graph.kids; rw [one_nd1]; simp [starN]
    have k' : (oneG g).kids g.ns.length = [] := by unfold Graph.kids; rw [one_nd0]; rfl
    rw [k]
    simp only [List.nil_append, List.append_nil]
    rw [Graph.dfs_take (by simp) (by rw [oneG_len]; omega), k']
    simp only [List.nil_append, List.singleton_append]
    rw [Graph.dfs_skip (by simp), Graph.dfs_nil]
  unfold Graph.freeL
  rw [e]
  simp only [List.filter_cons, one_nd1, one_nd0]
  rfl
theorem twoG_free {g : Tre.Graph} (og : g.Ok) (hl : g.ns.length ≤ 1000) : (twoG g).freeL.length = 2 := by
  have e : (twoG g).reachL = [g.ns.length + 2, g.ns.length, g.ns.length + 1] := by
    unfold Graph.reachL
    rw [if_pos (twoG_ok og hl), twoG_root, Graph.dfs_take (by simp) (by rw [twoG_len]; omega)]
    have k : (twoG g).kids (g.ns.length + 2) = [g.ns.length, g.ns.length + 1] := by unfold Graph.kids; rw [two_nd2]; simp [starN]; try omega
    have k' : (twoG g).kids g.ns.length = [] := by unfold Graph.kids; rw [two_nd0]; rfl
    have k'' : (twoG g).kids (g.ns.length + 1) = [] := by unfold Graph.kids; rw [two_nd1]; rfl
    rw [k]
    simp only [List.nil_append, List.append_nil]
    rw [Graph.dfs_take (by simp) (by rw [twoG_len]; omega), k']
    simp only [List.nil_append, List.singleton_append]
    rw [Graph.dfs_take (by simp) (by rw [twoG_len]; omega), k'']
    simp only [List.append_nil, List.cons_append, List.nil_append]
    rw [Graph.dfs_nil]
  unfold Graph.freeL
  rw [e]
  simp only [List.filter_cons, two_nd1, two_nd0, two_nd2]
  rfl
theorem oneG_weight (g : Tre.Graph) : (oneG g).weight = g.weight + 5 := by
  unfold Graph.weight
  show ((g.ns ++ _).map Node.weight).sum = _
  rw [List.map_append, List.sum_append]
  rfl
theorem twoG_weight (g : Tre.Graph) : (twoG g).weight = g.weight + 6 := by
  unfold Graph.weight
  show ((g.ns ++ _).map Node.weight).sum = _
  rw [List.map_append, List.sum_append]
  rfl
theorem Graph.great_len (g : Tre.Graph) : g.ns.length ≤ g.great := by unfold Graph.great; omega
end Go.Tre
namespace Go.Tre
/-- one leads to the other -/
inductive Rch (g : Tre.Graph) (a : Nat) : Nat → Prop where
  | refl : Rch g a a
  | step {b c : Nat} : Rch g a b → c ∈ g.kids b → Rch g a c
theorem Rch.trans {g : Tre.Graph} {a b c : Nat} (h : Rch g a b) (k : Rch g b c) : Rch g a c := by
  induction k with
  | refl => exact h
  | step _ hc ih => exact ih.step hc
theorem Rch.head {g : Tre.Graph} {a b c : Nat} (h : b ∈ g.kids a) (k : Rch g b c) : Rch g a c := (Rch.refl.step h).trans k
theorem Rch.lt {g : Tre.Graph} (og : g.Ok) {a b : Nat} (h : Rch g a b) (ha : a < g.ns.length) : b < g.ns.length := by
  induction h with
  | refl => exact ha
  | step _ hc ih => exact og.kids_lt ih _ hc
theorem Graph.dfs_within {g : Tre.Graph} (og : g.Ok) (C : Nat → Prop) (hC : ∀ a, C a → ∀ b ∈ g.kids a, C b) : ∀ (k : Nat) (s out : List Nat), g.budget out + s.length ≤ k → (∀ a ∈ s, a < g.ns.length) → (∀ a ∈ s, C a) → (∀ a ∈ out, C a) → ∀ a ∈ g.dfs s out, C a := by
  intro k
  induction k with
  | zero =>
    intro s out hk _ _ h3
    have : s = [] := List.length_eq_zero_iff.1 (by omega)
    subst this
    rw [g.dfs_nil]; exact h3
  | succ k ih =>
    intro s out hk h1 h2 h3
    cases s with
    | nil => rw [g.dfs_nil]; exact h3
    | cons a s =>
      have hal := h1 a (by simp)
      by_cases hm : a ∈ out
      · rw [Graph.dfs_skip hm]; exact ih s out (by simp at hk; omega) (fun b hb => h1 b (by simp [hb])) (fun b hb => h2 b (by simp [hb])) h3
      · rw [Graph.dfs_take hm hal]
        have hb := Graph.budget_step hal hm
        refine ih (g.kids a ++ s) (out ++ [a]) (by simp only [List.length_append, List.length_cons, g.kids_len] at hk ⊢; omega) (fun b hb => ?_) (fun b hb => ?_) (fun b hb => ?_)
        · rcases List.mem_append.1 hb with hb | hb
          · exact og.kids_lt hal b hb
          · exact h1 b (by simp [hb])
        · rcases List.mem_append.1 hb with hb | hb
          · exact hC a (h2 a (by simp)) b hb
          · exact h2 b (by simp [hb])
        · rcases List.mem_append.1 hb with hb | hb
          · exact h3 b hb
          · simp at hb; rw [hb]; exact h2 a (by simp)
theorem Graph.mem_dfs {g : Tre.Graph} (og : g.Ok) {l : List Nat} (hl : ∀ a ∈ l, a < g.ns.length) {a : Nat} : a ∈ g.dfs l [] ↔ ∃ m ∈ l, Rch g m a := by
  constructor
  · intro h
    exact Graph.dfs_within og (fun a => ∃ m ∈ l, Rch g m a) (fun a ⟨m, hm, r⟩ b hb => ⟨m, hm, r.step hb⟩) _ l [] (Nat.le_refl _) hl (fun a ha => ⟨a, ha, .refl⟩) (by simp) a h
  · rintro ⟨m, hm, r⟩
    obtain ⟨_, _, r3, _, r5⟩ := g.dfs_spec og _ l [] (Nat.le_refl _) (by simp) (by simp) hl (by simp)
    induction r with
    | refl => exact r5 m hm
    | step _ hc ih => exact r3 _ ih _ hc
theorem Graph.mem_reach {g : Tre.Graph} (h : g.checkC = 0) {a : Nat} : a ∈ g.reachL ↔ Rch g g.root.toNat a := by
  have og := Graph.ok_of h
  unfold Graph.reachL
  rw [if_pos h, Graph.mem_dfs og (fun a ha => by simp at ha; rw [ha]; exact og.root1)]
  simp
/-- what is marked -/
def Graph.markB (g : Tre.Graph) (l : List Nat) (i : Nat) : Bool := decide (i ∈ g.dfs l [])
def Graph.fixedL (g : Tre.Graph) (mono : List Nat) : List Nat := (List.range g.ns.length).filter fun i => freeB (g.nd i) && g.markB mono i
def Graph.genericL (g : Tre.Graph) (mono : List Nat) : List Nat := (List.range g.ns.length).filter fun i => freeB (g.nd i) && (!g.markB mono i && g.markB [g.root.toNat] i)
def Graph.leadB (g : Tre.Graph) (gen : List Nat) (i : Nat) : Bool := gen.any fun k => decide (k ∈ g.dfs [i] [])
def Graph.copiesL (g : Tre.Graph) (mono : List Nat) : List Nat := g.reachL.filter (g.leadB (g.genericL mono))
def nowF (n : Nat) (C : List Nat) (x : Nat) : Nat := if x ∈ C then n + C.idxOf x else x
def copyN (n : Nat) (C : List Nat) (x : Tre.Node) : Tre.Node := { x with args := x.args.map fun a => ((nowF n C a.toNat : Nat) : Int) }
def Graph.freshG (g : Tre.Graph) (mono : List Nat) : Tre.Graph := ⟨g.ns ++ (g.copiesL mono).map fun i => copyN g.ns.length (g.copiesL mono) (g.nd i), ((nowF g.ns.length (g.copiesL mono) g.root.toNat : Nat) : Int)⟩
section
variable {g : Tre.Graph} {mono : List Nat}
theorem Graph.markB_iff (og : g.Ok) {l : List Nat} (hl : ∀ a ∈ l, a < g.ns.length) {i : Nat} : g.markB l i = true ↔ ∃ m ∈ l, Rch g m i := by
  unfold Graph.markB; rw [decide_eq_true_eq]; exact Graph.mem_dfs og hl
theorem Graph.mem_fixed (og : g.Ok) (hl : ∀ a ∈ mono, a < g.ns.length) {i : Nat} : i ∈ g.fixedL mono ↔ i < g.ns.length ∧ freeB (g.nd i) = true ∧ ∃ m ∈ mono, Rch g m i := by
  unfold Graph.fixedL
  rw [List.mem_filter, List.mem_range, Bool.and_eq_true, Graph.markB_iff og hl]
theorem Graph.mem_generic (og : g.Ok) (hl : ∀ a ∈ mono, a < g.ns.length) {i : Nat} : i ∈ g.genericL mono ↔ freeB (g.nd i) = true ∧ (¬ ∃ m ∈ mono, Rch g m i) ∧ Rch g g.root.toNat i := by
  unfold Graph.genericL
  have h1 := Graph.markB_iff og hl (i := i)
  have h2 := Graph.markB_iff og (l := [g.root.toNat]) (fun a ha => by simp at ha; rw [ha]; exact og.root1) (i := i)
  rw [List.mem_filter, List.mem_range, Bool.and_eq_true, Bool.and_eq_true, Bool.not_eq_true', ← Bool.not_eq_true, h1, h2]
  simp only [List.mem_singleton, exists_eq_left]
  exact ⟨fun h => h.2, fun h => ⟨h.2.2.lt og og.root1, h⟩⟩
theorem Graph.leadB_iff (og : g.Ok) {gen : List Nat} {i : Nat} (hi : i < g.ns.length) : g.leadB gen i = true ↔ ∃ k ∈ gen, Rch g i k := by
  unfold Graph.leadB
  rw [List.any_eq_true]
  constructor
  · rintro ⟨k, hk, h⟩
    rw [decide_eq_true_eq, Graph.mem_dfs og (fun a ha => by simp at ha; rw [ha]; exact hi)] at h
    obtain ⟨m, hm, r⟩ := h
    simp at hm; subst hm
    exact ⟨k, hk, r⟩
  · rintro ⟨k, hk, r⟩
    refine ⟨k, hk, ?_⟩
    rw [decide_eq_true_eq, Graph.mem_dfs og (fun a ha => by simp at ha; rw [ha]; exact hi)]
    exact ⟨i, by simp, r⟩
theorem Graph.mem_copies (h : g.checkC = 0) (hl : ∀ a ∈ mono, a < g.ns.length) {i : Nat} : i ∈ g.copiesL mono ↔ Rch g g.root.toNat i ∧ ∃ k, Rch g i k ∧ freeB (g.nd k) = true ∧ ¬ ∃ m ∈ mono, Rch g m k := by
  have og := Graph.ok_of h
  unfold Graph.copiesL
  rw [List.mem_filter, Graph.mem_reach h]
  constructor
  · rintro ⟨h1, h2⟩
    rw [Graph.leadB_iff og (h1.lt og og.root1)] at h2
    obtain ⟨k, hk, r⟩ := h2
    have h3 := (Graph.mem_generic og hl).1 hk
    exact ⟨h1, k, r, h3.1, h3.2.1⟩
  · rintro ⟨h1, k, r, h3, h4⟩
    refine ⟨h1, ?_⟩
    rw [Graph.leadB_iff og (h1.lt og og.root1)]
    exact ⟨k, (Graph.mem_generic og hl).2 ⟨h3, h4, h1.trans r⟩, r⟩
theorem Graph.copies_nodup : (g.copiesL mono).Nodup := List.Nodup.sublist (List.filter_sublist) g.reach_nodup
theorem Graph.copies_lt {i : Nat} (h : i ∈ g.copiesL mono) : i < g.ns.length := g.reach_lt i (List.mem_filter.1 h).1
theorem nowF_lt {n m : Nat} {C : List Nat} {x : Nat} (hx : x < n) (hm : n + C.length ≤ m) : nowF n C x < m := by
  unfold nowF
  split
  · rename_i h
    have := List.idxOf_lt_length_of_mem h
    omega
  · omega
theorem nowF_inj {n : Nat} {C : List Nat} {x y : Nat} (hx : x < n) (hy : y < n) (h : nowF n C x = nowF n C y) : x = y := by
  unfold nowF at h
  by_cases h1 : x ∈ C
  · by_cases h2 : y ∈ C
    · rw [if_pos h1, if_pos h2] at h
      have e : C.idxOf x = C.idxOf y := by omega
      have h3 := List.getElem_idxOf (List.idxOf_lt_length_of_mem h1)
      have h4 := List.getElem_idxOf (List.idxOf_lt_length_of_mem h2)
      rw [← h3, ← h4]
      simp only [e]
    · rw [if_pos h1, if_neg h2] at h; omega
  · by_cases h2 : y ∈ C
    · rw [if_neg h1, if_pos h2] at h; omega
    · rw [if_neg h1, if_neg h2] at h; exact h
theorem Graph.fresh_len : (g.freshG mono).ns.length = g.ns.length + (g.copiesL mono).length := by simp [Graph.freshG]
theorem Graph.fresh_old {i : Nat} (hi : i < g.ns.length) : (g.freshG mono).nd i = g.nd i := by
  rw [Graph.nd_eq (by rw [Graph.fresh_len]; omega), Graph.nd_eq hi]
  exact List.getElem_append_left hi
theorem Graph.fresh_new {i : Nat} (hi : i ∈ g.copiesL mono) : (g.freshG mono).nd (nowF g.ns.length (g.copiesL mono) i) = copyN g.ns.length (g.copiesL mono) (g.nd i) := by
  have hk := List.idxOf_lt_length_of_mem hi
  have e : nowF g.ns.length (g.copiesL mono) i = g.ns.length + (g.copiesL mono).idxOf i := by unfold nowF; rw [if_pos hi]
  rw [e, Graph.nd_eq (by rw [Graph.fresh_len]; omega)]
  unfold Graph.freshG
  simp only
  rw [List.getElem_append_right (by omega)]
  simp only [List.getElem_map, Nat.add_sub_cancel_left]
  rw [List.getElem_idxOf hk]
/-- a copy's look -/
theorem Graph.now_nd (og : g.Ok) (h : g.checkC = 0) (hl : ∀ a ∈ mono, a < g.ns.length) {x : Nat} (hx : Rch g g.root.toNat x) :
    (g.freshG mono).nd (nowF g.ns.length (g.copiesL mono) x) = copyN g.ns.length (g.copiesL mono) (g.nd x) := by
  by_cases hc : x ∈ g.copiesL mono
  · exact Graph.fresh_new hc
  · have hxl := hx.lt og og.root1
    have e : nowF g.ns.length (g.copiesL mono) x = x := by unfold nowF; rw [if_neg hc]
    rw [e, Graph.fresh_old hxl]
    have ea : (g.nd x).args = (g.nd x).args.map fun a => ((nowF g.ns.length (g.copiesL mono) a.toNat : Nat) : Int) := by
      rw [og.kids_eq hxl, List.map_map]
      refine List.map_congr_left (fun y hy => ?_)
      have hyn : y ∉ g.copiesL mono := fun hy' => hc (by
        rw [Graph.mem_copies h hl] at hy' ⊢
        obtain ⟨_, k, r, r2⟩ := hy'
        exact ⟨hx, k, r.head hy, r2⟩)
      simp only [Function.comp, Int.toNat_natCast]
      unfold nowF
      rw [if_neg hyn]
    unfold copyN
    rw [← ea]
theorem copyN_kids (n : Nat) (C : List Nat) (x : Tre.Node) : (copyN n C x).args.map Int.toNat = (x.args.map Int.toNat).map (nowF n C) := by
  unfold copyN
  rw [List.map_map, List.map_map]
  rfl
theorem Graph.now_kids (og : g.Ok) (h : g.checkC = 0) (hl : ∀ a ∈ mono, a < g.ns.length) {x : Nat} (hx : Rch g g.root.toNat x) :
    (g.freshG mono).kids (nowF g.ns.length (g.copiesL mono) x) = (g.kids x).map (nowF g.ns.length (g.copiesL mono)) := by
  unfold Graph.kids
  rw [Graph.now_nd og h hl hx, copyN_kids]
theorem Graph.old_kids {i : Nat} (hi : i < g.ns.length) : (g.freshG mono).kids i = g.kids i := by unfold Graph.kids; rw [Graph.fresh_old hi]
theorem freeB_copy (n : Nat) (C : List Nat) (x : Tre.Node) : freeB (copyN n C x) = freeB x := rfl
theorem Graph.fresh_check (h : g.checkC = 0) (hs : g.ns.length + (g.copiesL mono).length ≤ 1048576) : (g.freshG mono).checkC = 0 := by
  have og := Graph.ok_of h
  refine check_mk (by rw [Graph.fresh_len]; exact hs) (by show (0 : Int) ≤ ((_ : Nat) : Int); omega) (by rw [Graph.fresh_len]; show ((_ : Nat) : Int) < _; have := nowF_lt (C := g.copiesL mono) og.root1 (Nat.le_refl _); omega) (fun n hn => ?_)
  rw [Graph.fresh_len]
  unfold Graph.freshG at hn
  rcases List.mem_append.1 hn with hn | hn
  · exact mayB_mono (by omega) (og.mays n hn)
  · obtain ⟨i, hi, rfl⟩ := List.mem_map.1 hn
    have hil := Graph.copies_lt hi
    have hm := og.may i hil
    unfold mayB at hm ⊢
    have e : (copyN g.ns.length (g.copiesL mono) (g.nd i)).args.length = (g.nd i).args.length := by simp [copyN]
    rw [show (copyN g.ns.length (g.copiesL mono) (g.nd i)).kind = (g.nd i).kind from rfl, show (copyN g.ns.length (g.copiesL mono) (g.nd i)).name = (g.nd i).name from rfl, show (copyN g.ns.length (g.copiesL mono) (g.nd i)).labels = (g.nd i).labels from rfl, show (copyN g.ns.length (g.copiesL mono) (g.nd i)).isOpen = (g.nd i).isOpen from rfl, e]
    rw [Bool.and_eq_true] at hm ⊢
    refine ⟨?_, hm.2⟩
    cases hy : (copyN g.ns.length (g.copiesL mono) (g.nd i)).args.any (outside (g.ns.length + (g.copiesL mono).length))
    · rfl
    · obtain ⟨z, hz, hzz⟩ := List.any_eq_true.1 hy
      have hz' : z ∈ (g.nd i).args.map fun a => ((nowF g.ns.length (g.copiesL mono) a.toNat : Nat) : Int) := hz
      rw [og.kids_eq hil, List.map_map] at hz'
      obtain ⟨y, hy', rfl⟩ := List.mem_map.1 hz'
      have hyl := og.kids_lt hil y hy'
      have := nowF_lt (C := g.copiesL mono) hyl (Nat.le_refl _)
      unfold outside at hzz
      simp only [Function.comp, Int.toNat_natCast, Bool.or_eq_true, decide_eq_true_eq] at hzz
      omega
theorem Graph.fresh_root : (g.freshG mono).root.toNat = nowF g.ns.length (g.copiesL mono) g.root.toNat := by show ((_ : Nat) : Int).toNat = _; simp
/-- what is reached in the copy -/
theorem Graph.fresh_reach (h : g.checkC = 0) (hl : ∀ a ∈ mono, a < g.ns.length) {z : Nat} : Rch (g.freshG mono) (g.freshG mono).root.toNat z ↔ ∃ x, Rch g g.root.toNat x ∧ z = nowF g.ns.length (g.copiesL mono) x := by
  have og := Graph.ok_of h
  rw [Graph.fresh_root]
  constructor
  · intro r
    induction r with
    | refl => exact ⟨_, .refl, rfl⟩
    | step _ hc ih =>
      obtain ⟨x, hx, rfl⟩ := ih
      rw [Graph.now_kids og h hl hx] at hc
      obtain ⟨y, hy, rfl⟩ := List.mem_map.1 hc
      exact ⟨y, hx.step hy, rfl⟩
  · rintro ⟨x, hx, rfl⟩
    induction hx with
    | refl => exact .refl
    | step hb hc ih => exact ih.step (by rw [Graph.now_kids og h hl hb]; exact List.mem_map.2 ⟨_, hc, rfl⟩)
end
end Go.Tre
namespace Go.Tre
theorem sum_const {α : Type} (c : Nat) : ∀ L : List α, (L.map fun _ => c).sum = L.length * c
  | [] => by simp
  | _ :: r => by simp only [List.map_cons, List.sum_cons, List.length_cons, sum_const c r, Nat.add_mul]; omega
theorem left_le (g h : Tre.Graph) : left g h (fun _ => none) ≤ g.weight * h.ns.length := by
  have e : ∀ L : List Nat, (∀ a ∈ L, a < g.ns.length) → ((L.flatMap fun a => (List.range h.ns.length).map fun b => (a, b)).map (wgt g (fun _ => none))).sum = (L.map fun a => h.ns.length * g.deg a).sum := by
    intro L
    induction L with
    | nil => intro _; rfl
    | cons a r ih =>
      intro hl
      rw [List.flatMap_cons, List.map_append, List.sum_append, ih (fun a h => hl a (by simp [h]))]
      simp only [wgt, List.map_map, Function.comp_def, if_true, List.map_cons, List.sum_cons, sum_const, List.length_range]
  unfold left univ
  rw [e _ (fun a h => by simpa using h)]
  have e2 : ((List.range g.ns.length).map fun a => h.ns.length * g.deg a) = g.ns.map fun n => h.ns.length * n.args.length := by
    apply List.ext_getElem
    · simp
    · intro i h1 h2
      have hi : i < g.ns.length := by simpa using h1
      simp [Graph.deg, Graph.nd_eq hi]
  rw [e2]
  unfold Graph.weight
  generalize g.ns = ns
  induction ns with
  | nil => simp
  | cons n r ih =>
    have : n.args.length ≤ n.weight := by unfold Tre.Node.weight; omega
    simp only [List.map_cons, List.sum_cons, Nat.add_mul]
    have h3 : h.ns.length * n.args.length ≤ n.weight * h.ns.length := by rw [Nat.mul_comm n.weight]; exact Nat.mul_le_mul_left _ this
    omega
theorem len_weight (g : Tre.Graph) : g.ns.length ≤ g.weight := length_le_sum _ (fun n => by unfold Tre.Node.weight; omega) g.ns
end Go.Tre
namespace Go.Proofs.YtlkfhbmjemjohaaDoor.gr
open Go.RowKit Go.Maps Go.Tre lex

set_option maxRecDepth 100000 in
set_option maxHeartbeats 4000000 in
theorem same_any (a b : Option Addr) (ca cb : Nat) (g h : Tre.Graph) (w : World) (hg : NodesAt w a g.ns) (hh : NodesAt w b h.ns) (wg : g.weight ≤ 2097152) (wh : h.weight ≤ 2097152) (hm : MaxAt w) :
    Calls Tryd.prog 10 #[.agg #[.slice a g.ns.length ca, .int .i64 g.root], .agg #[.slice b h.ns.length cb, .int .i64 h.root]] w fun e w' => e = .returned (.bool (sameB g h)) ∧ Below w.heap.size w w' := by
  by_cases c0 : g.checkC = 0
  · by_cases c1 : h.checkC = 0
    · refine same_ok a b ca cb g h w hg hh (by omega) (by omega) hm ?_ c0 c1
      have h1 := left_le g h
      have h2 := len_weight h
      have h3 : g.weight * h.ns.length ≤ 2097152 * 2097152 := Nat.mul_le_mul wg (by omega)
      omega
    · have b2 : Below w.heap.size w ((w.alloc (.cells #[.slice a g.ns.length ca, .int .i64 g.root] 24)).alloc (.cells #[.slice b h.ns.length cb, .int .i64 h.root] 24)) := ((Below.refl _ _).alloc (Nat.le_refl _) _).alloc (by simp) _
      have HM := Tre.hid hm
      have HG := Tre.hid hg
      have HH := Tre.hid hh
      have HC0 := Tre.hid c0
      have t1 := not_ok c1
      have HN : Hid (¬ SameG g h) := fun s => c1 s.okh
      clear hg hh hm c0 c1
      go_enter Tryd.func10, Tryd.ntmps10
      go_wp2_with fail
      refine (check_any a ca g _ (HG.out.below b2) (by omega) (HM.out.below b2)).mono ?_
      rintro e w1 ⟨rfl, d1⟩
      rw [HC0.out]
      have h0 : w1.cell? ⟨w.heap.size + 1, 0, none⟩ = some (.slice b h.ns.length cb) := cell_below d1 (cell_of_heap (heap_two _ _ _) rfl)
      have h1 : w1.cell? ⟨w.heap.size + 1, 1, none⟩ = some (.int .i64 h.root) := cell_below d1 (cell_of_heap (heap_two _ _ _) rfl)
      have B1 := after2 d1
      clear d1
      go_wp2_with fail
      refine (check_any b cb h _ (HH.out.below B1) (by omega) (HM.out.below B1)).mono ?_
      rintro e w2 ⟨rfl, d2⟩
      have B2 := after_two B1 d2
      clear d2
      go_wp2_with fail
      go_ret
      exact ⟨ret_bool (sameB_false HN.out).symm, B2⟩
  · have b2 : Below w.heap.size w ((w.alloc (.cells #[.slice a g.ns.length ca, .int .i64 g.root] 24)).alloc (.cells #[.slice b h.ns.length cb, .int .i64 h.root] 24)) := ((Below.refl _ _).alloc (Nat.le_refl _) _).alloc (by simp) _
    have HM := Tre.hid hm
    have HG := Tre.hid hg
    have t1 := not_ok c0
    have HN : Hid (¬ SameG g h) := fun s => c0 s.okg
    clear hg hh hm c0
    go_enter Tryd.func10, Tryd.ntmps10
    go_wp2_with fail
    refine (check_any a ca g _ (HG.out.below b2) (by omega) (HM.out.below b2)).mono ?_
    rintro e w1 ⟨rfl, d1⟩
    have B1 := after2 d1
    clear d1
    go_wp2_with fail
    go_ret
    exact ⟨ret_bool (sameB_false HN.out).symm, B1⟩
end Go.Proofs.YtlkfhbmjemjohaaDoor.gr
