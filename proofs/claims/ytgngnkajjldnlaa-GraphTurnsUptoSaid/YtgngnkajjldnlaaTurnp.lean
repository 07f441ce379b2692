/- GraphTurns: plain. Nodes in another order; a closed node that stands twice. -/
import Derived.Test.YtgngnkajjldnlaaTrimp
import Derived.Test.YtgngnkajjldnlaaFreep
namespace Go.Tre
/-- two graphs are the same when a relation of their nodes says so -/
theorem SameG.of_rel {g h : Tre.Graph} (c0 : g.checkC = 0) (c1 : h.checkC = 0) (R : Nat → Nat → Prop) (hr : R g.root.toNat h.root.toNat)
    (hk : ∀ a b i, R a b → i < g.deg a → i < h.deg b → R (g.kid a i) (h.kid b i)) (ha : ∀ a b, R a b → alikeB (g.nd a) (h.nd b) = true)
    (ho : ∀ a b a' b', R a b → R a' b' → freeB (g.nd a) = true → (a = a' ↔ b = b')) : SameG g h := by
  have all : ∀ a b, RP g h a b → R a b := fun a b r => by
    induction r with
    | root => exact hr
    | kid _ h1 h2 ih => exact hk _ _ _ ih h1 h2
  exact ⟨c0, c1, fun a b r => ha a b (all a b r), fun a b a' b' r r' hf => ho a b a' b' (all _ _ r) (all _ _ r') hf⟩
/-- where a node goes -/
def turnAt (n by_ i : Nat) : Nat := (i + by_) % n
theorem turnAt_lt {n by_ i : Nat} (h : 0 < n) : turnAt n by_ i < n := Nat.mod_lt _ h
theorem turnAt_inj {n by_ i j : Nat} (hi : i < n) (hj : j < n) (h : turnAt n by_ i = turnAt n by_ j) : i = j := by
  unfold turnAt at h
  rw [Nat.add_mod, Nat.add_mod j] at h
  have hb := Nat.mod_lt by_ (show 0 < n by omega)
  rw [Nat.mod_eq_of_lt hi, Nat.mod_eq_of_lt hj] at h
  generalize by_ % n = b at *
  by_cases h1 : i + b < n
  · rw [Nat.mod_eq_of_lt h1] at h
    by_cases h2 : j + b < n
    · rw [Nat.mod_eq_of_lt h2] at h; omega
    · rw [Nat.mod_eq_sub_mod (by omega), Nat.mod_eq_of_lt (by omega)] at h; omega
  · rw [Nat.mod_eq_sub_mod (by omega), Nat.mod_eq_of_lt (by omega)] at h
    by_cases h2 : j + b < n
    · rw [Nat.mod_eq_of_lt h2] at h; omega
    · rw [Nat.mod_eq_sub_mod (by omega), Nat.mod_eq_of_lt (by omega)] at h; omega
theorem turnAt_sur {n by_ j : Nat} (hj : j < n) : ∃ i, i < n ∧ turnAt n by_ i = j := by
  unfold turnAt
  have hb := Nat.mod_lt by_ (show 0 < n by omega)
  by_cases h : by_ % n ≤ j
  · exact ⟨j - by_ % n, by omega, by rw [Nat.add_mod, Nat.mod_eq_of_lt (show j - by_ % n < n by omega), show j - by_ % n + by_ % n = j by omega, Nat.mod_eq_of_lt hj]⟩
  · exact ⟨j + n - by_ % n, by omega, by rw [Nat.add_mod, Nat.mod_eq_of_lt (show j + n - by_ % n < n by omega), show j + n - by_ % n + by_ % n = j + n by omega, Nat.add_mod_right, Nat.mod_eq_of_lt hj]⟩
def turnArg (n by_ : Nat) (a : Int) : Int := ((turnAt n by_ a.toNat : Nat) : Int)
def turnNode (n by_ : Nat) (x : Tre.Node) : Tre.Node := { x with args := x.args.map (turnArg n by_) }
/-- h is g, turned -/
structure Turned (g h : Tre.Graph) (by_ : Nat) : Prop where
  len : h.ns.length = g.ns.length
  root : h.root = ((turnAt g.ns.length by_ g.root.toNat : Nat) : Int)
  nd : ∀ i, i < g.ns.length → h.nd (turnAt g.ns.length by_ i) = turnNode g.ns.length by_ (g.nd i)
/-- a graph may be if its root, its nodes may -/
theorem Graph.check_of {g : Tre.Graph} (h1 : g.ns.length ≤ 1048576) (h2 : 0 ≤ g.root) (h3 : g.root.toNat < g.ns.length) (h4 : ∀ a, a < g.ns.length → mayB (g.nd a) g.ns.length = true) : g.checkC = 0 := by
  unfold Graph.checkC
  rw [if_neg (by omega), if_neg]
  rintro (h | h | h)
  · omega
  · omega
  · obtain ⟨x, hx, e⟩ := List.any_eq_true.1 h
    obtain ⟨i, hi, rfl⟩ := List.getElem_of_mem hx
    have := h4 i hi
    rw [Graph.nd_eq hi] at this
    rw [this] at e
    cases e
/-- what a node's being hangs on -/
theorem mayB_of {x y : Tre.Node} {n m : Nat} (h : mayB x n = true) (h1 : y.kind = x.kind) (h2 : y.name = x.name) (h3 : y.labels = x.labels) (h4 : y.isOpen = x.isOpen) (h5 : y.args.length = x.args.length) (hf : ∀ a ∈ y.args, 0 ≤ a ∧ a < m) : mayB y m = true := by
  unfold mayB at h ⊢
  rw [h1, h2, h3, h4, h5]
  rw [Bool.and_eq_true] at h ⊢
  refine ⟨?_, h.2⟩
  cases hy : y.args.any (outside m)
  · rfl
  · obtain ⟨z, hz, e⟩ := List.any_eq_true.1 hy
    have := hf z hz
    unfold outside at e
    simp only [Bool.or_eq_true, decide_eq_true_eq] at e
    omega
theorem mayB_in {x : Tre.Node} {n : Nat} (h : mayB x n = true) : ∀ a ∈ x.args, 0 ≤ a ∧ a < (n : Int) := by
  intro a ha
  unfold mayB at h
  rw [Bool.and_eq_true] at h
  have h1 : x.args.any (outside n) = false := by simpa using h.1
  cases hy : outside n a
  · unfold outside at hy
    simp only [Bool.or_eq_false_iff, decide_eq_false_iff_not] at hy
    omega
  · rw [List.any_eq_true.2 ⟨a, ha, hy⟩] at h1; cases h1
theorem great_mem {n : Tre.Node} {g : Tre.Graph} (h : n ∈ g.ns) : n.great ≤ g.great := by
  have : ∀ l : List Tre.Node, n ∈ l → n.great ≤ (l.map Tre.Node.great).sum := fun l => by
    induction l with
    | nil => intro h; cases h
    | cons x r ih =>
      intro h
      simp only [List.map_cons, List.sum_cons]
      rcases List.mem_cons.1 h with rfl | h
      · omega
      · have := ih h; omega
  have h1 := this g.ns h
  unfold Graph.great
  omega
section
variable {g h : Tre.Graph} {by_ : Nat}
theorem Turned.check (t : Turned g h by_) (c : g.checkC = 0) : h.checkC = 0 := by
  have og := Graph.ok_of c
  have hp : 0 < g.ns.length := by have := og.root1; omega
  have hl := t.len
  refine Graph.check_of (by have := og.len; omega) (by rw [t.root]; omega) (by rw [t.root, hl]; exact turnAt_lt hp) (fun a ha => ?_)
  obtain ⟨i, hi, rfl⟩ := turnAt_sur (by_ := by_) (show a < g.ns.length by omega)
  rw [t.nd i hi, hl]
  refine mayB_of (og.may i hi) rfl rfl rfl rfl (by simp [turnNode]) (fun a ha => ?_)
  obtain ⟨b, _, rfl⟩ := List.mem_map.1 ha
  have := turnAt_lt (by_ := by_) (i := b.toNat) hp
  unfold turnArg
  omega
theorem Turned.kid (t : Turned g h by_) {a i : Nat} (ha : a < g.ns.length) (hi : i < g.deg a) : h.kid (turnAt g.ns.length by_ a) i = turnAt g.ns.length by_ (g.kid a i) := by
  unfold Graph.kid
  rw [t.nd a ha]
  unfold turnNode
  simp only [List.getD_eq_getElem?_getD, List.getElem?_map]
  rw [List.getElem?_eq_getElem hi]
  show (turnArg _ _ _).toNat = _
  unfold turnArg
  rfl
theorem Turned.deg (t : Turned g h by_) {a : Nat} (ha : a < g.ns.length) : h.deg (turnAt g.ns.length by_ a) = g.deg a := by
  unfold Graph.deg
  rw [t.nd a ha]
  simp [turnNode]
theorem Turned.same (t : Turned g h by_) (c : g.checkC = 0) : SameG g h := by
  have og := Graph.ok_of c
  refine SameG.of_rel c (t.check c) (fun a b => a < g.ns.length ∧ b = turnAt g.ns.length by_ a) ⟨og.root1, by rw [t.root]; rfl⟩ ?_ ?_ ?_
  · rintro a b i ⟨ha, rfl⟩ h1 h2
    exact ⟨og.kid_lt ha h1, t.kid ha h1⟩
  · rintro a b ⟨ha, rfl⟩
    rw [t.nd a ha]
    simp [alikeB, turnNode]
  · rintro a b a' b' ⟨ha, rfl⟩ ⟨ha', rfl⟩ _
    exact ⟨fun e => by rw [e], fun e => turnAt_inj ha ha' e⟩
end
theorem sum_drop_take (l : List Nat) (k : Nat) : (l.drop k).sum + (l.take k).sum = l.sum := by
  have := congrArg List.sum (List.take_append_drop k l)
  rw [List.sum_append] at this
  omega
theorem turnNode_weight (n b : Nat) (x : Tre.Node) : (turnNode n b x).weight = x.weight := by simp [turnNode, Tre.Node.weight]
theorem Turned.weight {g h : Tre.Graph} {b : Nat} (t : Turned g h b) (hp : 0 < g.ns.length) : h.weight = g.weight := by
  have hb := Nat.mod_lt b hp
  have hl := t.len
  have e : h.ns = (g.ns.map (turnNode g.ns.length b)).drop (g.ns.length - b % g.ns.length) ++ (g.ns.map (turnNode g.ns.length b)).take (g.ns.length - b % g.ns.length) := by
    apply List.ext_getElem
    · simp; omega
    · intro j h1 h2
      rw [← Graph.nd_eq h1]
      by_cases hj : b % g.ns.length ≤ j
      · have ht : turnAt g.ns.length b (j - b % g.ns.length) = j := by
          unfold turnAt
          rw [Nat.add_mod, Nat.mod_eq_of_lt (show j - b % g.ns.length < g.ns.length by omega), show j - b % g.ns.length + b % g.ns.length = j by omega, Nat.mod_eq_of_lt (by omega)]
        have := t.nd (j - b % g.ns.length) (by omega)
        rw [ht] at this
        rw [this, List.getElem_append_right (by simp; omega)]
        simp only [List.getElem_take, List.getElem_map, List.length_drop, List.length_map]
        rw [Graph.nd_eq (by omega)]
        congr 2
        omega
      · have ht : turnAt g.ns.length b (j + g.ns.length - b % g.ns.length) = j := by
          unfold turnAt
          rw [Nat.add_mod, Nat.mod_eq_of_lt (show j + g.ns.length - b % g.ns.length < g.ns.length by omega), show j + g.ns.length - b % g.ns.length + b % g.ns.length = j + g.ns.length by omega, Nat.add_mod_right, Nat.mod_eq_of_lt (by omega)]
        have := t.nd (j + g.ns.length - b % g.ns.length) (by omega)
        rw [ht] at this
        rw [this, List.getElem_append_left (by simp; omega)]
        simp only [List.getElem_drop, List.getElem_map]
        rw [Graph.nd_eq (by omega)]
        congr 2
        omega
  unfold Graph.weight
  rw [e, List.map_append, List.sum_append, List.map_drop, List.map_take, sum_drop_take, List.map_map]
  congr 1
  exact List.map_congr_left (fun x _ => turnNode_weight _ _ x)
/-- the first argument put elsewhere -/
def otherFirst (k n : Nat) : List Int → List Int
  | [] => []
  | a :: r => if a = (k : Int) then (n : Int) :: r else a :: r
theorem otherFirst_cons (k n : Nat) (a : Int) (r : List Int) : otherFirst k n (a :: r) = if a = (k : Int) then (n : Int) :: r else a :: r := rfl
theorem otherFirst_len (k n : Nat) (l : List Int) : (otherFirst k n l).length = l.length := by
  cases l with
  | nil => rfl
  | cons a r => rw [otherFirst_cons]; split <;> rfl
theorem otherFirst_get (k n : Nat) (l : List Int) (i : Nat) (a : Int) (h : l[i]? = some a) : (otherFirst k n l)[i]? = some a ∨ (i = 0 ∧ a = (k : Int) ∧ (otherFirst k n l)[i]? = some (n : Int)) := by
  cases l with
  | nil => simp at h
  | cons x r =>
    rw [otherFirst_cons]
    cases i with
    | zero =>
      simp at h; subst h
      by_cases e : x = (k : Int)
      · rw [if_pos e]; exact .inr ⟨rfl, e, rfl⟩
      · rw [if_neg e]; exact .inl rfl
    | succ i =>
      left
      split <;> exact h
def twiceNode (k n : Nat) (x : Tre.Node) : Tre.Node := { x with args := otherFirst k n x.args }
/-- node k stands twice -/
def Graph.twice (h : Tre.Graph) (k : Nat) : Tre.Graph := ⟨(h.ns ++ [h.nd k]).map (twiceNode k h.ns.length), h.root⟩
section
variable {h : Tre.Graph} {k : Nat}
theorem Graph.twice_len : (h.twice k).ns.length = h.ns.length + 1 := by simp [Graph.twice]
theorem Graph.twice_nd {a : Nat} (ha : a < h.ns.length) : (h.twice k).nd a = twiceNode k h.ns.length (h.nd a) := by
  rw [Graph.nd_eq (by rw [Graph.twice_len]; omega), Graph.nd_eq ha]
  unfold Graph.twice
  simp only [List.getElem_map]
  rw [List.getElem_append_left ha]
theorem Graph.twice_last : (h.twice k).nd h.ns.length = twiceNode k h.ns.length (h.nd k) := by
  rw [Graph.nd_eq (by rw [Graph.twice_len]; omega)]
  unfold Graph.twice
  simp only [List.getElem_map]
  rw [List.getElem_append_right (Nat.le_refl _)]
  simp
/-- a node of the doubled one, and the one that it was -/
def twiceR (h : Tre.Graph) (k : Nat) (a b : Nat) : Prop := a < h.ns.length ∧ (b = a ∨ (a = k ∧ b = h.ns.length))
theorem twiceR_nd {a b : Nat} (r : twiceR h k a b) : (h.twice k).nd b = twiceNode k h.ns.length (h.nd a) := by
  obtain ⟨ha, rfl | ⟨rfl, rfl⟩⟩ := r
  · exact Graph.twice_nd ha
  · exact Graph.twice_last
theorem twice_may {x : Tre.Node} {n : Nat} (h : mayB x n = true) : mayB (twiceNode k n x) (n + 1) = true := by
  have hin := mayB_in h
  refine mayB_of h rfl rfl rfl rfl (otherFirst_len ..) (fun z hz => ?_)
  replace hz : z ∈ otherFirst k n x.args := hz
  cases hl : x.args with
  | nil => rw [hl] at hz; simp [otherFirst] at hz
  | cons a r =>
    rw [hl] at hz hin
    rw [otherFirst_cons] at hz
    split at hz
    · rcases List.mem_cons.1 hz with rfl | hz
      · omega
      · have := hin z (by simp [hz]); omega
    · have := hin z hz; omega
theorem Graph.twice_check (hk : k < h.ns.length) (hl : h.ns.length < 1048576) (c : h.checkC = 0) : (h.twice k).checkC = 0 := by
  have og := Graph.ok_of c
  have hr : (h.twice k).root = h.root := rfl
  refine Graph.check_of (by rw [Graph.twice_len]; omega) (by rw [hr]; exact og.root0) (by rw [hr, Graph.twice_len]; have := og.root1; omega) (fun a ha => ?_)
  rw [Graph.twice_len] at ha ⊢
  by_cases e : a < h.ns.length
  · rw [Graph.twice_nd e]
    exact twice_may (og.may a e)
  · obtain rfl : a = h.ns.length := by omega
    rw [Graph.twice_last]
    exact twice_may (og.may k hk)
theorem Graph.twice_same (hk : k < h.ns.length) (hl : h.ns.length < 1048576) (c : h.checkC = 0) (hf : freeB (h.nd k) = false) : SameG h (h.twice k) := by
  have og := Graph.ok_of c
  refine SameG.of_rel c (Graph.twice_check hk hl c) (twiceR h k) ⟨og.root1, .inl rfl⟩ ?_ ?_ ?_
  · intro a b i r h1 h2
    have ha := r.1
    refine ⟨og.kid_lt ha h1, ?_⟩
    have e : (h.twice k).kid b i = ((otherFirst k h.ns.length (h.nd a).args).getD i 0).toNat := by
      unfold Graph.kid; rw [twiceR_nd r]; rfl
    obtain ⟨q, hq, hq2, hq3⟩ := og.arg ha h1
    rw [e, List.getD_eq_getElem?_getD]
    rcases otherFirst_get k h.ns.length (h.nd a).args i q hq with h3 | ⟨rfl, h4, h3⟩
    · left; rw [h3, ← hq2]; rfl
    · right; rw [h3, ← hq2]; exact ⟨by omega, rfl⟩
  · intro a b r
    rw [twiceR_nd r]
    simp [alikeB, twiceNode, otherFirst_len]
  · rintro a b a' b' r r' hfa
    have n1 : a ≠ k := fun e => by rw [e, hf] at hfa; cases hfa
    obtain ⟨ha, h1⟩ := r
    obtain ⟨ha', h2⟩ := r'
    constructor
    · rintro rfl
      rcases h1 with rfl | ⟨e, _⟩
      · rcases h2 with rfl | ⟨e, _⟩
        · rfl
        · exact absurd e n1
      · exact absurd e n1
    · rintro rfl
      rcases h1 with rfl | ⟨e, _⟩
      · rcases h2 with rfl | ⟨_, e⟩
        · rfl
        · omega
      · exact absurd e n1
theorem twiceNode_weight (k n : Nat) (x : Tre.Node) : (twiceNode k n x).weight = x.weight := by simp [twiceNode, Tre.Node.weight, otherFirst_len]
theorem Graph.twice_weight (hk : k < h.ns.length) : (h.twice k).weight ≤ h.weight + h.weight := by
  have e : (h.twice k).weight = h.weight + (h.nd k).weight := by
    unfold Graph.weight Graph.twice
    simp only [List.map_map, List.map_append, List.sum_append, List.map_cons, List.map_nil, List.sum_cons, List.sum_nil]
    have e1 : (h.ns.map (Tre.Node.weight ∘ twiceNode k h.ns.length)) = h.ns.map Tre.Node.weight := List.map_congr_left (fun x _ => twiceNode_weight _ _ x)
    rw [e1]
    simp only [twiceNode_weight]
    omega
  have h1 := node_weight (List.getElem_mem hk)
  rw [e, Graph.nd_eq hk]
  have h2 : h.weight = (h.ns.map Tre.Node.weight).sum := rfl
  omega
end
end Go.Tre
