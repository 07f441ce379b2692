/- What is trimmed is the same type, and trimmed again it is itself: plain. What is marked: what the going keeps; plain. Small words on rows and worlds. append onto a row of the call's own, the source whatever it is (nil, empty or not). Steps through a drawn region, by hand: the slot that an operation writes is typed. -/
import Derived.Test.YtlkfhbmjemjohaaDoorB08
import Derived.Test.YtlkfhbmjemjohaaDoorB07
import Derived.Test.YtlkfhbmjemjohaaDoorB03
import Derived.Maps.AppendAt
import Derived.Deep.RegionHeld3
namespace Go.Tre
theorem sum_mem (f : Nat → Nat) (n : Nat) : ∀ L : List Nat, L.Nodup → (∀ a ∈ L, a < n) → (L.map f).sum = ((List.range n).map fun i => if i ∈ L then f i else 0).sum
  | [], _, _ => by
    have := sum_const (α := Nat) 0 (List.range n)
    simp only [List.map_nil, List.sum_nil, List.not_mem_nil, if_false]
    omega
  | a :: L, hn, hl => by
    have h1 := List.nodup_cons.1 hn
    have ih := sum_mem f n L h1.2 (fun b hb => hl b (by simp [hb]))
    have := sum_upd (fun i => if i ∈ a :: L then f i else 0) (fun i => if i ∈ L then f i else 0) a (List.range n) List.nodup_range (List.mem_range.2 (hl a (by simp))) (fun q hq => by
      have : (q ∈ a :: L) = (q ∈ L) := by simp [hq]
      simp only [this])
    simp only [List.mem_cons, true_or, if_true, if_neg h1.1, Nat.add_zero] at this
    simp only [List.map_cons, List.sum_cons, List.mem_cons]
    omega
theorem sum_le_all (f : Nat → Nat) {n : Nat} {L : List Nat} (hn : L.Nodup) (hl : ∀ a ∈ L, a < n) : (L.map f).sum ≤ ((List.range n).map f).sum := by
  rw [sum_mem f n L hn hl]
  generalize List.range n = R
  induction R with
  | nil => simp
  | cons x R ih =>
    simp only [List.map_cons, List.sum_cons]
    split <;> omega
theorem nodup_len {n : Nat} {L : List Nat} (hn : L.Nodup) (hl : ∀ a ∈ L, a < n) : L.length ≤ n := by
  have h := sum_le_all (fun _ => 1) hn hl
  rw [sum_const, sum_const, List.length_range] at h
  omega
theorem Graph.weight_range (g : Tre.Graph) : g.weight = ((List.range g.ns.length).map fun i => (g.nd i).weight).sum := by
  unfold Graph.weight
  congr 1
  apply List.ext_getElem
  · simp
  · intro i h1 h2
    have hi : i < g.ns.length := by simpa using h1
    simp [Graph.nd_eq hi]
theorem trimNode_weight (L : List Nat) (n : Tre.Node) : (trimNode L n).weight = n.weight := by unfold Node.weight trimNode; simp
theorem Graph.trim_weight (g : Tre.Graph) : g.trim.weight ≤ g.weight := by
  have e : g.trim.weight = (g.reachL.map fun i => (g.nd i).weight).sum := by
    unfold Graph.weight Graph.trim
    simp only [List.map_map]
    congr 1
    apply List.map_congr_left
    intro i _
    exact trimNode_weight _ _
  rw [e, g.weight_range]
  exact sum_le_all _ g.reach_nodup g.reach_lt
theorem trim_len (g : Tre.Graph) : g.trim.ns.length = g.reachL.length := by simp [Graph.trim]
theorem reach_len_le (g : Tre.Graph) : g.reachL.length ≤ g.ns.length := nodup_len g.reach_nodup g.reach_lt
theorem trim_nd {g : Tre.Graph} {a : Nat} (ha : a ∈ g.reachL) : g.trim.nd (g.reachL.idxOf a) = trimNode g.reachL (g.nd a) := by
  have hl := List.idxOf_lt_length_of_mem ha
  rw [Graph.nd_eq (by rw [trim_len]; exact hl)]
  simp only [Graph.trim, List.getElem_map, List.getElem_idxOf]
theorem trim_kids {g : Tre.Graph} {a : Nat} (ha : a ∈ g.reachL) : g.trim.kids (g.reachL.idxOf a) = (g.kids a).map g.reachL.idxOf := by
  unfold Graph.kids
  rw [trim_nd ha]
  simp only [trimNode, List.map_map]
  apply List.map_congr_left
  intro x _
  simp [placeOf]
theorem mem_root {g : Tre.Graph} (h : g.checkC = 0) : g.root.toNat ∈ g.reachL := List.mem_of_getElem? (Graph.reach_head h)
theorem idx_root {g : Tre.Graph} (h : g.checkC = 0) : g.reachL.idxOf g.root.toNat = 0 := by
  have h1 := Graph.reach_head h
  have hl := (List.getElem?_eq_some_iff.1 h1).1
  have := idxOf_nodup g.reach_nodup hl
  rw [List.getElem?_eq_getElem hl] at h1
  rwa [Option.some.inj h1] at this
theorem mayB_trim {g : Tre.Graph} {a : Nat} (ha : a ∈ g.reachL) : mayB (trimNode g.reachL (g.nd a)) g.reachL.length = true := by
  have og := Graph.reach_ok ha
  have h := og.may a (g.reach_lt a ha)
  have hk := g.reach_kids ha
  unfold mayB at *
  simp only [Bool.and_eq_true, Bool.not_eq_true', List.any_eq_false] at *
  refine ⟨fun x hx => ?_, ?_⟩
  · simp only [trimNode, List.mem_map] at hx
    obtain ⟨y, hy, rfl⟩ := hx
    have hm : y.toNat ∈ g.reachL := hk _ (by unfold Graph.kids; exact List.mem_map.2 ⟨y, hy, rfl⟩)
    have := List.idxOf_lt_length_of_mem hm
    unfold outside placeOf
    simp
    omega
  · have := h.2
    simpa [trimNode] using this
theorem trim_ok {g : Tre.Graph} (h : g.checkC = 0) : g.trim.checkC = 0 := by
  have og := Graph.ok_of h
  have hr := mem_root h
  have hl := List.idxOf_lt_length_of_mem hr
  refine check_mk ?_ (Int.le_refl 0) ?_ (fun n hn => ?_)
  · rw [trim_len]; have := reach_len_le g; have := og.len; omega
  · rw [trim_len]; show (0 : Int) < _; omega
  · rw [trim_len]
    simp only [Graph.trim, List.mem_map] at hn
    obtain ⟨a, ha, rfl⟩ := hn
    exact mayB_trim ha
theorem idxOf_inj {L : List Nat} {a b : Nat} (ha : a ∈ L) (hb : b ∈ L) (h : L.idxOf a = L.idxOf b) : a = b := by
  have h1 := List.getElem_idxOf (List.idxOf_lt_length_of_mem ha)
  have h2 := List.getElem_idxOf (List.idxOf_lt_length_of_mem hb)
  rw [← h1, ← h2]
  congr 1
theorem kid_mem {g : Tre.Graph} {a i : Nat} (ha : a ∈ g.reachL) (hi : i < g.deg a) : g.kid a i ∈ g.reachL := by
  refine g.reach_kids ha _ ?_
  unfold Graph.kids Graph.kid
  unfold Graph.deg at hi
  rw [List.getD_eq_getElem?_getD, List.getElem?_eq_getElem hi]
  exact List.mem_map.2 ⟨_, List.getElem_mem hi, rfl⟩
theorem trim_rp {g : Tre.Graph} (h : g.checkC = 0) {a b : Nat} (r : RP g g.trim a b) : a ∈ g.reachL ∧ b = g.reachL.idxOf a := by
  induction r with
  | root => exact ⟨mem_root h, (idx_root h).symm⟩
  | kid _ h1 h2 ih =>
    obtain ⟨ha, rfl⟩ := ih
    refine ⟨kid_mem ha h1, ?_⟩
    unfold Graph.kid
    unfold Graph.deg at h1
    rw [trim_nd ha]
    simp only [trimNode, List.getD_eq_getElem?_getD, List.getElem?_map, List.getElem?_eq_getElem h1, Option.map_some, Option.getD_some]
    simp [placeOf]
theorem trim_same {g : Tre.Graph} (h : g.checkC = 0) : SameG g g.trim := by
  refine ⟨h, trim_ok h, fun a b r => ?_, fun a b a' b' r r' _ => ?_⟩
  · obtain ⟨ha, rfl⟩ := trim_rp h r
    rw [trim_nd ha]
    simp [alikeB, trimNode]
  · obtain ⟨ha, rfl⟩ := trim_rp h r
    obtain ⟨ha', rfl⟩ := trim_rp h r'
    exact ⟨fun e => by rw [e], idxOf_inj ha ha'⟩
theorem mem_map_idx {L out : List Nat} (ho : ∀ a ∈ out, a ∈ L) {a : Nat} (ha : a ∈ L) : L.idxOf a ∈ out.map L.idxOf ↔ a ∈ out := by
  rw [List.mem_map]
  constructor
  · rintro ⟨b, hb, e⟩
    rw [← idxOf_inj (ho b hb) ha e]; exact hb
  · intro h; exact ⟨a, h, rfl⟩
theorem trim_dfs {g : Tre.Graph} : ∀ (k : Nat) (s out : List Nat), g.budget out + s.length ≤ k → (∀ a ∈ s, a ∈ g.reachL) → (∀ a ∈ out, a ∈ g.reachL) →
    g.trim.dfs (s.map g.reachL.idxOf) (out.map g.reachL.idxOf) = (g.dfs s out).map g.reachL.idxOf := by
  intro k
  induction k with
  | zero =>
    intro s out hk _ _
    have : s = [] := List.length_eq_zero_iff.1 (by omega)
    subst this
    rw [List.map_nil, Graph.dfs_nil, Graph.dfs_nil]
  | succ k ih =>
    intro s out hk hs ho
    cases s with
    | nil => rw [List.map_nil, Graph.dfs_nil, Graph.dfs_nil]
    | cons a s =>
      have ha := hs a (by simp)
      rw [List.map_cons]
      by_cases hm : a ∈ out
      · rw [Graph.dfs_skip ((mem_map_idx ho ha).2 hm), Graph.dfs_skip hm]
        exact ih s out (by simp at hk; omega) (fun b hb => hs b (by simp [hb])) ho
      · have hal := g.reach_lt a ha
        have hb := Graph.budget_step hal hm
        rw [Graph.dfs_take (fun e => hm ((mem_map_idx ho ha).1 e)) (by rw [trim_len]; exact List.idxOf_lt_length_of_mem ha), Graph.dfs_take hm hal, trim_kids ha]
        have := ih (g.kids a ++ s) (out ++ [a]) (by simp only [List.length_append, List.length_cons, g.kids_len] at hk ⊢; omega)
          (fun b hb' => by
            rcases List.mem_append.1 hb' with h | h
            · exact g.reach_kids ha b h
            · exact hs b (by simp [h]))
          (fun b hb' => by
            rcases List.mem_append.1 hb' with h | h
            · exact ho b h
            · simp at h; subst h; exact ha)
        rw [List.map_append, List.map_append] at this
        exact this
theorem trim_reach {g : Tre.Graph} (h : g.checkC = 0) : g.trim.reachL = List.range g.reachL.length := by
  have e1 : g.reachL.map g.reachL.idxOf = List.range g.reachL.length := by
    apply List.ext_getElem
    · simp
    · intro i h1 h2
      have hi : i < g.reachL.length := by simpa using h1
      rw [List.getElem_map, List.getElem_range]
      exact idxOf_nodup g.reach_nodup hi
  have e2 : g.reachL = g.dfs [g.root.toNat] [] := by
    show (if g.checkC = 0 then _ else _) = _
    rw [if_pos h]
  have e3 : g.trim.reachL = g.trim.dfs [0] [] := by
    show (if g.trim.checkC = 0 then _ else _) = _
    rw [if_pos (trim_ok h)]; rfl
  have := trim_dfs (g := g) _ [g.root.toNat] [] (Nat.le_refl _) (fun a ha => by simp at ha; rw [ha]; exact mem_root h) (by simp)
  rw [List.map_cons, List.map_nil, idx_root h] at this
  rw [e3, this, ← e2, e1]
theorem range_idx {m a : Nat} (h : a < m) : (List.range m).idxOf a = a := by
  have := idxOf_nodup (L := List.range m) List.nodup_range (k := a) (by simpa using h)
  simpa using this
theorem trim_trim {g : Tre.Graph} (h : g.checkC = 0) : g.trim.trim = g.trim := by
  have og := Graph.ok_of (trim_ok h)
  have hr := trim_reach h
  have hl := trim_len g
  have e : g.trim.trim.ns = g.trim.ns := by
    show g.trim.reachL.map _ = _
    rw [hr]
    apply List.ext_getElem
    · simp [hl]
    · intro i h1 h2
      have hi : i < g.reachL.length := by simpa using h1
      rw [List.getElem_map, List.getElem_range, ← Graph.nd_eq h2]
      have ok := og.kids_eq h2
      generalize hn : g.trim.nd i = n at *
      have ea : n.args.map (placeOf (List.range g.reachL.length)) = n.args := by
        conv => rhs; rw [← List.map_id n.args]
        apply List.map_congr_left
        intro x hx
        rw [ok] at hx
        obtain ⟨y, hy, rfl⟩ := List.mem_map.1 hx
        have hlt := og.kids_lt h2 y hy
        rw [hl] at hlt
        simp [placeOf, range_idx hlt]
      show ({ n with args := n.args.map (placeOf (List.range g.reachL.length)) } : Tre.Node) = n
      rw [ea]
  show (⟨g.trim.trim.ns, 0⟩ : Tre.Graph) = ⟨g.trim.ns, 0⟩
  rw [e]
end Go.Tre
namespace Go.Tre
/-- V: what is marked; s: what waits, the next one last -/
structure MI (g : Tre.Graph) (l V s : List Nat) : Prop where
  from_ : ∀ x, x ∈ V ∨ x ∈ s → ∃ m ∈ l, Rch g m x
  all : ∀ m ∈ l, m ∈ V ∨ m ∈ s
  kids : ∀ v ∈ V, ∀ b ∈ g.kids v, b ∈ V ∨ b ∈ s
  nod : V.Nodup
  vlt : ∀ x ∈ V, x < g.ns.length
  slt : ∀ x ∈ s, x < g.ns.length
  le : g.budget V + s.length ≤ g.budget [] + l.length
section
variable {g : Tre.Graph} {l V s : List Nat} {x : Nat}
theorem MI.start (hl : ∀ m ∈ l, m < g.ns.length) : MI g l [] l :=
  ⟨fun x hx => ⟨x, by simpa using hx, .refl⟩, fun m hm => .inr hm, by simp, by simp, by simp, hl, Nat.le_refl _⟩
theorem MI.skip (h : MI g l V (s ++ [x])) (hx : x ∈ V) : MI g l V s := by
  have pass : ∀ y, y ∈ V ∨ y ∈ s ++ [x] → y ∈ V ∨ y ∈ s := fun y hy => by
    rcases hy with hy | hy
    · exact .inl hy
    · rcases List.mem_append.1 hy with hy | hy
      · exact .inr hy
      · simp at hy; rw [hy]; exact .inl hx
  refine ⟨fun y hy => h.from_ y (hy.imp id (fun e => by simp [e])), fun m hm => pass m (h.all m hm), fun v hv b hb => pass b (h.kids v hv b hb), h.nod, h.vlt, fun y hy => h.slt y (by simp [hy]), ?_⟩
  have := h.le
  simp only [List.length_append, List.length_singleton] at this
  omega
theorem MI.mark (og : g.Ok) (h : MI g l V (s ++ [x])) (hx : x ∉ V) : MI g l (V ++ [x]) (s ++ g.kids x) := by
  have hxl : x < g.ns.length := h.slt x (by simp)
  have pass : ∀ y, y ∈ V ∨ y ∈ s ++ [x] → y ∈ V ++ [x] ∨ y ∈ s ++ g.kids x := fun y hy => by
    rcases hy with hy | hy
    · exact .inl (by simp [hy])
    · rcases List.mem_append.1 hy with hy | hy
      · exact .inr (by simp [hy])
      · exact .inl (by simp at hy; simp [hy])
  refine ⟨fun y hy => ?_, fun m hm => pass m (h.all m hm), fun v hv b hb => ?_, ?_, fun y hy => ?_, fun y hy => ?_, ?_⟩
  · rcases hy with hy | hy
    · rcases List.mem_append.1 hy with hy | hy
      · exact h.from_ y (.inl hy)
      · simp at hy; rw [hy]; exact h.from_ x (.inr (by simp))
    · rcases List.mem_append.1 hy with hy | hy
      · exact h.from_ y (.inr (by simp [hy]))
      · obtain ⟨m, hm, r⟩ := h.from_ x (.inr (by simp))
        exact ⟨m, hm, r.step hy⟩
  · rcases List.mem_append.1 hv with hv | hv
    · exact pass b (h.kids v hv b hb)
    · simp at hv; subst hv; exact .inr (by simp [hb])
  · exact List.nodup_append.2 ⟨h.nod, by simp, fun p hp q hq e => by simp at hq; subst hq; subst e; exact hx hp⟩
  · rcases List.mem_append.1 hy with hy | hy
    · exact h.vlt y hy
    · simp at hy; rw [hy]; exact hxl
  · rcases List.mem_append.1 hy with hy | hy
    · exact h.slt y (by simp [hy])
    · exact og.kids_lt hxl y hy
  · have h1 := Graph.budget_step (g := g) hxl hx
    have h2 := h.le
    simp only [List.length_append, List.length_singleton, g.kids_len] at h2 ⊢
    omega
theorem MI.done (og : g.Ok) (hl : ∀ m ∈ l, m < g.ns.length) (h : MI g l V []) (i : Nat) : i ∈ V ↔ i ∈ g.dfs l [] := by
  rw [Graph.mem_dfs og hl]
  constructor
  · intro hi; exact h.from_ i (.inl hi)
  · rintro ⟨m, hm, r⟩
    induction r with
    | refl => exact (h.all m hm).resolve_right (by simp)
    | step _ hc ih => exact (h.kids _ ih _ hc).resolve_right (by simp)
end
end Go.Tre
namespace Go.Tre
open Go.RowKit
theorem sameB_true {g h : Tre.Graph} (s : SameG g h) : sameB g h = true := by unfold sameB; simp [s]
/-- a row written out -/
theorem row_lit {W : World} {b : Nat} {t : TypeId} {cs : Array Value} (h : W.heap[b]? = some (.cells cs t (0, 0))) (sz n : Nat) (hl : cs.toList.length = n * sz) : Row W sz (some ⟨b, 0, none⟩) n cs.toList :=
  ⟨hl, fun j u hu => ⟨b, 0, rfl, by rw [Nat.zero_add]; simp [World.cell?, h] at hu ⊢; exact hu⟩⟩
theorem row_none (W : World) (sz : Nat) : Row W sz none 0 [] := ⟨by simp, fun j u hu => by simp at hu⟩
theorem lt_len2 {α : Type} {l : List α} {k : Nat} {x : α} (h : l[k]? = some x) : k < l.length := (List.getElem?_eq_some_iff.1 h).1
end Go.Tre
namespace Go.Proofs.YtlkfhbmjemjohaaDoor.gr
open Go.RowKit Go.Shelf Go.Maps Go.Tre lex
theorem heapSize_alloc (w : World) (o : Obj) : (w.alloc o).heap.size = w.heap.size + 1 := by simp
theorem infoN : (Tryd.prog.info? 39).map (fun i => (i.zero, i.size, i.bytes)) = some (some (.agg #[.int .i64 0, .string ByteArray.empty, .slice none 0 0, .slice none 0 0, .bool false]), 5, 80) := by kernel_rfl
theorem _root_.Go.Tre.Mem.push2b {w0 w : World} {rs l : List Res} {a b n : Res} (h : Mem w0 w (a :: b :: n :: manyR l :: rs)) : Mem w0 w (n :: manyR (l ++ [a, b]) :: rs) := by
  have h2 : Mem w0 w (manyR l :: a :: b :: n :: rs) := h.front 3 rfl
  have h3 : Mem w0 w (a :: manyR l :: b :: n :: rs) := h2.front 1 rfl
  have h4 : Mem w0 w (b :: manyR (l ++ [a]) :: n :: rs) := h3.into.front 1 rfl
  have h5 : Mem w0 w (n :: manyR ((l ++ [a]) ++ [b]) :: rs) := h4.into.front 1 rfl
  rw [List.append_assoc] at h5
  exact h5
theorem five {w0 w : World} {rs : List Res} {b : Nat} {t : TypeId} {x0 x1 x2 x3 x4 : Value} (h : Mem w0 w rs) (i : Nat) (hi : rs[i]? = some (cellsR b t #[x0, x1, x2, x3, x4])) :
    w.cell? ⟨b, 0, none⟩ = some x0 ∧ w.cell? ⟨b, 1, none⟩ = some x1 ∧ w.cell? ⟨b, 2, none⟩ = some x2 ∧ w.cell? ⟨b, 3, none⟩ = some x3 ∧ w.cell? ⟨b, 4, none⟩ = some x4 :=
  ⟨h.cell i hi 0 rfl, h.cell i hi 1 rfl, h.cell i hi 2 rfl, h.cell i hi 3 rfl, h.cell i hi 4 rfl⟩
theorem nodesR_len {v : Value} {ds : List NodeV} {n : Nat} (h : ds.length = n) : nodesR v ds = rowR 39 5 v n (ds.flatMap NodeV.cells) := by unfold nodesR; rw [h]
end Go.Proofs.YtlkfhbmjemjohaaDoor.gr
namespace Go.Tre
open Go.RowKit Go.Maps
section
variable {P : Program} (w : World)
theorem run_append_row (t ty e : TypeId) (i : TypeInfo) (z : Value) (size bytes : Nat) (ht : P.underlying t = some (.slice e)) (hi : P.info? e = some i) (hz : i.zero = some z)
    (hsize : i.size = size) (hby : i.bytes = bytes) (hzs : z.cells.size = size) (hsz : 0 < size)
    (v : Value) (n : Nat) (xs : List Value) (hown : w.ownsRow 0 e size v n xs)
    (a : Option Addr) (m c : Nat) (news : List Value) (hr : Row w size a m news) (h1 : ∀ u ∈ news, u.oneCell' = true)
    (h63 : n + m ≤ maxLen) (hbytes : (n + m) * bytes ≤ 140737488355328) :
    ∃ v' w', (Builtin.append_ #[t, t] ty #[v, .slice a m c]).run P w = .ok v' w' ∧ w'.ownsRow 0 e size v' (n + m) (xs ++ news) ∧ w.grownBy w' v.ownBlock ∧ (v'.ownBlock = v.ownBlock ∨ v'.ownBlock = some w.heap.size) := by
  cases a with
  | none =>
    have h0 : news = [] := by
      cases news with
      | nil => rfl
      | cons x r => obtain ⟨_, _, e, _⟩ := hr.at_ 0 x rfl; cases e
    have hm : m = 0 := by
      have := hr.len
      rw [h0, List.length_nil] at this
      rcases Nat.mul_eq_zero.1 this.symm with h | h <;> omega
    subst h0 hm
    refine ⟨v, w, ?_, by simpa using hown, ⟨rfl, rfl, rfl, Nat.le_refl _, fun _ _ _ => rfl⟩, .inl rfl⟩
    rcases hown.2 with ⟨rfl, rfl⟩ | ⟨g, cap, cur, rfl, _, _, hnc, _⟩
    · simp [Builtin.append_, run_underlying ht, sizeOf, typeInfo, hi, Builtin.lenOf, Builtin.firstCells]
    · simp [Builtin.append_, run_underlying ht, sizeOf, typeInfo, hi, Builtin.lenOf, Builtin.firstCells, hnc, storeCells]
  | some ad =>
    obtain ⟨v', w', hrun, h2, h3, _, h5⟩ := run_append_own_at (P := P) w 0 t ty e i z size bytes ht hi hz hsize hby hzs hsz v n xs hown ad m c news hr.len (fun j u hu => by
      obtain ⟨b, off, e', hc⟩ := hr.at_ j u hu
      cases e'
      have : (⟨b, off, none⟩ : Addr).add j = ⟨b, off + j, none⟩ := by unfold Addr.add; by_cases h : j = 0 <;> simp [h]
      rw [this]; exact hc) h1 h63 hbytes (Nat.zero_le _)
    exact ⟨v', w', hrun, h2, h3, h5⟩
theorem wp_append_row {o : Oper} {a : Act} {K : Act → World → Prop} {Q : Exit → Act → World → Prop} (s x : Operand) (t : TypeId)
    (ho : o.op = .call { callee := .builtin .append, args := #[s, x], argTypes := #[t, t] })
    (e : TypeId) (i : TypeInfo) (z : Value) (size bytes : Nat) (ht : P.underlying t = some (.slice e)) (hi : P.info? e = some i) (hz : i.zero = some z)
    (hsize : i.size = size) (hby : i.bytes = bytes) (hzs : z.cells.size = size) (hsz : 0 < size)
    (v : Value) (n : Nat) (xs : List Value) (hs : a.eval s = v) (hown : w.ownsRow 0 e size v n xs)
    (ad : Option Addr) (m c : Nat) (news : List Value) (hx : a.eval x = .slice ad m c) (hr : Row w size ad m news) (h1 : ∀ u ∈ news, u.oneCell' = true)
    (h63 : n + m ≤ maxLen) (hbytes : (n + m) * bytes ≤ 140737488355328)
    (h : ∀ v' w', w'.ownsRow 0 e size v' (n + m) (xs ++ news) → w.grownBy w' v.ownBlock → (v'.ownBlock = v.ownBlock ∨ v'.ownBlock = some w.heap.size) → K (a.put o.dst v') w') : o.wp P a w K Q := by
  obtain ⟨v', w', hr, h2, h3, h4⟩ := run_append_row (P := P) w t o.type e i z size bytes ht hi hz hsize hby hzs hsz v n xs hown ad m c news hr h1 h63 hbytes
  unfold Oper.wp execOp
  simp only [ho, resolve, invoke, builtin, Sem.run_bind, Sem.run_pure, Result.andThen_ok, List.map_toArray, List.map_cons, List.map_nil, hs, hx, hr]
  exact h v' w' h2 h3 h4
theorem wpList_append_row {ops : Array Oper} {rest : List Oper} {o : Oper} {a : Act} {Q : Exit → Act → World → Prop} (hgd : o.guard = none) (s x : Operand) (t : TypeId)
    (ho : o.op = .call { callee := .builtin .append, args := #[s, x], argTypes := #[t, t] })
    (e : TypeId) (i : TypeInfo) (z : Value) (size bytes : Nat) (ht : P.underlying t = some (.slice e)) (hi : P.info? e = some i) (hz : i.zero = some z)
    (hsize : i.size = size) (hby : i.bytes = bytes) (hzs : z.cells.size = size) (hsz : 0 < size)
    (v : Value) (n : Nat) (xs : List Value) (hs : a.eval s = v) (hown : w.ownsRow 0 e size v n xs)
    (ad : Option Addr) (m c : Nat) (news : List Value) (hx : a.eval x = .slice ad m c) (hr : Row w size ad m news) (h1 : ∀ u ∈ news, u.oneCell' = true)
    (h63 : n + m ≤ maxLen) (hbytes : (n + m) * bytes ≤ 140737488355328)
    (h : ∀ v' w', w'.ownsRow 0 e size v' (n + m) (xs ++ news) → w.grownBy w' v.ownBlock → (v'.ownBlock = v.ownBlock ∨ v'.ownBlock = some w.heap.size) → wpList P ops Q rest (a.put o.dst v') w') :
    wpList P ops Q (o :: rest) a w := by
  refine wpList_plain hgd fun K hK => ?_
  exact wp_append_row w s x t ho e i z size bytes ht hi hz hsize hby hzs hsz v n xs hs hown ad m c news hx hr h1 h63 hbytes (fun v' w' h2 h3 h4 => hK _ _ (h v' w' h2 h3 h4))
end
end Go.Tre
namespace Go.Tre
section
variable {P : Program} {ops : Array Oper} {Q : Exit → Act → World → Prop} {md : Region.Mode} {S : World → Prop}
theorem hTake {i : Nat} (d : Option Tmp) {v : Value} {fuel : Nat} {listed : Array Bool} {a : Act} {w : World} (hd : (ops[i]?).map (·.dst) = some d) (hs : Region.noSelect ops = true) (hf : Region.free md ops listed i = true)
    (hr : (Region.ready md ops listed).contains i = true) (hQ : ∀ c a w, Q (.panic c) (a.put d v) w → Q (.panic c) a w) (hw : (ops[i]?).map (fun o => Region.wanted o (yielded ops a.tmps)) = some true)
    (hy : ∀ w, S w → (ops[i]?).map (fun o => (execOp a.eval o).run P w) = some (.ok (.value v) w)) (hS : S w) (h : wpAnyH P md ops Q S fuel (listed.setIfInBounds i true) (a.put d v) w) :
    wpAnyH P md ops Q S (fuel + 1) listed a w := by
  obtain ⟨o, ho, rfl⟩ := Option.map_eq_some_iff.1 hd
  rw [ho, Option.map_some, Option.some.injEq] at hw
  refine wpAnyH_take ho hs hf hr hQ (Or.inl ⟨hw, fun w hSw => ?_⟩) hS h
  have := hy w hSw
  rw [ho, Option.map_some, Option.some.injEq] at this
  exact this
theorem hTakeNo {i : Nat} (d : Option Tmp) {fuel : Nat} {listed : Array Bool} {a : Act} {w : World} (hd : (ops[i]?).map (·.dst) = some d) (hs : Region.noSelect ops = true) (hf : Region.free md ops listed i = true)
    (hr : (Region.ready md ops listed).contains i = true) (hQ : ∀ c a w, Q (.panic c) (a.put d undef) w → Q (.panic c) a w) (hw : (ops[i]?).map (fun o => Region.wanted o (yielded ops a.tmps)) = some false)
    (hS : S w) (h : wpAnyH P md ops Q S fuel (listed.setIfInBounds i true) (a.put d undef) w) : wpAnyH P md ops Q S (fuel + 1) listed a w := by
  obtain ⟨o, ho, rfl⟩ := Option.map_eq_some_iff.1 hd
  rw [ho, Option.map_some, Option.some.injEq] at hw
  exact wpAnyH_take ho hs hf hr hQ (Or.inr ⟨hw, rfl⟩) hS h
theorem hOne (i : Nat) {fuel : Nat} {listed : Array Bool} {a : Act} {w : World} (hr : Region.ready md ops listed = [i])
    (h : ∀ K' : Act → World → Prop, Shut (∀ a w, S w → (S w → wpAnyH P md ops Q S fuel (listed.setIfInBounds i true) a w) → K' a w) →
      match ops[i]? with | some o => if Region.wanted o (yielded ops a.tmps) = true then Oper.wp P o a w K' Q else K' (a.put o.dst undef) w | none => K' a w) : wpAnyH P md ops Q S (fuel + 1) listed a w := by
  refine wpAnyH_ready hr (by simp) ?_
  cases ho : ops[i]? with
  | none =>
    rw [ho] at h
    intro j hj
    rw [List.mem_singleton.1 hj]
    have h' := h (fun a' w' => S w' ∧ wpAnyH P md ops Q S fuel (listed.setIfInBounds i true) a' w') (fun a w hS hW => ⟨hS, hW hS⟩)
    unfold wpOp
    rw [ho]
    exact h'
  | some o =>
    rw [ho] at h
    exact AllReadyH.cons ho h AllReadyH.nil
end
end Go.Tre
