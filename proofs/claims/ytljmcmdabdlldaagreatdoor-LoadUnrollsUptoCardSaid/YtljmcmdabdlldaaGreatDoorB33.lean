/- Layer 7, plain: a loaded graph may be, is of few nodes, all of them are reached; every part of the type has its node. Layer 7, plain: a type is loaded as a graph; what goes round, in a table; no part is open where no node is. load.Load, whatever it comes to. -/
import Derived.Test.YtljmcmdabdlldaaGreatDoorB32
import Derived.Test.YtljmcmdabdlldaaGreatDoorB25
set_option linter.unusedVariables false
namespace Go.Tre
mutual
theorem flat_parent : ∀ (t : Ty) (b i : Nat), 0 < i → i < t.count → ∃ p e, p < i ∧ (flat t b)[p]? = some e ∧ b + i ∈ e.args
 | .mk k s args labels o, b, i, h0, hi => by
  unfold Ty.count at hi
  rcases flats_parent args (b + 1) (i - 1) (by omega) with h | ⟨p, e, hp, he, hm⟩
  ·refine ⟨0, _, h0, by unfold flat; exact rfl, ?_⟩
   rw [show b + i = b + 1 + (i - 1) by omega]; exact h
  ·refine ⟨p + 1, e, by omega, by unfold flat; simpa using he, ?_⟩
   rw [show b + i = b + 1 + (i - 1) by omega]; exact hm
theorem flats_parent : ∀ (l : List Ty) (b i : Nat), i < counts l → b + i ∈ idxs l b ∨ ∃ p e, p < i ∧ (flats l b)[p]? = some e ∧ b + i ∈ e.args
 | [], b, i, h => by unfold counts at h; omega
 | t :: r, b, i, h => by
  unfold counts at h
  by_cases h0 : i = 0
  ·subst h0; left; unfold idxs; simp
  ·by_cases hi : i < t.count
   ·obtain ⟨p, e, hp, he, hm⟩ := flat_parent t b i (by omega) hi
    right
    refine ⟨p, e, hp, ?_, hm⟩
    unfold flats
    rw [List.getElem?_append_left (List.getElem?_eq_some_iff.1 he).1]; exact he
   ·have e1 : b + i = b + t.count + (i - t.count) := by omega
    rcases flats_parent r (b + t.count) (i - t.count) (by omega) with h | ⟨p, e, hp, he, hm⟩
    ·left; unfold idxs; rw [e1]; exact List.mem_cons_of_mem _ h
    ·right
     refine ⟨t.count + p, e, by omega, ?_, by rw [e1]; exact hm⟩
     unfold flats
     rw [List.getElem?_append_right (by rw [flat_len]; omega), flat_len, Nat.add_sub_cancel_left]; exact he
end
section
variable {T : List Ent} {bd : Bd} {a : Nat} {st : LSt}
theorem LInv.val_lt {G : Nat → Prop} (I : LInv T bd st G) {i b : Nat} (h : valAt T bd st i = some b) : b < st.ns.length := by
 unfold valAt at h
 obtain ⟨x, hx, h⟩ := Option.bind_eq_some_iff.1 h
 obtain ⟨e, he, h⟩ := Option.bind_eq_some_iff.1 h
 split at h
 ·exact I.ltV h
 ·exact (I.made _ _ h).1
theorem Done.kids {x b : Nat} (h : Done T bd st x b) : ∃ (e : Ent) (ks : List Nat), T[x]? = some e ∧ st.ns[b]? = some { nodeOf e with args := ks.map fun b : Nat => (b : Int) } ∧ ks.length = e.args.length ∧ ∀ (j y : Nat), e.args[j]? = some y → ∃ c, ks[j]? = some c ∧ valAt T bd st y = some c := by
 obtain ⟨e, ks, h1, h2, h3⟩ := h
 have hl : ks.length = e.args.length := by
  have := congrArg List.length h3
  simpa using this.symm
 refine ⟨e, ks, h1, h2, hl, fun j y hy => ?_⟩
 have := congrArg (fun l => l[j]?) h3
 simp only [List.getElem?_map, hy, zqd] at this
 cases hc : ks[j]? with
 | none => rw [hc] at this; cases this
 | some c => rw [hc, zqd] at this; exact ⟨c, rfl, Option.some.inj this⟩
theorem val_follow {i : Nat} {e : Ent} (he : T[i]? = some e) (h4 : e.kind = 4) {c : Nat} (hc : e.args[0]? = some c) {b : Nat} (hv : valAt T bd st i = some b) : valAt T bd st c = some b := by
 unfold valAt at hv ⊢
 obtain ⟨x, hx, hv⟩ := Option.bind_eq_some_iff.1 hv
 have : follow1 T bd.1 (2 * bd.2 + 2) c = some x := by
  rw [follow1, he, Option.bind_some, if_pos h4, hc, Option.bind_some] at hx
  exact follow_mono (Nat.le_succ _) hx
 rw [this, Option.bind_some]; exact hv
theorem val_self {i : Nat} {e : Ent} (he : T[i]? = some e) (h4 : e.kind ≠ 4) (h1 : e.kind = 1 → bd.1 ⟨e.s.toArray⟩ = none) : valAt T bd st i = if e.kind = 1 then st.vars ⟨e.s.toArray⟩ else st.made i := by
 have : follow1 T bd.1 (2 * bd.2 + 2) i = some i := by
  rw [follow1, he, Option.bind_some, if_neg h4]
  by_cases k : e.kind = 1
  ·rw [if_pos k, h1 k]
  ·rw [if_neg k]
 unfold valAt
 rw [this, Option.bind_some, he, Option.bind_some]
theorem val_bound {i c : Nat} {e : Ent} (he : T[i]? = some e) (h1 : e.kind = 1) (hb : bd.1 ⟨e.s.toArray⟩ = some c) {b : Nat} (hv : valAt T bd st i = some b) : valAt T bd st c = some b := by
 unfold valAt at hv ⊢
 obtain ⟨x, hx, hv⟩ := Option.bind_eq_some_iff.1 hv
 have : follow1 T bd.1 (2 * bd.2 + 2) c = some x := by
  rw [follow1, he, Option.bind_some, if_neg (by omega), if_pos h1, hb] at hx
  exact follow_mono (Nat.le_succ _) hx
 rw [this, Option.bind_some]; exact hv
theorem Loaded.all {t : Ty} (hw : 0 ≤ walkT t) (L : Loaded (flat t 0) bd a st) : ∀ i, i < t.count → ∃ b, valAt (flat t 0) bd st i = some b := by
 intro i
 induction i using Nat.strongRecOn with
 | ind i ih =>
  intro hi
  by_cases h0 : i = 0
  ·subst h0; exact ⟨a, L.root⟩
  ·obtain ⟨p, e, hp, he, hm⟩ := flat_parent t 0 i (by omega) hi
   rw [Nat.zero_add] at hm
   have hpl : p < t.count := by omega
   obtain ⟨b, hb⟩ := ih p hp hpl
   have ho := flat_own t 0 hw e (List.mem_of_getElem? he)
   obtain ⟨j, hj⟩ := List.getElem?_of_mem hm
   by_cases h4 : e.kind = 4
   ·have hl : e.args.length = 1 := by
     unfold Ent.own ownT at ho
     simp [h4] at ho
     exact ho.2.2
    have : j = 0 := by have := (List.getElem?_eq_some_iff.1 hj).1; omega
    subst this
    exact ⟨b, val_follow he h4 hj hb⟩
   ·by_cases h1 : e.kind = 1
    ·have hl : e.args.length = 0 := by
      unfold Ent.own ownT at ho
      simp [h1] at ho
      rw [ho.2.2]; rfl
     have := (List.getElem?_eq_some_iff.1 hj).1
     omega
    ·rw [val_self he h4 (fun h => absurd h h1), if_neg h1] at hb
     obtain ⟨_, _, hd⟩ := L.inv.made p b hb
     rcases hd with hd | hd
     ·exact hd.elim
     ·obtain ⟨e', ks, h1', _, _, h3⟩ := hd.kids
      rw [he] at h1'
      cases h1'
      obtain ⟨c, _, hc⟩ := h3 j i hj
      exact ⟨c, hc⟩
theorem Loaded.rep (L : Loaded T bd a st) : ∃ f : Nat → Nat, ∀ b, b < st.ns.length → ∃ e : Ent, T[f b]? = some e ∧ ((st.made (f b) = some b ∧ e.kind ≠ 1) ∨ (e.kind = 1 ∧ st.vars ⟨e.s.toArray⟩ = some b)) := by
 have h : ∀ b, ∃ x, b < st.ns.length → ∃ e : Ent, T[x]? = some e ∧ ((st.made x = some b ∧ e.kind ≠ 1) ∨ (e.kind = 1 ∧ st.vars ⟨e.s.toArray⟩ = some b)) := fun b => by
  by_cases hb : b < st.ns.length
  ·rcases L.inv.all b hb with ⟨x, hx⟩ | ⟨s, hs⟩
   ·obtain ⟨e, he, h1, _⟩ := (L.inv.made x b hx).2.1
    exact ⟨x, fun _ => ⟨e, he, .inl ⟨hx, h1⟩⟩⟩
   ·obtain ⟨x, e, he, h1, rfl, _⟩ := (L.inv.vars s b hs).2
    exact ⟨x, fun _ => ⟨e, he, .inr ⟨h1, hs⟩⟩⟩
  ·exact ⟨0, fun h => absurd h hb⟩
 exact ⟨fun b => Classical.choose (h b), fun b => Classical.choose_spec (h b)⟩
theorem Loaded.rep_nodup (_L : Loaded T bd a st) {f : Nat → Nat} (hf : ∀ b, b < st.ns.length → ∃ e : Ent, T[f b]? = some e ∧ ((st.made (f b) = some b ∧ e.kind ≠ 1) ∨ (e.kind = 1 ∧ st.vars ⟨e.s.toArray⟩ = some b))) : ((List.range st.ns.length).map f).Nodup ∧ ∀ x ∈ (List.range st.ns.length).map f, x < T.length := by
 refine ⟨?_, fun x hx => ?_⟩
 ·show List.Pairwise _ _
  rw [List.pairwise_map]
  refine List.Pairwise.imp_of_mem ?_ (List.nodup_range (n := st.ns.length))
  intro b c hb hc hne e
  refine hne ?_
  obtain ⟨e1, h1, k1⟩ := hf b (List.mem_range.1 hb)
  obtain ⟨e2, h2, k2⟩ := hf c (List.mem_range.1 hc)
  rw [e, h2] at h1
  cases h1
  rcases k1 with ⟨k1, n1⟩ | ⟨n1, k1⟩ <;> rcases k2 with ⟨k2, n2⟩ | ⟨n2, k2⟩
  ·rw [e, k2] at k1; exact (Option.some.inj k1).symm
  ·exact absurd n2 n1
  ·exact absurd n1 n2
  ·rw [k2] at k1; exact (Option.some.inj k1).symm
 ·obtain ⟨b, hb, rfl⟩ := List.mem_map.1 hx
  obtain ⟨e, he, _⟩ := hf b (List.mem_range.1 hb)
  exact (List.getElem?_eq_some_iff.1 he).1
theorem Loaded.len (L : Loaded T bd a st) : st.ns.length ≤ T.length := by
 obtain ⟨f, hf⟩ := L.rep
 have h := L.rep_nodup hf
 have := nodup_len h.1 h.2
 simpa using this
theorem Loaded.node_kind (L : Loaded T bd a st) {b : Nat} (hb : b < st.ns.length) : (∃ x, st.made x = some b ∧ Done T bd st x b) ∨ (∃ s, st.vars s = some b ∧ st.ns[b]? = some varNode) := by
 rcases L.inv.all b hb with ⟨x, hx⟩ | ⟨s, hs⟩
 ·rcases (L.inv.made x b hx).2.2 with h | h
  ·exact h.elim
  ·exact .inl ⟨x, hx, h⟩
 ·exact .inr ⟨s, hs, (L.inv.vars s b hs).1⟩
def Ent.w (e : Ent) : Nat := 1 + e.s.length + (e.labels.map fun x => x.length + 1).sum + e.args.length
theorem byteStrs_w (l : List (List UInt8)) : ((byteStrs l).map fun s => s.size + 1).sum = (l.map fun x => x.length + 1).sum := by
 unfold byteStrs
 rw [List.map_map]
 rfl
theorem nodeOf_w (e : Ent) (ks : List Int) (h : ks.length = e.args.length) : ({ nodeOf e with args := ks } : Tre.Node).weight ≤ e.w := by
 unfold Node.weight Ent.w nodeOf
 have hz : (⟨e.s.toArray⟩ : ByteArray).size = e.s.length := rfl
 split
 ·simp only [hz, List.map_nil, List.sum_nil]; omega
 ·simp only [byteStrs_w]
  have : ByteArray.empty.size = 0 := rfl
  omega
theorem Loaded.weight (L : Loaded T bd a st) : (Tre.Graph.mk st.ns (a : Int)).weight ≤ (T.map Ent.w).sum := by
 obtain ⟨f, hf⟩ := L.rep
 have h := L.rep_nodup hf
 have h1 := sum_le_all (fun x => ((T[x]?).map Ent.w).getD 0) h.1 h.2
 have e1 : ((List.range T.length).map fun x => ((T[x]?).map Ent.w).getD 0) = T.map Ent.w := by
  apply List.ext_getElem
  ·simp
  ·intro i h1 h2
   have hi : i < T.length := by simpa using h1
   simp [List.getElem?_eq_getElem hi]
 rw [e1] at h1
 refine Nat.le_trans ?_ h1
 rw [Graph.weight_range, List.map_map]
 have : ∀ l : List Nat, (∀ b ∈ l, b < st.ns.length) → (l.map fun b => ((Tre.Graph.mk st.ns (a : Int)).nd b).weight).sum ≤ (l.map ((fun x => ((T[x]?).map Ent.w).getD 0) ∘ f)).sum := by
  intro l
  induction l with
  | nil => intro _; simp
  | cons b l ih =>
   intro hl
   have hb := hl b (by simp)
   have := ih (fun c hc => hl c (by simp [hc]))
   have key : ((Tre.Graph.mk st.ns (a : Int)).nd b).weight ≤ ((T[f b]?).map Ent.w).getD 0 := by
    rw [Graph.nd_eq hb]
    obtain ⟨e, he, k⟩ := hf b hb
    rw [he, zqd, Option.getD_some]
    rcases k with ⟨k, _⟩ | ⟨_, k⟩
    ·rcases (L.inv.made _ _ k).2.2 with d | d
     ·exact d.elim
     ·obtain ⟨e', ks, d1, d2, d3, _⟩ := d.kids
      rw [he] at d1
      cases d1
      have : st.ns[b] = { nodeOf e with args := ks.map fun b : Nat => (b : Int) } := by
       rw [List.getElem?_eq_getElem hb] at d2; exact Option.some.inj d2
      show st.ns[b].weight ≤ _
      rw [this]
      exact nodeOf_w e _ (by rw [List.length_map]; exact d3)
    ·have := (L.inv.vars _ _ k).1
     rw [List.getElem?_eq_getElem hb] at this
     show st.ns[b].weight ≤ _
     rw [Option.some.inj this]
     have : varNode.weight = 1 := rfl
     rw [this]
     unfold Ent.w; omega
   simp only [List.map_cons, List.sum_cons]
   exact Nat.add_le_add key this
 exact this _ (fun b hb => List.mem_range.1 hb)
theorem varNode_may (n : Nat) : mayB varNode n = true := mayB_var n
theorem node_may {e : Ent} {ks : List Nat} {n : Nat} (ho : e.own = true) (h1 : e.kind ≠ 1) (h4 : e.kind ≠ 4) (hl : ks.length = e.args.length) (hr : ∀ b ∈ ks, b < n) : mayB { nodeOf e with args := ks.map fun b : Nat => (b : Int) } n = true := by
 have hout : ((ks.map fun b : Nat => (b : Int)).any (outside n)) = false := by
  rw [List.any_eq_false]
  intro x hx
  obtain ⟨b, hb, rfl⟩ := List.mem_map.1 hx
  have := hr b hb
  unfold outside
  simp
  omega
 unfold Ent.own ownT at ho
 by_cases h3 : e.kind = 3
 ·rw [if_pos h3] at ho
  simp only [Bool.and_eq_true, decide_eq_true_eq] at ho
  have e0 : nodeOf e = ⟨3, ByteArray.empty, [], byteStrs e.labels, e.opn⟩ := by unfold nodeOf; rw [if_neg (by omega)]
  unfold mayB
  simp only [e0]
  rw [hout]
  have e1 : (byteStrs e.labels).length = e.labels.length := by simp [byteStrs]
  simp [e1, hl, ho.2.1, ho.2.2]
 ·rw [if_neg h3] at ho
  split at ho
  ·cases ho
  ·rename_i hlo
   split at ho
   ·rename_i h2
    have e0 : nodeOf e = ⟨2, ⟨e.s.toArray⟩, [], [], false⟩ := by unfold nodeOf; rw [if_pos h2]
    unfold mayB
    simp only [e0]
    rw [hout]
    split at ho
    ·rename_i hs
     simp only [decide_eq_true_eq] at ho
     rcases hs with hs | hs
     ·rw [hs]
      have : arity ⟨[45, 62].toArray⟩ = some 2 := by decide
      simp [this, hl, ho]
     ·rw [hs]
      have : arity ⟨[42].toArray⟩ = some 2 := by decide
      simp [this, hl, ho]
    ·simp only [Bool.and_eq_true, decide_eq_true_eq] at ho
     have hm : e.s ∈ basics := by simpa using ho.2
     have : arity ⟨e.s.toArray⟩ = some 0 := by
      have key : ∀ s ∈ basics, arity ⟨s.toArray⟩ = some 0 := by decide
      exact key _ hm
     simp only [this]
     have hz : ks = [] := List.eq_nil_of_length_eq_zero (by omega)
     simp [hz]
   ·cases ho
theorem Loaded.checkT (ho : ∀ e ∈ T, e.own = true) (hc : T.length ≤ 1048576) (L : Loaded T bd a st) : (Tre.Graph.mk st.ns (a : Int)).checkC = 0 := by
 have hl := L.len
 refine check_mk (by show st.ns.length ≤ _; omega) (by show (0 : Int) ≤ (a : Int); omega) (by have := L.lt; show (a : Int) < (st.ns.length : Int); omega) (fun n hn => ?_)
 obtain ⟨b, hb⟩ := List.getElem?_of_mem hn
 have hbl := (List.getElem?_eq_some_iff.1 hb).1
 rcases L.node_kind hbl with ⟨x, hx, hd⟩ | ⟨s, hs, hv⟩
 ·obtain ⟨e, ks, d1, d2, d3, d4⟩ := hd.kids
  obtain ⟨e', he', h1, h4⟩ := (L.inv.made x b hx).2.1
  rw [d1] at he'
  cases he'
  have : n = { nodeOf e with args := ks.map fun b : Nat => (b : Int) } := by
   rw [show (Tre.Graph.mk st.ns (a : Int)).ns = st.ns from rfl, d2] at hb; exact (Option.some.inj hb).symm
  rw [this]
  refine node_may (ho e (List.mem_of_getElem? d1)) h1 h4 d3 fun c hc => ?_
  obtain ⟨j, hj⟩ := List.getElem?_of_mem hc
  have hjl := (List.getElem?_eq_some_iff.1 hj).1
  obtain ⟨c', h1', h2'⟩ := d4 j _ (List.getElem?_eq_getElem (by omega))
  rw [hj] at h1'
  cases h1'
  exact L.inv.val_lt h2'
 ·have : n = varNode := by
   rw [show (Tre.Graph.mk st.ns (a : Int)).ns = st.ns from rfl, hv] at hb; exact (Option.some.inj hb).symm
  rw [this]; exact varNode_may _
theorem Loaded.check {t : Ty} (hw : 0 ≤ walkT t) (hc : t.count ≤ 1048576) (L : Loaded (flat t 0) bd a st) : (Tre.Graph.mk st.ns (a : Int)).checkC = 0 :=
 L.checkT (flat_own t 0 hw) (by rw [flat_len]; exact hc)
theorem Loaded.reached {t : Ty} (hw : 0 ≤ walkT t) (hc : t.count ≤ 1048576) (L : Loaded (flat t 0) bd a st) : ∀ c, c < st.ns.length → c ∈ (Tre.Graph.mk st.ns (a : Int)).reachL := by
 have ck := L.check hw hc
 intro c hcl
 have key : ∀ p c, Walk st.ns p c → p ∈ (Tre.Graph.mk st.ns (a : Int)).reachL → c ∈ (Tre.Graph.mk st.ns (a : Int)).reachL := by
  intro p c w
  induction w with
  | refl => exact fun h => h
  | @step b c n _ h1 h2 ih =>
   intro hp
   have hb := ih hp
   refine Graph.reach_kids _ hb c ?_
   unfold Graph.kids
   refine List.mem_map.2 ⟨(c : Int), ?_, by simp⟩
   have hbl := (List.getElem?_eq_some_iff.1 h1).1
   rw [Graph.nd_eq hbl]
   show (c : Int) ∈ st.ns[b].args
   rw [List.getElem?_eq_getElem hbl] at h1
   rw [Option.some.inj h1]; exact h2
 refine key a c (L.reach c hcl) ?_
 have := mem_root ck
 simpa using this
end
end Go.Tre
namespace Go.Tre
def LoadsAs (t : Ty) (g : Tre.Graph) : Prop := ∃ (bd : Bd) (a : Nat) (st : LSt), bind1 (flat t 0) (t.count + 1) 0 (fun _ => none, 0) = some bd ∧ (∀ s x, bd.1 s = some x → ∃ r, follow1 (flat t 0) bd.1 (2 * bd.2 + 2) x = some r) ∧ node1 (flat t 0) bd (t.count + 1) 0 ⟨fun _ => none, fun _ => none, []⟩ = some (a, st) ∧ g = ⟨st.ns, (a : Int)⟩
def LoadFails (t : Ty) : Prop := bind1 (flat t 0) (t.count + 1) 0 (fun _ => none, 0) = none ∨ ∃ bd s x, bind1 (flat t 0) (t.count + 1) 0 (fun _ => none, 0) = some bd ∧ bd.1 s = some x ∧ follow1 (flat t 0) bd.1 (2 * bd.2 + 2) x = none
theorem bd_of {t : Ty} {K : Nat} {bd : Bd} (h : bind1 (flat t 0) K 0 (fun _ => none, 0) = some bd) : BdOk (flat t 0) bd.1 ∧ bd.2 = asCount (flat t 0) ∧ ∀ i e, (flat t 0)[i]? = some e → e.kind = 4 → bd.1 ⟨e.s.toArray⟩ = some i := by
 have h0 : BdOk (flat t 0) (fun _ => none) := fun s x hs => by cases hs
 have h1 := bind_as t 0 K _ _ (flat_at t) h h0
 have h2 := bind1_ok K 0 _ _ h h0
 refine ⟨h2.1, by simpa using h1.1, fun i e he h4 => ?_⟩
 have hl := (List.getElem?_eq_some_iff.1 he).1
 rw [flat_len] at hl
 have := h1.2 i e hl (by rw [Nat.zero_add]; exact he) h4
 rw [Nat.zero_add] at this
 exact this
theorem load_or (t : Ty) : LoadFails t ∨ ∃ g, LoadsAs t g := by
 cases hb : bind1 (flat t 0) (t.count + 1) 0 (fun _ => none, 0) with
 | none => exact .inl (.inl hb)
 | some bd =>
  by_cases hf : ∀ s x, bd.1 s = some x → ∃ r, follow1 (flat t 0) bd.1 (2 * bd.2 + 2) x = some r
  ·right
   have k := bd_of hb
   have htot := follow_all k.1 (Nat.le_of_eq k.2.1.symm) k.2.2 hf
   have hu : unmade (flat t 0) ⟨fun _ => none, fun _ => none, []⟩ < t.count + 1 := by
    have : unmade (flat t 0) ⟨fun _ => none, fun _ => none, []⟩ ≤ (List.range (flat t 0).length).length := List.countP_le_length
    rw [List.length_range, flat_len] at this
    omega
   obtain ⟨a, st, h⟩ := node1_total htot (flat_rises t) (t.count + 1) 0 ⟨fun _ => none, fun _ => none, []⟩ (fun _ => False) (fun _ h => h.elim) LInv.start (by rw [flat_len]; exact t.count_pos) hu
   exact ⟨_, bd, a, st, hb, hf, h, rfl⟩
  ·left; right
   have : ∃ s x, bd.1 s = some x ∧ follow1 (flat t 0) bd.1 (2 * bd.2 + 2) x = none := by
    refine Classical.byContradiction fun hn => hf fun s x hs => ?_
    cases hr : follow1 (flat t 0) bd.1 (2 * bd.2 + 2) x with
    | some r => exact ⟨r, rfl⟩
    | none => exact absurd ⟨s, x, hs, hr⟩ hn
   obtain ⟨s, x, h1, h2⟩ := this
   exact ⟨bd, s, x, hb, h1, h2⟩
def shiftE (d : Nat) (e : Ent) : Ent := { e with args := e.args.map (· + d) }
theorem idxs_shift (d : Nat) : ∀ (l : List Ty) (b : Nat), idxs l (b + d) = (idxs l b).map (· + d)
 | [], b => by unfold idxs; rfl
 | t :: r, b => by
  unfold idxs
  rw [List.map_cons, ← idxs_shift d r (b + t.count), Nat.add_right_comm]
mutual
theorem flat_shift (d : Nat) : ∀ (t : Ty) (b : Nat), flat t (b + d) = (flat t b).map (shiftE d)
 | .mk k s args labels o, b => by
  unfold flat
  rw [List.map_cons, ← flats_shift d args (b + 1), Nat.add_right_comm, idxs_shift d args (b + 1)]
  rfl
theorem flats_shift (d : Nat) : ∀ (l : List Ty) (b : Nat), flats l (b + d) = (flats l b).map (shiftE d)
 | [], b => by unfold flats; rfl
 | t :: r, b => by
  unfold flats
  rw [List.map_append, ← flat_shift d t b, ← flats_shift d r (b + t.count), Nat.add_right_comm]
end
theorem flat_from (t : Ty) (d : Nat) : flat t d = (flat t 0).map (shiftE d) := by
 have := flat_shift d t 0
 rwa [Nat.zero_add] at this
def loopS : List UInt8 := [108, 111, 111, 112]
def tyVar (s : List UInt8) : Ty := .mk 1 s [] [] false
def around (t x : Ty) : Ty := .mk 3 [] [t, x] [[109], [110, 101, 120, 116]] false
def rollOne (t : Ty) : Ty := .mk 4 loopS [around t (tyVar loopS)] [] false
def rollTwo (t : Ty) : Ty := .mk 4 loopS [around t (around t (tyVar loopS))] [] false
def nextL : List (List UInt8) := [[109], [110, 101, 120, 116]]
theorem flat_one (t : Ty) : flat (rollOne t) 0 = ⟨4, loopS, [1], [], false⟩ :: ⟨3, [], [2, 2 + t.count], nextL, false⟩ :: (flat t 2 ++ [⟨1, loopS, [], [], false⟩]) := by
 unfold rollOne around tyVar nextL
 simp [flat, flats, idxs]
section
variable {t : Ty}
theorem one_at {j : Nat} {e : Ent} (h : (flat t 0)[j]? = some e) : (flat (rollOne t) 0)[2 + j]? = some (shiftE 2 e) := by
 have hl := (List.getElem?_eq_some_iff.1 h).1
 rw [flat_one, Nat.add_comm 2 j, zqb, zqb, List.getElem?_append_left (by rw [flat_len]; rwa [flat_len] at hl), flat_from t 2, List.getElem?_map, h]; rfl
theorem one_var : (flat (rollOne t) 0)[2 + t.count]? = some ⟨1, loopS, [], [], false⟩ := by
 rw [flat_one, Nat.add_comm 2 t.count, zqb, zqb, List.getElem?_append_right (by rw [flat_len]; omega), flat_len, Nat.sub_self]; rfl
theorem entry (j : Nat) (h : j < t.count) : ∃ e, (flat t 0)[j]? = some e := ⟨_, List.getElem?_eq_getElem (by rw [flat_len]; exact h)⟩
theorem kinds_one {t : Ty} {x : Nat} {e : Ent} (hn : ∀ e ∈ flat t 0, e.kind ≠ 4) (h : (flat (rollOne t) 0)[x]? = some e) (h4 : e.kind = 4) : e.s = loopS := by
 have hm := List.mem_of_getElem? h
 rw [flat_one, flat_from t 2] at hm
 rcases List.mem_cons.1 hm with rfl | hm
 ·rfl
 ·rcases List.mem_cons.1 hm with rfl | hm
  ·cases h4
  ·rcases List.mem_append.1 hm with hm | hm
   ·obtain ⟨e', he', rfl⟩ := List.mem_map.1 hm
    exact absurd h4 (hn e' he')
   ·simp at hm; subst hm; cases h4
theorem arr_inj {a b : List UInt8} (h : (⟨a.toArray⟩ : ByteArray) = ⟨b.toArray⟩) : a = b := by
 have := congrArg (fun x : ByteArray => x.data.toList) h
 simpa using this
theorem nd_at {ns : List Tre.Node} {r : Int} {b : Nat} {n : Tre.Node} (h : ns[b]? = some n) : (Tre.Graph.mk ns r).nd b = n := by
 obtain ⟨hl, rfl⟩ := List.getElem?_eq_some_iff.1 h
 exact Graph.nd_eq hl
theorem Loaded.done {T : List Ent} {bd : Bd} {a x b : Nat} {st : LSt} (L : Loaded T bd a st) (h : st.made x = some b) : Done T bd st x b := by
 rcases (L.inv.made x b h).2.2 with d | d
 ·exact d.elim
 ·exact d
end
theorem shut_parts {t : Ty} {g : Tre.Graph} (hw : 0 ≤ walkT t) (hc : t.count ≤ 1048576) (hL : LoadsAs t g) (ho : ∀ n ∈ g.trim.ns, n.isOpen = false) : ∀ e ∈ flat t 0, e.opn = false := by
 obtain ⟨bd, a, st, hb, hf, hn, rfl⟩ := hL
 have L := loaded_of hn
 intro e he
 have how := flat_own t 0 hw e he
 by_cases h3 : e.kind = 3
 ·obtain ⟨i, hi⟩ := List.getElem?_of_mem he
  have hil := (List.getElem?_eq_some_iff.1 hi).1
  rw [flat_len] at hil
  obtain ⟨b, hbv⟩ := L.all hw i hil
  rw [val_self hi (by omega) (fun h => by omega), if_neg (by omega)] at hbv
  obtain ⟨e', ks, d1, d2, _, _⟩ := (L.done hbv).kids
  rw [hi] at d1
  cases d1
  have hbl := (List.getElem?_eq_some_iff.1 d2).1
  have hr := L.reached hw hc b hbl
  have hm : trimNode (Tre.Graph.mk st.ns (a : Int)).reachL ((Tre.Graph.mk st.ns (a : Int)).nd b) ∈ (Tre.Graph.mk st.ns (a : Int)).trim.ns := List.mem_map.2 ⟨b, hr, rfl⟩
  have := ho _ hm
  rw [nd_at d2] at this
  unfold trimNode nodeOf at this
  rw [if_neg (by omega)] at this
  exact this
 ·unfold Ent.own ownT at how
  rw [if_neg h3] at how
  split at how
  ·cases how
  ·rename_i h
   cases ho : e.opn with
   | false => rfl
   | true => exact absurd (.inr ho) h
end Go.Tre
namespace Go.Tre
mutual
theorem count_weight : ∀ t : Ty, t.count ≤ t.weight
 | .mk k s args labels o => by
  have := counts_weight args
  unfold Ty.count Ty.weight; omega
theorem counts_weight : ∀ l : List Ty, counts l ≤ weights l
 | [] => by unfold counts weights; omega
 | t :: r => by
  have h1 := count_weight t
  have h2 := counts_weight r
  unfold counts weights; omega
end
theorem verdict_ok {d : Int} (h : verdictI d = 0) : 0 ≤ d := by
 unfold verdictI at h
 split at h
 ·cases h
 ·omega
theorem as_args {t : Ty} (hw : 0 ≤ walkT t) : ∀ (i : Nat) (e : Ent), (flat t 0)[i]? = some e → e.kind = 4 → 0 < e.args.length := fun i e he h4 => by
 have ho := flat_own t 0 hw e (List.mem_of_getElem? he)
 unfold Ent.own ownT at ho
 simp [h4] at ho
 rw [ho.2.2]; decide
def TabFails (T : List Ent) (K : Nat) : Prop := bind1 T K 0 (fun _ => none, 0) = none ∨ ∃ (bd : Bd) (s : ByteArray) (x : Nat), bind1 T K 0 (fun _ => none, 0) = some bd ∧ BdOk T bd.1 ∧ bd.2 ≤ 4194304 ∧ bd.1 s = some x ∧ follow1 T bd.1 (2 * bd.2 + 2) x = none
end Go.Tre
namespace Go.Proofs.YtljmcmdabdlldaaGreatDoor.load
open Go.RowKit Go.Maps Go.Shelf Go.Tre lex gr tree
set_option maxRecDepth 100000 in
set_option maxHeartbeats 16000000 in
theorem Load_no (t : Ty) (aa al : Option Addr) (ca cl : Nat) (w : World) (hT : TyRd w t (.agg #[.int .i64 t.kind, .string ⟨t.s.toArray⟩, .slice aa t.args.length ca, .slice al t.labels.length cl, .bool t.opn])) (hv : verdictI (walkT t) ≠ 0) (hw : t.weight ≤ 4194304) (hm : MaxAt w) :
  Calls Tryz.prog 10 #[.agg #[.int .i64 t.kind, .string ⟨t.s.toArray⟩, .slice aa t.args.length ca, .slice al t.labels.length cl, .bool t.opn]] w fun e w' =>
   e = .returned (.tuple #[.agg #[.slice none 0 0, .int .i64 0], .int .i64 (verdictI (walkT t))]) ∧ Below w.heap.size w w' := by
 have M0 := ((Mem.nil w).allocR #[.int .i64 t.kind, .string ⟨t.s.toArray⟩, .slice aa t.args.length ca, .slice al t.labels.length cl, .bool t.opn] 28).allocR #[.slice none 0 0, .int .i64 0] 33
 rw [World.size_alloc] at M0
 have HC := Tre.hid (check_rd t _ _ hw (hT.after M0.below) (hm.below M0.below))
 have HM0 := Tre.hid M0
 have y0 := M0.cell 1 rfl 0 rfl
 have y1 := M0.cell 1 rfl 1 rfl
 have y2 := M0.cell 1 rfl 2 rfl
 have y3 := M0.cell 1 rfl 3 rfl
 have y4 := M0.cell 1 rfl 4 rfl
 generalize verdictI (walkT t) = vd at *
 clear hT hw hm M0
 go_enter Tryz.func10, Tryz.ntmps10
 go_wp2_with fail
 refine HC.out.mono ?_
 rintro e w1 ⟨rfl, b1⟩
 have M1 := HM0.out.quiet b1
 have g0 := M1.cell 0 rfl 0 rfl
 have g1 := M1.cell 0 rfl 1 rfl
 have f0 := M1.free 0 rfl 0
 have f1 := M1.free 0 rfl 1
 have HM9 := Tre.hid ((M1.setCell 0 rfl 0 (.slice none 0 0)).setCell 0 rfl 1 (.int .i64 0))
 clear M1 b1 HM0 HC y0 y1 y2 y3 y4
 go_wp2_with fail
 generalize (w1.setCell ⟨w.heap.size + 1, 0, none⟩ (.slice none 0 0)).setCell ⟨w.heap.size + 1, 1, none⟩ (.int .i64 0) = wz at HM9 ⊢
 have z0 : wz.cell? ⟨w.heap.size + 1, 0, none⟩ = some (.slice none 0 0) := HM9.out.cell 0 rfl 0 rfl
 have z1 : wz.cell? ⟨w.heap.size + 1, 1, none⟩ = some (.int .i64 0) := HM9.out.cell 0 rfl 1 rfl
 refine bodyPost_ret (v := .tuple #[.agg #[.slice none 0 0, .int .i64 0], .int .i64 vd]) (by simp [results, Tryz.results10, go_sem, z0, z1]) rfl ?_
 exact ⟨rfl, HM9.out.below⟩
set_option maxRecDepth 100000 in
set_option maxHeartbeats 16000000 in
theorem Load_tab (t : Ty) (aa al : Option Addr) (ca cl : Nat) (w : World) (hT : TyRd w t (.agg #[.int .i64 t.kind, .string ⟨t.s.toArray⟩, .slice aa t.args.length ca, .slice al t.labels.length cl, .bool t.opn])) (hv : verdictI (walkT t) = 0) (hw : t.weight ≤ 4194304) (hm : MaxAt w)
  (T : List Ent) (K : Nat) (hS : SmallT T) (hR : Rises T) (hA : ∀ (i : Nat) (e : Ent), T[i]? = some e → e.kind = 4 → 0 < e.args.length) (hpos : 0 < T.length) (hfu : T.length ≤ K) (ad : Nat → Addr) (hE : EntsAt (w.alloc (.cells #[.int .i64 t.kind, .string ⟨t.s.toArray⟩, .slice aa t.args.length ca, .slice al t.labels.length cl, .bool t.opn] 28)) T ad) (h0 : ad 0 = ⟨w.heap.size, 0, none⟩) (hF : TabFails T K) :
  Calls Tryz.prog 10 #[.agg #[.int .i64 t.kind, .string ⟨t.s.toArray⟩, .slice aa t.args.length ca, .slice al t.labels.length cl, .bool t.opn]] w fun e w' =>
   e = .returned (.tuple #[.agg #[.slice none 0 0, .int .i64 0], .int .i64 6]) ∧ Below w.heap.size w w' := by
 have M0 := ((Mem.nil w).allocR #[.int .i64 t.kind, .string ⟨t.s.toArray⟩, .slice aa t.args.length ca, .slice al t.labels.length cl, .bool t.opn] 28).allocR #[.slice none 0 0, .int .i64 0] 33
 rw [World.size_alloc] at M0
 have hB0 : Below (w.alloc (.cells #[.int .i64 t.kind, .string ⟨t.s.toArray⟩, .slice aa t.args.length ca, .slice al t.labels.length cl, .bool t.opn] 28)).heap.size _ ((w.alloc (.cells #[.int .i64 t.kind, .string ⟨t.s.toArray⟩, .slice aa t.args.length ca, .slice al t.labels.length cl, .bool t.opn] 28)).alloc (.cells #[.slice none 0 0, .int .i64 0] 33)) := (Below.refl _ _).alloc (Nat.le_refl _) _
 have HC := Tre.hid (check_rd t _ _ hw (hT.after M0.below) (hm.below M0.below))
 rw [hv] at HC
 have HE := Tre.hid (hE.below hB0)
 have HM0 := Tre.hid M0
 have y0 := M0.cell 1 rfl 0 rfl
 have y1 := M0.cell 1 rfl 1 rfl
 have y2 := M0.cell 1 rfl 2 rfl
 have y3 := M0.cell 1 rfl 3 rfl
 have y4 := M0.cell 1 rfl 4 rfl
 have HWS := Tre.hid hS
 have HWR := Tre.hid hR
 have HWA := Tre.hid hA
 have H0 := Tre.hid h0
 have HFA := Tre.hid hF
 clear hT hw hm hv M0 hB0 hE h0 hF hS hR hA
 go_enter Tryz.func10, Tryz.ntmps10
 go_wp2_with fail
 refine HC.out.mono ?_
 rintro e w1 ⟨rfl, b1⟩
 have HM1 := Tre.hid (HM0.out.quiet b1)
 have HE1 := Tre.hid (HE.out.below b1)
 clear HC HM0 HE y0 y1 y2 y3 y4 b1
 rcases HFA.out with hbn | ⟨bd, sb, xb, hbn, kb, hn, hs, hf⟩
 ·have hst := start_twice T ad HWS.out HWR.out hpos K hfu w1 HE1.out hbn
  rw [H0.out] at hst
  have HST := Tre.hid hst
  clear hst hbn HFA hpos hfu HE1 H0
  go_wp2_with fail
  refine HST.out.mono ?_
  rintro e w2 ⟨v, rfl, q, r, c, p, rfl, m2⟩
  have q0 := m2.cell 0 rfl 0 rfl
  have r0 := m2.cellAt 1 rfl 0 rfl
  have r1 := m2.cellAt 1 rfl 1 rfl
  have HM2 := Tre.hid (HM1.out.call m2)
  have H1 := Tre.hid (errs.is_two_end q r c p w2 q0 r0 r1)
  have H2 := Tre.hid (errs.is_two_two q r c p w2 q0 r0 r1)
  clear HST m2 q0 r0 r1 HM1
  go_wp2_with fail
  refine H1.out.mono ?_
  rintro e w3 ⟨rfl, rfl⟩
  go_wp2_with fail
  refine H2.out.mono ?_
  rintro e w4 ⟨rfl, rfl⟩
  have g0 := HM2.out.cell 2 rfl 0 rfl
  have g1 := HM2.out.cell 2 rfl 1 rfl
  have f0 := HM2.out.free 2 rfl 0
  have f1 := HM2.out.free 2 rfl 1
  have HM9 := Tre.hid ((HM2.out.setCell 2 rfl 0 (.slice none 0 0)).setCell 2 rfl 1 (.int .i64 0))
  clear HM2 H1 H2
  go_wp2_with fail
  generalize (w4.setCell ⟨w.heap.size + 1, 0, none⟩ (.slice none 0 0)).setCell ⟨w.heap.size + 1, 1, none⟩ (.int .i64 0) = wz at HM9 ⊢
  have z0 : wz.cell? ⟨w.heap.size + 1, 0, none⟩ = some (.slice none 0 0) := HM9.out.cell 2 rfl 0 rfl
  have z1 : wz.cell? ⟨w.heap.size + 1, 1, none⟩ = some (.int .i64 0) := HM9.out.cell 2 rfl 1 rfl
  refine bodyPost_ret (v := .tuple #[.agg #[.slice none 0 0, .int .i64 0], .int .i64 6]) (by simp [results, Tryz.results10, go_sem, z0, z1]) rfl ?_
  exact ⟨rfl, HM9.out.below⟩
 ·have hst := start_end T ad HWS.out HWR.out HWA.out hpos K hfu bd.1 bd.2 hn w1 HE1.out hbn kb sb xb hs hf
  rw [H0.out] at hst
  have HST := Tre.hid hst
  clear hst hbn HFA hpos hfu HE1 H0 kb hn hs hf
  go_wp2_with fail
  refine HST.out.mono ?_
  rintro e w2 ⟨v, rfl, q, r, c, p, rfl, m2⟩
  have q0 := m2.cell 0 rfl 0 rfl
  have r0 := m2.cellAt 1 rfl 0 rfl
  have r1 := m2.cellAt 1 rfl 1 rfl
  have HM2 := Tre.hid (HM1.out.call m2)
  have H1 := Tre.hid (errs.is_end_end q r c p w2 q0 r0 r1)
  clear HST m2 q0 r0 r1 HM1
  go_wp2_with fail
  refine H1.out.mono ?_
  rintro e w3 ⟨rfl, rfl⟩
  have g0 := HM2.out.cell 2 rfl 0 rfl
  have g1 := HM2.out.cell 2 rfl 1 rfl
  have f0 := HM2.out.free 2 rfl 0
  have f1 := HM2.out.free 2 rfl 1
  have HM9 := Tre.hid ((HM2.out.setCell 2 rfl 0 (.slice none 0 0)).setCell 2 rfl 1 (.int .i64 0))
  clear HM2 H1
  go_wp2_with fail
  generalize (w3.setCell ⟨w.heap.size + 1, 0, none⟩ (.slice none 0 0)).setCell ⟨w.heap.size + 1, 1, none⟩ (.int .i64 0) = wz at HM9 ⊢
  have z0 : wz.cell? ⟨w.heap.size + 1, 0, none⟩ = some (.slice none 0 0) := HM9.out.cell 2 rfl 0 rfl
  have z1 : wz.cell? ⟨w.heap.size + 1, 1, none⟩ = some (.int .i64 0) := HM9.out.cell 2 rfl 1 rfl
  refine bodyPost_ret (v := .tuple #[.agg #[.slice none 0 0, .int .i64 0], .int .i64 6]) (by simp [results, Tryz.results10, go_sem, z0, z1]) rfl ?_
  exact ⟨rfl, HM9.out.below⟩
theorem fails_tab {t : Ty} (hw : t.weight ≤ 4194304) (h : LoadFails t) : TabFails (flat t 0) (t.count + 1) := by
 rcases h with h | ⟨bd, s, x, h, hs, hx⟩
 ·exact .inl h
 ·have kb := bd_of h
  refine .inr ⟨bd, s, x, h, kb.1, ?_, hs, hx⟩
  have h1 : asCount (flat t 0) ≤ (flat t 0).length := List.countP_le_length
  rw [flat_len] at h1
  have := kb.2.1
  have := count_weight t
  omega
theorem Load_bad (t : Ty) (aa al : Option Addr) (ca cl : Nat) (w : World) (hT : TyRd w t (.agg #[.int .i64 t.kind, .string ⟨t.s.toArray⟩, .slice aa t.args.length ca, .slice al t.labels.length cl, .bool t.opn])) (hv : verdictI (walkT t) = 0) (hw : t.weight ≤ 4194304) (hm : MaxAt w)
  (ad : Nat → Addr) (hE : EntsAt (w.alloc (.cells #[.int .i64 t.kind, .string ⟨t.s.toArray⟩, .slice aa t.args.length ca, .slice al t.labels.length cl, .bool t.opn] 28)) (flat t 0) ad) (h0 : ad 0 = ⟨w.heap.size, 0, none⟩) (hF : LoadFails t) :
  Calls Tryz.prog 10 #[.agg #[.int .i64 t.kind, .string ⟨t.s.toArray⟩, .slice aa t.args.length ca, .slice al t.labels.length cl, .bool t.opn]] w fun e w' =>
   e = .returned (.tuple #[.agg #[.slice none 0 0, .int .i64 0], .int .i64 6]) ∧ Below w.heap.size w w' :=
 Load_tab t aa al ca cl w hT hv hw hm (flat t 0) (t.count + 1) (flat_smallT hw) (flat_rises t) (as_args (verdict_ok hv)) (by rw [flat_len]; exact t.count_pos) (by rw [flat_len]; omega) ad hE h0 (fails_tab hw hF)
inductive LoadPost (t : Ty) (w : World) (e : Ending) (w' : World) : Prop where
 | no (h : verdictI (walkT t) ≠ 0) (he : e = .returned (.tuple #[.agg #[.slice none 0 0, .int .i64 0], .int .i64 (verdictI (walkT t))])) (hb : Below w.heap.size w w')
 | bad (h : verdictI (walkT t) = 0) (hf : LoadFails t) (he : e = .returned (.tuple #[.agg #[.slice none 0 0, .int .i64 0], .int .i64 6])) (hb : Below w.heap.size w w')
 | ok (h : verdictI (walkT t) = 0) (g : Tre.Graph) (hg : LoadsAs t g) (v : Value) (ds : List NodeV) (he : e = .returned (.tuple #[.agg #[v, .int .i64 0], .int .i64 0])) (hd : ds.map NodeV.n = g.trim.ns) (hm : Mem w w' [nodesR v ds, kidsR ds])
theorem Load_any (t : Ty) (O : Nat → Prop) (v : Value) (w : World) (hT : TyIn w O t v) (hO : ∀ b, O b → b < w.heap.size) (hw : t.weight ≤ 1000000) (hm : MaxAt w) : Calls Tryz.prog 10 #[v] w (LoadPost t w) := by
 obtain ⟨aa, ca, al, cl, rfl, _, _⟩ := hT.agg
 by_cases hv : verdictI (walkT t) = 0
 ·have M := (Mem.nil w).allocR #[.int .i64 t.kind, .string ⟨t.s.toArray⟩, .slice aa t.args.length ca, .slice al t.labels.length cl, .bool t.opn] 28
  obtain ⟨ad, hE, h0⟩ : ∃ ad : Nat → Addr, EntsAt (w.alloc (.cells #[.int .i64 t.kind, .string ⟨t.s.toArray⟩, .slice aa t.args.length ca, .slice al t.labels.length cl, .bool t.opn] 28)) (flat t 0) ad ∧ ad 0 = ⟨w.heap.size, 0, none⟩ := by
   refine ents_of (hT.under hO M.below) (fun j u hu => by rw [Nat.zero_add]; exact M.cell 0 rfl j hu) ⟨_, _, M.heap 0 rfl⟩ (fun h => ?_)
   exact Nat.lt_irrefl _ (hO _ h)
  rcases load_or t with hf | ⟨g, bd, a, st, hb, hfo, hn, rfl⟩
  ·exact (Load_bad t aa al ca cl w hT.rd hv (by omega) hm ad hE h0 hf).mono fun e w' h => .bad hv hf h.1 h.2
  ·have kb := bd_of hb
   have L := loaded_of hn
   have hl := L.len
   have hcw := count_weight t
   have hgw := L.weight
   have hfw := flat_weight t 0
   rw [flat_len] at hl
   have hn2 : bd.2 ≤ 4194304 := by
    have h1 : asCount (flat t 0) ≤ (flat t 0).length := List.countP_le_length
    rw [flat_len] at h1
    have := kb.2.1
    omega
   have hw2 : (Tre.Graph.mk st.ns (a : Int)).weight ≤ 2097152 := by
    refine Nat.le_trans hgw ?_
    have : (flat t 0).map Ent.w = (flat t 0).map fun e => 1 + e.s.length + (e.labels.map fun x => x.length + 1).sum + e.args.length := rfl
    rw [this]
    omega
   refine (Load_ok t aa al ca cl w hT.rd hv (by omega) hm (flat t 0) ad (flat_smallT (by omega)) hE h0 (t.count + 1) bd.1 bd.2 hn2 hb hfo a st hn (by omega) hw2).mono ?_
   rintro e w' ⟨v, ds, rfl, hd, hm⟩
   exact .ok hv _ ⟨bd, a, st, hb, hfo, hn, rfl⟩ v ds rfl hd hm
 ·exact (Load_no t aa al ca cl w hT.rd hv (by omega) hm).mono fun e w' h => .no hv h.1 h.2
end Go.Proofs.YtljmcmdabdlldaaGreatDoor.load
