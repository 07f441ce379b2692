/- Layer 7, plain: a loaded graph may be, is of few nodes, all of them are reached; every part of the type has its node. LoadUnrolls, plain: what goes round, written once more within itself, is the same type. -/
import Derived.Test.YtljmcmdabdlldaaGreatDoorB31
set_option linter.unusedVariables false
namespace Go.Tre
mutual
theorem flat_parent : ∀ (t : Ty) (b i : Nat), 0 < i → i < t.count → ∃ p e, p < i ∧ (flat t b)[p]? = some e ∧ b + i ∈ e.args
 | .mk k s args labels o, b, i, h0, hi => by
  unfold Ty.count at hi
  rcases flats_parent args (b + 1) (i - 1) (by omega) with h | ⟨p, e, hp, he, hm⟩
  ·refine ⟨0, _, h0, by unfold flat; exact rfl, ?_⟩
   rw [show b + i = b + 1 + (i - 1) by omega]; exact h
  ·refine ⟨p + 1, e, by omega, by unfold flat; simpa using he, ?_⟩
   rw [show b + i = b + 1 + (i - 1) by omega]; exact hm
theorem flats_parent : ∀ (l : List Ty) (b i : Nat), i < counts l → b + i ∈ idxs l b ∨ ∃ p e, p < i ∧ (flats l b)[p]? = some e ∧ b + i ∈ e.args
 | [], b, i, h => by unfold counts at h; omega
 | t :: r, b, i, h => by
  unfold counts at h
  by_cases h0 : i = 0
  ·subst h0; left; unfold idxs; simp
  ·by_cases hi : i < t.count
   ·obtain ⟨p, e, hp, he, hm⟩ := flat_parent t b i (by omega) hi
    right
    refine ⟨p, e, hp, ?_, hm⟩
    unfold flats
    rw [List.getElem?_append_left (List.getElem?_eq_some_iff.1 he).1]; exact he
   ·have e1 : b + i = b + t.count + (i - t.count) := by omega
    rcases flats_parent r (b + t.count) (i - t.count) (by omega) with h | ⟨p, e, hp, he, hm⟩
    ·left; unfold idxs; rw [e1]; exact List.mem_cons_of_mem _ h
    ·right
     refine ⟨t.count + p, e, by omega, ?_, by rw [e1]; exact hm⟩
     unfold flats
     rw [List.getElem?_append_right (by rw [flat_len]; omega), flat_len, Nat.add_sub_cancel_left]; exact he
end
section
variable {T : List Ent} {bd : Bd} {a : Nat} {st : LSt}
theorem LInv.val_lt {G : Nat → Prop} (I : LInv T bd st G) {i b : Nat} (h : valAt T bd st i = some b) : b < st.ns.length := by
 unfold valAt at h
 obtain ⟨x, hx, h⟩ := Option.bind_eq_some_iff.1 h
 obtain ⟨e, he, h⟩ := Option.bind_eq_some_iff.1 h
 split at h
 ·exact I.ltV h
 ·exact (I.made _ _ h).1
theorem Done.kids {x b : Nat} (h : Done T bd st x b) : ∃ (e : Ent) (ks : List Nat), T[x]? = some e ∧ st.ns[b]? = some { nodeOf e with args := ks.map fun b : Nat => (b : Int) } ∧ ks.length = e.args.length ∧ ∀ (j y : Nat), e.args[j]? = some y → ∃ c, ks[j]? = some c ∧ valAt T bd st y = some c := by
 obtain ⟨e, ks, h1, h2, h3⟩ := h
 have hl : ks.length = e.args.length := by
  have := congrArg List.length h3
  simpa using this.symm
 refine ⟨e, ks, h1, h2, hl, fun j y hy => ?_⟩
 have := congrArg (fun l => l[j]?) h3
 simp only [List.getElem?_map, hy, zqd] at this
 cases hc : ks[j]? with
 | none => rw [hc] at this; cases this
 | some c => rw [hc, zqd] at this; exact ⟨c, rfl, Option.some.inj this⟩
theorem val_follow {i : Nat} {e : Ent} (he : T[i]? = some e) (h4 : e.kind = 4) {c : Nat} (hc : e.args[0]? = some c) {b : Nat} (hv : valAt T bd st i = some b) : valAt T bd st c = some b := by
 unfold valAt at hv ⊢
 obtain ⟨x, hx, hv⟩ := Option.bind_eq_some_iff.1 hv
 have : follow1 T bd.1 (2 * bd.2 + 2) c = some x := by
  rw [follow1, he, Option.bind_some, if_pos h4, hc, Option.bind_some] at hx
  exact follow_mono (Nat.le_succ _) hx
 rw [this, Option.bind_some]; exact hv
theorem val_self {i : Nat} {e : Ent} (he : T[i]? = some e) (h4 : e.kind ≠ 4) (h1 : e.kind = 1 → bd.1 ⟨e.s.toArray⟩ = none) : valAt T bd st i = if e.kind = 1 then st.vars ⟨e.s.toArray⟩ else st.made i := by
 have : follow1 T bd.1 (2 * bd.2 + 2) i = some i := by
  rw [follow1, he, Option.bind_some, if_neg h4]
  by_cases k : e.kind = 1
  ·rw [if_pos k, h1 k]
  ·rw [if_neg k]
 unfold valAt
 rw [this, Option.bind_some, he, Option.bind_some]
theorem val_bound {i c : Nat} {e : Ent} (he : T[i]? = some e) (h1 : e.kind = 1) (hb : bd.1 ⟨e.s.toArray⟩ = some c) {b : Nat} (hv : valAt T bd st i = some b) : valAt T bd st c = some b := by
 unfold valAt at hv ⊢
 obtain ⟨x, hx, hv⟩ := Option.bind_eq_some_iff.1 hv
 have : follow1 T bd.1 (2 * bd.2 + 2) c = some x := by
  rw [follow1, he, Option.bind_some, if_neg (by omega), if_pos h1, hb] at hx
  exact follow_mono (Nat.le_succ _) hx
 rw [this, Option.bind_some]; exact hv
theorem Loaded.all {t : Ty} (hw : 0 ≤ walkT t) (L : Loaded (flat t 0) bd a st) : ∀ i, i < t.count → ∃ b, valAt (flat t 0) bd st i = some b := by
 intro i
 induction i using Nat.strongRecOn with
 | ind i ih =>
  intro hi
  by_cases h0 : i = 0
  ·subst h0; exact ⟨a, L.root⟩
  ·obtain ⟨p, e, hp, he, hm⟩ := flat_parent t 0 i (by omega) hi
   rw [Nat.zero_add] at hm
   have hpl : p < t.count := by omega
   obtain ⟨b, hb⟩ := ih p hp hpl
   have ho := flat_own t 0 hw e (List.mem_of_getElem? he)
   obtain ⟨j, hj⟩ := List.getElem?_of_mem hm
   by_cases h4 : e.kind = 4
   ·have hl : e.args.length = 1 := by
     unfold Ent.own ownT at ho
     simp [h4] at ho
     exact ho.2.2
    have : j = 0 := by have := (List.getElem?_eq_some_iff.1 hj).1; omega
    subst this
    exact ⟨b, val_follow he h4 hj hb⟩
   ·by_cases h1 : e.kind = 1
    ·have hl : e.args.length = 0 := by
      unfold Ent.own ownT at ho
      simp [h1] at ho
      rw [ho.2.2]; rfl
     have := (List.getElem?_eq_some_iff.1 hj).1
     omega
    ·rw [val_self he h4 (fun h => absurd h h1), if_neg h1] at hb
     obtain ⟨_, _, hd⟩ := L.inv.made p b hb
     rcases hd with hd | hd
     ·exact hd.elim
     ·obtain ⟨e', ks, h1', _, _, h3⟩ := hd.kids
      rw [he] at h1'
      cases h1'
      obtain ⟨c, _, hc⟩ := h3 j i hj
      exact ⟨c, hc⟩
theorem Loaded.rep (L : Loaded T bd a st) : ∃ f : Nat → Nat, ∀ b, b < st.ns.length → ∃ e : Ent, T[f b]? = some e ∧ ((st.made (f b) = some b ∧ e.kind ≠ 1) ∨ (e.kind = 1 ∧ st.vars ⟨e.s.toArray⟩ = some b)) := by
 have h : ∀ b, ∃ x, b < st.ns.length → ∃ e : Ent, T[x]? = some e ∧ ((st.made x = some b ∧ e.kind ≠ 1) ∨ (e.kind = 1 ∧ st.vars ⟨e.s.toArray⟩ = some b)) := fun b => by
  by_cases hb : b < st.ns.length
  ·rcases L.inv.all b hb with ⟨x, hx⟩ | ⟨s, hs⟩
   ·obtain ⟨e, he, h1, _⟩ := (L.inv.made x b hx).2.1
    exact ⟨x, fun _ => ⟨e, he, .inl ⟨hx, h1⟩⟩⟩
   ·obtain ⟨x, e, he, h1, rfl, _⟩ := (L.inv.vars s b hs).2
    exact ⟨x, fun _ => ⟨e, he, .inr ⟨h1, hs⟩⟩⟩
  ·exact ⟨0, fun h => absurd h hb⟩
 exact ⟨fun b => Classical.choose (h b), fun b => Classical.choose_spec (h b)⟩
theorem Loaded.rep_nodup (_L : Loaded T bd a st) {f : Nat → Nat} (hf : ∀ b, b < st.ns.length → ∃ e : Ent, T[f b]? = some e ∧ ((st.made (f b) = some b ∧ e.kind ≠ 1) ∨ (e.kind = 1 ∧ st.vars ⟨e.s.toArray⟩ = some b))) : ((List.range st.ns.length).map f).Nodup ∧ ∀ x ∈ (List.range st.ns.length).map f, x < T.length := by
 refine ⟨?_, fun x hx => ?_⟩
 ·show List.Pairwise _ _
  rw [List.pairwise_map]
  refine List.Pairwise.imp_of_mem ?_ (List.nodup_range (n := st.ns.length))
  intro b c hb hc hne e
  refine hne ?_
  obtain ⟨e1, h1, k1⟩ := hf b (List.mem_range.1 hb)
  obtain ⟨e2, h2, k2⟩ := hf c (List.mem_range.1 hc)
  rw [e, h2] at h1
  cases h1
  rcases k1 with ⟨k1, n1⟩ | ⟨n1, k1⟩ <;> rcases k2 with ⟨k2, n2⟩ | ⟨n2, k2⟩
  ·rw [e, k2] at k1; exact (Option.some.inj k1).symm
  ·exact absurd n2 n1
  ·exact absurd n1 n2
  ·rw [k2] at k1; exact (Option.some.inj k1).symm
 ·obtain ⟨b, hb, rfl⟩ := List.mem_map.1 hx
  obtain ⟨e, he, _⟩ := hf b (List.mem_range.1 hb)
  exact (List.getElem?_eq_some_iff.1 he).1
theorem Loaded.len (L : Loaded T bd a st) : st.ns.length ≤ T.length := by
 obtain ⟨f, hf⟩ := L.rep
 have h := L.rep_nodup hf
 have := nodup_len h.1 h.2
 simpa using this
theorem Loaded.node_kind (L : Loaded T bd a st) {b : Nat} (hb : b < st.ns.length) : (∃ x, st.made x = some b ∧ Done T bd st x b) ∨ (∃ s, st.vars s = some b ∧ st.ns[b]? = some varNode) := by
 rcases L.inv.all b hb with ⟨x, hx⟩ | ⟨s, hs⟩
 ·rcases (L.inv.made x b hx).2.2 with h | h
  ·exact h.elim
  ·exact .inl ⟨x, hx, h⟩
 ·exact .inr ⟨s, hs, (L.inv.vars s b hs).1⟩
def Ent.w (e : Ent) : Nat := 1 + e.s.length + (e.labels.map fun x => x.length + 1).sum + e.args.length
theorem byteStrs_w (l : List (List UInt8)) : ((byteStrs l).map fun s => s.size + 1).sum = (l.map fun x => x.length + 1).sum := by
 unfold byteStrs
 rw [List.map_map]
 rfl
theorem nodeOf_w (e : Ent) (ks : List Int) (h : ks.length = e.args.length) : ({ nodeOf e with args := ks } : Tre.Node).weight ≤ e.w := by
 unfold Node.weight Ent.w nodeOf
 have hz : (⟨e.s.toArray⟩ : ByteArray).size = e.s.length := rfl
 split
 ·simp only [hz, List.map_nil, List.sum_nil]; omega
 ·simp only [byteStrs_w]
  have : ByteArray.empty.size = 0 := rfl
  omega
theorem Loaded.weight (L : Loaded T bd a st) : (Tre.Graph.mk st.ns (a : Int)).weight ≤ (T.map Ent.w).sum := by
 obtain ⟨f, hf⟩ := L.rep
 have h := L.rep_nodup hf
 have h1 := sum_le_all (fun x => ((T[x]?).map Ent.w).getD 0) h.1 h.2
 have e1 : ((List.range T.length).map fun x => ((T[x]?).map Ent.w).getD 0) = T.map Ent.w := by
  apply List.ext_getElem
  ·simp
  ·intro i h1 h2
   have hi : i < T.length := by simpa using h1
   simp [List.getElem?_eq_getElem hi]
 rw [e1] at h1
 refine Nat.le_trans ?_ h1
 rw [Graph.weight_range, List.map_map]
 have : ∀ l : List Nat, (∀ b ∈ l, b < st.ns.length) → (l.map fun b => ((Tre.Graph.mk st.ns (a : Int)).nd b).weight).sum ≤ (l.map ((fun x => ((T[x]?).map Ent.w).getD 0) ∘ f)).sum := by
  intro l
  induction l with
  | nil => intro _; simp
  | cons b l ih =>
   intro hl
   have hb := hl b (by simp)
   have := ih (fun c hc => hl c (by simp [hc]))
   have key : ((Tre.Graph.mk st.ns (a : Int)).nd b).weight ≤ ((T[f b]?).map Ent.w).getD 0 := by
    rw [Graph.nd_eq hb]
    obtain ⟨e, he, k⟩ := hf b hb
    rw [he, zqd, Option.getD_some]
    rcases k with ⟨k, _⟩ | ⟨_, k⟩
    ·rcases (L.inv.made _ _ k).2.2 with d | d
     ·exact d.elim
     ·obtain ⟨e', ks, d1, d2, d3, _⟩ := d.kids
      rw [he] at d1
      cases d1
      have : st.ns[b] = { nodeOf e with args := ks.map fun b : Nat => (b : Int) } := by
       rw [List.getElem?_eq_getElem hb] at d2; exact Option.some.inj d2
      show st.ns[b].weight ≤ _
      rw [this]
      exact nodeOf_w e _ (by rw [List.length_map]; exact d3)
    ·have := (L.inv.vars _ _ k).1
     rw [List.getElem?_eq_getElem hb] at this
     show st.ns[b].weight ≤ _
     rw [Option.some.inj this]
     have : varNode.weight = 1 := rfl
     rw [this]
     unfold Ent.w; omega
   simp only [List.map_cons, List.sum_cons]
   exact Nat.add_le_add key this
 exact this _ (fun b hb => List.mem_range.1 hb)
theorem varNode_may (n : Nat) : mayB varNode n = true := mayB_var n
theorem node_may {e : Ent} {ks : List Nat} {n : Nat} (ho : e.own = true) (h1 : e.kind ≠ 1) (h4 : e.kind ≠ 4) (hl : ks.length = e.args.length) (hr : ∀ b ∈ ks, b < n) : mayB { nodeOf e with args := ks.map fun b : Nat => (b : Int) } n = true := by
 have hout : ((ks.map fun b : Nat => (b : Int)).any (outside n)) = false := by
  rw [List.any_eq_false]
  intro x hx
  obtain ⟨b, hb, rfl⟩ := List.mem_map.1 hx
  have := hr b hb
  unfold outside
  simp
  omega
 unfold Ent.own ownT at ho
 by_cases h3 : e.kind = 3
 ·rw [if_pos h3] at ho
  simp only [Bool.and_eq_true, decide_eq_true_eq] at ho
  have e0 : nodeOf e = ⟨3, ByteArray.empty, [], byteStrs e.labels, e.opn⟩ := by unfold nodeOf; rw [if_neg (by omega)]
  unfold mayB
  simp only [e0]
  rw [hout]
  have e1 : (byteStrs e.labels).length = e.labels.length := by simp [byteStrs]
  simp [e1, hl, ho.2.1, ho.2.2]
 ·rw [if_neg h3] at ho
  split at ho
  ·cases ho
  ·rename_i hlo
   split at ho
   ·rename_i h2
    have e0 : nodeOf e = ⟨2, ⟨e.s.toArray⟩, [], [], false⟩ := by unfold nodeOf; rw [if_pos h2]
    unfold mayB
    simp only [e0]
    rw [hout]
    split at ho
    ·rename_i hs
     simp only [decide_eq_true_eq] at ho
     rcases hs with hs | hs
     ·rw [hs]
      have : arity ⟨[45, 62].toArray⟩ = some 2 := by decide
      simp [this, hl, ho]
     ·rw [hs]
      have : arity ⟨[42].toArray⟩ = some 2 := by decide
      simp [this, hl, ho]
    ·simp only [Bool.and_eq_true, decide_eq_true_eq] at ho
     have hm : e.s ∈ basics := by simpa using ho.2
     have : arity ⟨e.s.toArray⟩ = some 0 := by
      have key : ∀ s ∈ basics, arity ⟨s.toArray⟩ = some 0 := by decide
      exact key _ hm
     simp only [this]
     have hz : ks = [] := List.eq_nil_of_length_eq_zero (by omega)
     simp [hz]
   ·cases ho
theorem Loaded.check {t : Ty} (hw : 0 ≤ walkT t) (hc : t.count ≤ 1048576) (L : Loaded (flat t 0) bd a st) : (Tre.Graph.mk st.ns (a : Int)).checkC = 0 := by
 have hl := L.len
 rw [flat_len] at hl
 refine check_mk (by show st.ns.length ≤ _; omega) (by show (0 : Int) ≤ (a : Int); omega) (by have := L.lt; show (a : Int) < (st.ns.length : Int); omega) (fun n hn => ?_)
 obtain ⟨b, hb⟩ := List.getElem?_of_mem hn
 have hbl := (List.getElem?_eq_some_iff.1 hb).1
 rcases L.node_kind hbl with ⟨x, hx, hd⟩ | ⟨s, hs, hv⟩
 ·obtain ⟨e, ks, d1, d2, d3, d4⟩ := hd.kids
  obtain ⟨e', he', h1, h4⟩ := (L.inv.made x b hx).2.1
  rw [d1] at he'
  cases he'
  have : n = { nodeOf e with args := ks.map fun b : Nat => (b : Int) } := by
   rw [show (Tre.Graph.mk st.ns (a : Int)).ns = st.ns from rfl, d2] at hb; exact (Option.some.inj hb).symm
  rw [this]
  refine node_may (flat_own t 0 hw e (List.mem_of_getElem? d1)) h1 h4 d3 fun c hc => ?_
  obtain ⟨j, hj⟩ := List.getElem?_of_mem hc
  have hjl := (List.getElem?_eq_some_iff.1 hj).1
  obtain ⟨c', h1', h2'⟩ := d4 j _ (List.getElem?_eq_getElem (by omega))
  rw [hj] at h1'
  cases h1'
  exact L.inv.val_lt h2'
 ·have : n = varNode := by
   rw [show (Tre.Graph.mk st.ns (a : Int)).ns = st.ns from rfl, hv] at hb; exact (Option.some.inj hb).symm
  rw [this]; exact varNode_may _
theorem Loaded.reached {t : Ty} (hw : 0 ≤ walkT t) (hc : t.count ≤ 1048576) (L : Loaded (flat t 0) bd a st) : ∀ c, c < st.ns.length → c ∈ (Tre.Graph.mk st.ns (a : Int)).reachL := by
 have ck := L.check hw hc
 intro c hcl
 have key : ∀ p c, Walk st.ns p c → p ∈ (Tre.Graph.mk st.ns (a : Int)).reachL → c ∈ (Tre.Graph.mk st.ns (a : Int)).reachL := by
  intro p c w
  induction w with
  | refl => exact fun h => h
  | @step b c n _ h1 h2 ih =>
   intro hp
   have hb := ih hp
   refine Graph.reach_kids _ hb c ?_
   unfold Graph.kids
   refine List.mem_map.2 ⟨(c : Int), ?_, by simp⟩
   have hbl := (List.getElem?_eq_some_iff.1 h1).1
   rw [Graph.nd_eq hbl]
   show (c : Int) ∈ st.ns[b].args
   rw [List.getElem?_eq_getElem hbl] at h1
   rw [Option.some.inj h1]; exact h2
 refine key a c (L.reach c hcl) ?_
 have := mem_root ck
 simpa using this
end
end Go.Tre
namespace Go.Tre
def LoadsAs (t : Ty) (g : Tre.Graph) : Prop := ∃ (bd : Bd) (a : Nat) (st : LSt), bind1 (flat t 0) (t.count + 1) 0 (fun _ => none, 0) = some bd ∧ (∀ s x, bd.1 s = some x → ∃ r, follow1 (flat t 0) bd.1 (2 * bd.2 + 2) x = some r) ∧ node1 (flat t 0) bd (t.count + 1) 0 ⟨fun _ => none, fun _ => none, []⟩ = some (a, st) ∧ g = ⟨st.ns, (a : Int)⟩
def LoadFails (t : Ty) : Prop := bind1 (flat t 0) (t.count + 1) 0 (fun _ => none, 0) = none ∨ ∃ bd s x, bind1 (flat t 0) (t.count + 1) 0 (fun _ => none, 0) = some bd ∧ bd.1 s = some x ∧ follow1 (flat t 0) bd.1 (2 * bd.2 + 2) x = none
theorem bd_of {t : Ty} {K : Nat} {bd : Bd} (h : bind1 (flat t 0) K 0 (fun _ => none, 0) = some bd) : BdOk (flat t 0) bd.1 ∧ bd.2 = asCount (flat t 0) ∧ ∀ i e, (flat t 0)[i]? = some e → e.kind = 4 → bd.1 ⟨e.s.toArray⟩ = some i := by
 have h0 : BdOk (flat t 0) (fun _ => none) := fun s x hs => by cases hs
 have h1 := bind_as t 0 K _ _ (flat_at t) h h0
 have h2 := bind1_ok K 0 _ _ h h0
 refine ⟨h2.1, by simpa using h1.1, fun i e he h4 => ?_⟩
 have hl := (List.getElem?_eq_some_iff.1 he).1
 rw [flat_len] at hl
 have := h1.2 i e hl (by rw [Nat.zero_add]; exact he) h4
 rw [Nat.zero_add] at this
 exact this
theorem load_or (t : Ty) : LoadFails t ∨ ∃ g, LoadsAs t g := by
 cases hb : bind1 (flat t 0) (t.count + 1) 0 (fun _ => none, 0) with
 | none => exact .inl (.inl hb)
 | some bd =>
  by_cases hf : ∀ s x, bd.1 s = some x → ∃ r, follow1 (flat t 0) bd.1 (2 * bd.2 + 2) x = some r
  ·right
   have k := bd_of hb
   have htot := follow_all k.1 (Nat.le_of_eq k.2.1.symm) k.2.2 hf
   have hu : unmade (flat t 0) ⟨fun _ => none, fun _ => none, []⟩ < t.count + 1 := by
    have : unmade (flat t 0) ⟨fun _ => none, fun _ => none, []⟩ ≤ (List.range (flat t 0).length).length := List.countP_le_length
    rw [List.length_range, flat_len] at this
    omega
   obtain ⟨a, st, h⟩ := node1_total htot (flat_rises t) (t.count + 1) 0 ⟨fun _ => none, fun _ => none, []⟩ (fun _ => False) (fun _ h => h.elim) LInv.start (by rw [flat_len]; exact t.count_pos) hu
   exact ⟨_, bd, a, st, hb, hf, h, rfl⟩
  ·left; right
   have : ∃ s x, bd.1 s = some x ∧ follow1 (flat t 0) bd.1 (2 * bd.2 + 2) x = none := by
    refine Classical.byContradiction fun hn => hf fun s x hs => ?_
    cases hr : follow1 (flat t 0) bd.1 (2 * bd.2 + 2) x with
    | some r => exact ⟨r, rfl⟩
    | none => exact absurd ⟨s, x, hs, hr⟩ hn
   obtain ⟨s, x, h1, h2⟩ := this
   exact ⟨bd, s, x, hb, h1, h2⟩
def shiftE (d : Nat) (e : Ent) : Ent := { e with args := e.args.map (· + d) }
theorem idxs_shift (d : Nat) : ∀ (l : List Ty) (b : Nat), idxs l (b + d) = (idxs l b).map (· + d)
 | [], b => by unfold idxs; rfl
 | t :: r, b => by
  unfold idxs
  rw [List.map_cons, ← idxs_shift d r (b + t.count), Nat.add_right_comm]
mutual
theorem flat_shift (d : Nat) : ∀ (t : Ty) (b : Nat), flat t (b + d) = (flat t b).map (shiftE d)
 | .mk k s args labels o, b => by
  unfold flat
  rw [List.map_cons, ← flats_shift d args (b + 1), Nat.add_right_comm, idxs_shift d args (b + 1)]
  rfl
theorem flats_shift (d : Nat) : ∀ (l : List Ty) (b : Nat), flats l (b + d) = (flats l b).map (shiftE d)
 | [], b => by unfold flats; rfl
 | t :: r, b => by
  unfold flats
  rw [List.map_append, ← flat_shift d t b, ← flats_shift d r (b + t.count), Nat.add_right_comm]
end
theorem flat_from (t : Ty) (d : Nat) : flat t d = (flat t 0).map (shiftE d) := by
 have := flat_shift d t 0
 rwa [Nat.zero_add] at this
def loopS : List UInt8 := [108, 111, 111, 112]
def tyVar (s : List UInt8) : Ty := .mk 1 s [] [] false
def around (t x : Ty) : Ty := .mk 3 [] [t, x] [[109], [110, 101, 120, 116]] false
def rollOne (t : Ty) : Ty := .mk 4 loopS [around t (tyVar loopS)] [] false
def rollTwo (t : Ty) : Ty := .mk 4 loopS [around t (around t (tyVar loopS))] [] false
def nextL : List (List UInt8) := [[109], [110, 101, 120, 116]]
theorem flat_one (t : Ty) : flat (rollOne t) 0 = ⟨4, loopS, [1], [], false⟩ :: ⟨3, [], [2, 2 + t.count], nextL, false⟩ :: (flat t 2 ++ [⟨1, loopS, [], [], false⟩]) := by
 unfold rollOne around tyVar nextL
 simp [flat, flats, idxs]
theorem flat_two (t : Ty) : flat (rollTwo t) 0 = ⟨4, loopS, [1], [], false⟩ :: ⟨3, [], [2, 2 + t.count], nextL, false⟩ :: (flat t 2 ++ (⟨3, [], [3 + t.count, 3 + t.count + t.count], nextL, false⟩ :: (flat t (3 + t.count) ++ [⟨1, loopS, [], [], false⟩]))) := by
 unfold rollTwo around tyVar nextL
 simp [flat, flats, idxs, Nat.add_comm, Nat.add_left_comm]
 exact ⟨⟨by omega, by omega⟩, by rw [show 1 + (2 + t.count) = 3 + t.count by omega]⟩
section
variable {t : Ty}
theorem one_at {j : Nat} {e : Ent} (h : (flat t 0)[j]? = some e) : (flat (rollOne t) 0)[2 + j]? = some (shiftE 2 e) := by
 have hl := (List.getElem?_eq_some_iff.1 h).1
 rw [flat_one, Nat.add_comm 2 j, zqb, zqb, List.getElem?_append_left (by rw [flat_len]; rwa [flat_len] at hl), flat_from t 2, List.getElem?_map, h]; rfl
theorem one_var : (flat (rollOne t) 0)[2 + t.count]? = some ⟨1, loopS, [], [], false⟩ := by
 rw [flat_one, Nat.add_comm 2 t.count, zqb, zqb, List.getElem?_append_right (by rw [flat_len]; omega), flat_len, Nat.sub_self]; rfl
theorem two_at {j : Nat} {e : Ent} (h : (flat t 0)[j]? = some e) : (flat (rollTwo t) 0)[2 + j]? = some (shiftE 2 e) := by
 have hl := (List.getElem?_eq_some_iff.1 h).1
 rw [flat_two, Nat.add_comm 2 j, zqb, zqb, List.getElem?_append_left (by rw [flat_len]; rwa [flat_len] at hl), flat_from t 2, List.getElem?_map, h]; rfl
theorem two_obj : (flat (rollTwo t) 0)[2 + t.count]? = some ⟨3, [], [3 + t.count, 3 + t.count + t.count], nextL, false⟩ := by
 rw [flat_two, Nat.add_comm 2 t.count, zqb, zqb, List.getElem?_append_right (by rw [flat_len]; omega), flat_len, Nat.sub_self]; rfl
theorem two_at2 {j : Nat} {e : Ent} (h : (flat t 0)[j]? = some e) : (flat (rollTwo t) 0)[3 + t.count + j]? = some (shiftE (3 + t.count) e) := by
 have hl := (List.getElem?_eq_some_iff.1 h).1
 rw [flat_len] at hl
 rw [flat_two, show 3 + t.count + j = (t.count + (j + 1)) + 1 + 1 by omega, zqb, zqb, List.getElem?_append_right (by rw [flat_len]; omega), flat_len, Nat.add_sub_cancel_left, zqb, List.getElem?_append_left (by rw [flat_len]; omega), flat_from t (3 + t.count), List.getElem?_map, h]; rfl
theorem two_var : (flat (rollTwo t) 0)[3 + t.count + t.count]? = some ⟨1, loopS, [], [], false⟩ := by
 rw [flat_two, show 3 + t.count + t.count = (t.count + (t.count + 1)) + 1 + 1 by omega, zqb, zqb, List.getElem?_append_right (by rw [flat_len]; omega), flat_len, Nat.add_sub_cancel_left, zqb, List.getElem?_append_right (by rw [flat_len]; omega), flat_len, Nat.sub_self]; rfl
theorem entry (j : Nat) (h : j < t.count) : ∃ e, (flat t 0)[j]? = some e := ⟨_, List.getElem?_eq_getElem (by rw [flat_len]; exact h)⟩
def Twin (c x y : Nat) : Prop := (x = 1 ∧ (y = 1 ∨ y = 2 + c)) ∨ ∃ j, j < c ∧ x = 2 + j ∧ (y = 2 + j ∨ y = 3 + c + j)
structure Rolls (t : Ty) (b1 b2 : Bd) (a1 a2 : Nat) (s1 s2 : LSt) : Prop where
 one : Loaded (flat (rollOne t) 0) b1 a1 s1
 two : Loaded (flat (rollTwo t) 0) b2 a2 s2
 bd1 : BdOk (flat (rollOne t) 0) b1.1 ∧ b1.1 ⟨loopS.toArray⟩ = some 0
 bd2 : BdOk (flat (rollTwo t) 0) b2.1 ∧ b2.1 ⟨loopS.toArray⟩ = some 0
 noAs : ∀ e ∈ flat t 0, e.kind ≠ 4
 shut : ∀ e ∈ flat t 0, e.opn = false
 own : ∀ e ∈ flat t 0, e.own = true
variable {b1 b2 : Bd} {a1 a2 : Nat} {s1 s2 : LSt}
theorem kinds_one {t : Ty} {x : Nat} {e : Ent} (hn : ∀ e ∈ flat t 0, e.kind ≠ 4) (h : (flat (rollOne t) 0)[x]? = some e) (h4 : e.kind = 4) : e.s = loopS := by
 have hm := List.mem_of_getElem? h
 rw [flat_one, flat_from t 2] at hm
 rcases List.mem_cons.1 hm with rfl | hm
 ·rfl
 ·rcases List.mem_cons.1 hm with rfl | hm
  ·cases h4
  ·rcases List.mem_append.1 hm with hm | hm
   ·obtain ⟨e', he', rfl⟩ := List.mem_map.1 hm
    exact absurd h4 (hn e' he')
   ·simp at hm; subst hm; cases h4
theorem kinds_two {t : Ty} {x : Nat} {e : Ent} (hn : ∀ e ∈ flat t 0, e.kind ≠ 4) (h : (flat (rollTwo t) 0)[x]? = some e) (h4 : e.kind = 4) : e.s = loopS := by
 have hm := List.mem_of_getElem? h
 rw [flat_two, flat_from t 2, flat_from t (3 + t.count)] at hm
 rcases List.mem_cons.1 hm with rfl | hm
 ·rfl
 ·rcases List.mem_cons.1 hm with rfl | hm
  ·cases h4
  ·rcases List.mem_append.1 hm with hm | hm
   ·obtain ⟨e', he', rfl⟩ := List.mem_map.1 hm
    exact absurd h4 (hn e' he')
   ·rcases List.mem_cons.1 hm with rfl | hm
    ·cases h4
    ·rcases List.mem_append.1 hm with hm | hm
     ·obtain ⟨e', he', rfl⟩ := List.mem_map.1 hm
      exact absurd h4 (hn e' he')
     ·simp at hm; subst hm; cases h4
theorem arr_inj {a b : List UInt8} (h : (⟨a.toArray⟩ : ByteArray) = ⟨b.toArray⟩) : a = b := by
 have := congrArg (fun x : ByteArray => x.data.toList) h
 simpa using this
theorem Rolls.none1 (R : Rolls t b1 b2 a1 a2 s1 s2) {s : List UInt8} (h : s ≠ loopS) : b1.1 ⟨s.toArray⟩ = none := by
 cases hb : b1.1 ⟨s.toArray⟩ with
 | none => rfl
 | some x =>
  obtain ⟨e, he, h4, e1⟩ := R.bd1.1 _ _ hb
  have := kinds_one R.noAs he h4
  rw [this] at e1
  exact absurd (arr_inj e1) h
theorem Rolls.none2 (R : Rolls t b1 b2 a1 a2 s1 s2) {s : List UInt8} (h : s ≠ loopS) : b2.1 ⟨s.toArray⟩ = none := by
 cases hb : b2.1 ⟨s.toArray⟩ with
 | none => rfl
 | some x =>
  obtain ⟨e, he, h4, e1⟩ := R.bd2.1 _ _ hb
  have := kinds_two R.noAs he h4
  rw [this] at e1
  exact absurd (arr_inj e1) h
def Pair (t : Ty) (s1 s2 : LSt) (b c : Nat) : Prop := (∃ s, s1.vars s = some b ∧ s2.vars s = some c) ∨ ∃ x y, Twin t.count x y ∧ s1.made x = some b ∧ s2.made y = some c
theorem Rolls.root1 (_ : Rolls t b1 b2 a1 a2 s1 s2) {b : Nat} (h : valAt (flat (rollOne t) 0) b1 s1 0 = some b) : s1.made 1 = some b := by
 have e0 : (flat (rollOne t) 0)[0]? = some ⟨4, loopS, [1], [], false⟩ := by rw [flat_one]; rfl
 have e1 : (flat (rollOne t) 0)[1]? = some ⟨3, [], [2, 2 + t.count], nextL, false⟩ := by rw [flat_one]; rfl
 have := val_follow e0 rfl (c := 1) rfl h
 rw [val_self e1 (by simp) (fun h => by cases h)] at this
 exact this
theorem Rolls.root2 (_ : Rolls t b1 b2 a1 a2 s1 s2) {b : Nat} (h : valAt (flat (rollTwo t) 0) b2 s2 0 = some b) : s2.made 1 = some b := by
 have e0 : (flat (rollTwo t) 0)[0]? = some ⟨4, loopS, [1], [], false⟩ := by rw [flat_two]; rfl
 have e1 : (flat (rollTwo t) 0)[1]? = some ⟨3, [], [2, 2 + t.count], nextL, false⟩ := by rw [flat_two]; rfl
 have := val_follow e0 rfl (c := 1) rfl h
 rw [val_self e1 (by simp) (fun h => by cases h)] at this
 exact this
theorem Rolls.pair (R : Rolls t b1 b2 a1 a2 s1 s2) {x y b c : Nat} (h : Twin t.count x y ∨ (x = 2 + t.count ∧ (y = 2 + t.count ∨ y = 3 + t.count + t.count)))
  (hb : valAt (flat (rollOne t) 0) b1 s1 x = some b) (hc : valAt (flat (rollTwo t) 0) b2 s2 y = some c) : Pair t s1 s2 b c := by
 have e1 : (flat (rollOne t) 0)[1]? = some ⟨3, [], [2, 2 + t.count], nextL, false⟩ := by rw [flat_one]; rfl
 have e2 : (flat (rollTwo t) 0)[1]? = some ⟨3, [], [2, 2 + t.count], nextL, false⟩ := by rw [flat_two]; rfl
 have obj2 : ∀ c, valAt (flat (rollTwo t) 0) b2 s2 (2 + t.count) = some c → s2.made (2 + t.count) = some c := fun c h => by
  rw [val_self two_obj (by simp) (fun h => by cases h)] at h; exact h
 rcases h with h | ⟨rfl, h⟩
 ·rcases h with ⟨rfl, h⟩ | ⟨j, hj, rfl, h⟩
  ·rw [val_self e1 (by simp) (fun h => by cases h)] at hb
   rcases h with rfl | rfl
   ·rw [val_self e2 (by simp) (fun h => by cases h)] at hc
    exact .inr ⟨1, 1, .inl ⟨rfl, .inl rfl⟩, hb, hc⟩
   ·exact .inr ⟨1, 2 + t.count, .inl ⟨rfl, .inr rfl⟩, hb, obj2 c hc⟩
  ·obtain ⟨e, he⟩ := entry j hj
   have h1 := one_at he
   have hn4 := R.noAs e (List.mem_of_getElem? he)
   have key : ∀ (y d : Nat), (flat (rollTwo t) 0)[y]? = some (shiftE d e) → Twin t.count (2 + j) y → valAt (flat (rollTwo t) 0) b2 s2 y = some c → Pair t s1 s2 b c := by
    intro y d h2 htw hc
    by_cases k1 : e.kind = 1
    ·by_cases hs : e.s = loopS
     ·have hb' := R.root1 (val_bound (e := shiftE 2 e) h1 k1 (by show b1.1 ⟨e.s.toArray⟩ = _; rw [hs]; exact R.bd1.2) hb)
      have hc' := R.root2 (val_bound (e := shiftE d e) h2 k1 (by show b2.1 ⟨e.s.toArray⟩ = _; rw [hs]; exact R.bd2.2) hc)
      exact .inr ⟨1, 1, .inl ⟨rfl, .inl rfl⟩, hb', hc'⟩
     ·rw [val_self h1 hn4 (fun _ => R.none1 hs), if_pos (show (shiftE 2 e).kind = 1 from k1)] at hb
      rw [val_self h2 hn4 (fun _ => R.none2 hs), if_pos (show (shiftE d e).kind = 1 from k1)] at hc
      exact .inl ⟨_, hb, hc⟩
    ·rw [val_self h1 hn4 (fun h => absurd h k1), if_neg (show ¬ (shiftE 2 e).kind = 1 from k1)] at hb
     rw [val_self h2 hn4 (fun h => absurd h k1), if_neg (show ¬ (shiftE d e).kind = 1 from k1)] at hc
     exact .inr ⟨_, _, htw, hb, hc⟩
   rcases h with rfl | rfl
   ·exact key _ 2 (two_at he) (.inr ⟨j, hj, rfl, .inl rfl⟩) hc
   ·exact key _ (3 + t.count) (two_at2 he) (.inr ⟨j, hj, rfl, .inr rfl⟩) hc
 ·have hb' := R.root1 (val_bound one_var rfl R.bd1.2 hb)
  rcases h with rfl | rfl
  ·exact .inr ⟨1, 2 + t.count, .inl ⟨rfl, .inr rfl⟩, hb', obj2 c hc⟩
  ·exact .inr ⟨1, 1, .inl ⟨rfl, .inl rfl⟩, hb', R.root2 (val_bound two_var rfl R.bd2.2 hc)⟩
theorem Rolls.twins (R : Rolls t b1 b2 a1 a2 s1 s2) {x y : Nat} (h : Twin t.count x y) {e f : Ent} (he : (flat (rollOne t) 0)[x]? = some e) (hf : (flat (rollTwo t) 0)[y]? = some f) :
  nodeOf e = nodeOf f ∧ e.opn = false ∧ e.args.length = f.args.length ∧ ∀ (k u v : Nat), e.args[k]? = some u → f.args[k]? = some v → Twin t.count u v ∨ (u = 2 + t.count ∧ (v = 2 + t.count ∨ v = 3 + t.count + t.count)) := by
 have e1 : (flat (rollOne t) 0)[1]? = some ⟨3, [], [2, 2 + t.count], nextL, false⟩ := by rw [flat_one]; rfl
 have e2 : (flat (rollTwo t) 0)[1]? = some ⟨3, [], [2, 2 + t.count], nextL, false⟩ := by rw [flat_two]; rfl
 have hpos := t.count_pos
 rcases h with ⟨rfl, h⟩ | ⟨j, hj, rfl, h⟩
 ·rw [e1] at he
  cases he
  rcases h with rfl | rfl
  ·rw [e2] at hf
   cases hf
   refine ⟨rfl, rfl, rfl, fun k u v hu hv => ?_⟩
   match k, hu, hv with
   | 0, hu, hv => cases hu; cases hv; exact .inl (.inr ⟨0, hpos, rfl, .inl rfl⟩)
   | 1, hu, hv => cases hu; cases hv; exact .inr ⟨rfl, .inl rfl⟩
   | k + 2, hu, hv => simp at hu
  ·rw [two_obj] at hf
   cases hf
   refine ⟨rfl, rfl, rfl, fun k u v hu hv => ?_⟩
   match k, hu, hv with
   | 0, hu, hv => cases hu; cases hv; exact .inl (.inr ⟨0, hpos, rfl, .inr rfl⟩)
   | 1, hu, hv => cases hu; cases hv; exact .inr ⟨rfl, .inr rfl⟩
   | k + 2, hu, hv => simp at hu
 ·obtain ⟨e0, he0⟩ := entry j hj
  rw [one_at he0] at he
  cases he
  have hup := flat_rises t j e0 he0
  have hsh := R.shut e0 (List.mem_of_getElem? he0)
  rw [flat_len] at hup
  rcases h with rfl | rfl
  ·rw [two_at he0] at hf
   cases hf
   refine ⟨rfl, hsh, rfl, fun k u v hu hv => ?_⟩
   rw [hu] at hv
   cases hv
   simp only [shiftE, List.getElem?_map] at hu
   obtain ⟨z, hz, rfl⟩ := Option.map_eq_some_iff.1 hu
   have := hup z (List.mem_of_getElem? hz)
   exact .inl (.inr ⟨z, this.2, Nat.add_comm .., .inl (Nat.add_comm ..)⟩)
  ·rw [two_at2 he0] at hf
   cases hf
   refine ⟨rfl, hsh, by simp [shiftE], fun k u v hu hv => ?_⟩
   simp only [shiftE, List.getElem?_map] at hu hv
   obtain ⟨z, hz, rfl⟩ := Option.map_eq_some_iff.1 hu
   rw [hz, zqd] at hv
   cases hv
   have := hup z (List.mem_of_getElem? hz)
   exact .inl (.inr ⟨z, this.2, Nat.add_comm .., .inr (Nat.add_comm ..)⟩)
theorem nd_at {ns : List Tre.Node} {r : Int} {b : Nat} {n : Tre.Node} (h : ns[b]? = some n) : (Tre.Graph.mk ns r).nd b = n := by
 obtain ⟨hl, rfl⟩ := List.getElem?_eq_some_iff.1 h
 exact Graph.nd_eq hl
theorem Loaded.done {T : List Ent} {bd : Bd} {a x b : Nat} {st : LSt} (L : Loaded T bd a st) (h : st.made x = some b) : Done T bd st x b := by
 rcases (L.inv.made x b h).2.2 with d | d
 ·exact d.elim
 ·exact d
theorem Rolls.rp (R : Rolls t b1 b2 a1 a2 s1 s2) {b c : Nat} (h : RP ⟨s1.ns, (a1 : Int)⟩ ⟨s2.ns, (a2 : Int)⟩ b c) : Pair t s1 s2 b c := by
 induction h with
 | root => exact .inr ⟨1, 1, .inl ⟨rfl, .inl rfl⟩, R.root1 R.one.root, R.root2 R.two.root⟩
 | @kid b c i _ h1 h2 ih =>
  rcases ih with ⟨s, hs1, _⟩ | ⟨x, y, htw, m1, m2⟩
  ·unfold Graph.deg at h1
   rw [nd_at (R.one.inv.vars s b hs1).1] at h1
   exact absurd h1 (Nat.not_lt_zero _)
  ·obtain ⟨e, ks, d1, d2, d3, d4⟩ := (R.one.done m1).kids
   obtain ⟨f, fs, f1, f2, f3, f4⟩ := (R.two.done m2).kids
   obtain ⟨_, _, hl, hk⟩ := R.twins htw d1 f1
   unfold Graph.deg at h1
   rw [nd_at d2] at h1
   have hi : i < e.args.length := by simpa [d3] using h1
   obtain ⟨u, hu⟩ : ∃ u, e.args[i]? = some u := ⟨_, List.getElem?_eq_getElem hi⟩
   obtain ⟨v, hv⟩ : ∃ v, f.args[i]? = some v := ⟨_, List.getElem?_eq_getElem (by omega)⟩
   obtain ⟨p, p1, p2⟩ := d4 i u hu
   obtain ⟨q, q1, q2⟩ := f4 i v hv
   have kb : (Tre.Graph.mk s1.ns (a1 : Int)).kid b i = p := by
    unfold Graph.kid
    rw [nd_at d2, List.getD_eq_getElem?_getD, List.getElem?_map, p1]; rfl
   have kc : (Tre.Graph.mk s2.ns (a2 : Int)).kid c i = q := by
    unfold Graph.kid
    rw [nd_at f2, List.getD_eq_getElem?_getD, List.getElem?_map, q1]; rfl
   rw [kb, kc]
   exact R.pair (hk i u v hu hv) p2 q2
theorem Rolls.same (R : Rolls t b1 b2 a1 a2 s1 s2) (c1 : (Tre.Graph.mk s1.ns (a1 : Int)).checkC = 0) (c2 : (Tre.Graph.mk s2.ns (a2 : Int)).checkC = 0) : SameG ⟨s1.ns, (a1 : Int)⟩ ⟨s2.ns, (a2 : Int)⟩ := by
 refine ⟨c1, c2, fun b c h => ?_, fun b c b' c' h h' hfr => ?_⟩
 ·rcases R.rp h with ⟨s, hs1, hs2⟩ | ⟨x, y, htw, m1, m2⟩
  ·rw [nd_at (R.one.inv.vars s b hs1).1, nd_at (R.two.inv.vars s c hs2).1]; exact alike_refl _
  ·obtain ⟨e, ks, d1, d2, d3, _⟩ := (R.one.done m1).kids
   obtain ⟨f, fs, f1, f2, f3, _⟩ := (R.two.done m2).kids
   obtain ⟨hn, _, hl, _⟩ := R.twins htw d1 f1
   rw [nd_at d2, nd_at f2, hn]
   unfold alikeB
   simp [d3, f3, hl]
 ·have vs : ∃ s, s1.vars s = some b ∧ s2.vars s = some c := by
   rcases R.rp h with hv | ⟨x, y, htw, m1, m2⟩
   ·exact hv
   ·exfalso
    obtain ⟨e, ks, d1, d2, _, _⟩ := (R.one.done m1).kids
    obtain ⟨f, fs, f1, f2, _, _⟩ := (R.two.done m2).kids
    obtain ⟨_, ho, _, _⟩ := R.twins htw d1 f1
    rw [nd_at d2] at hfr
    unfold freeB nodeOf at hfr
    split at hfr <;> simp [ho] at hfr
  obtain ⟨s, v1, v2⟩ := vs
  rcases R.rp h' with ⟨s', w1, w2⟩ | ⟨x, y, _, m1, m2⟩
  ·constructor
   ·intro e; subst e
    have := R.one.inv.injV s s' b v1 w1
    subst this
    rw [v2] at w2; exact Option.some.inj w2
   ·intro e; subst e
    have := R.two.inv.injV s s' c v2 w2
    subst this
    rw [v1] at w1; exact Option.some.inj w1
  ·constructor
   ·intro e; subst e; exact (R.one.inv.sep _ _ _ m1 v1).elim
   ·intro e; subst e; exact (R.two.inv.sep _ _ _ m2 v2).elim
end
end Go.Tre
