/- Layer 13: the laws, plain. -/
import Derived.Test.YtlkfhbmjemjohaaGenp
import Derived.Test.YtlkfhbmjemjohaaPl
namespace Go.Tre
section
variable {g : Tre.Graph} {mono : List Nat}
/-! with more monos -/
theorem generic_more (h : g.checkC = 0) {more : Nat} (hm : more < g.ns.length) (hl : ∀ a ∈ mono, a < g.ns.length) : ∀ i ∈ g.genericL (more :: mono), i ∈ g.genericL mono := by
  have og := Graph.ok_of h
  intro i hi
  rw [Graph.mem_generic og (fun a ha => by rcases List.mem_cons.1 ha with rfl | ha; exact hm; exact hl a ha)] at hi
  rw [Graph.mem_generic og hl]
  exact ⟨hi.1, fun ⟨m, h1, h2⟩ => hi.2.1 ⟨m, by simp [h1], h2⟩, hi.2.2⟩
theorem fixed_more (h : g.checkC = 0) {more : Nat} (hm : more < g.ns.length) (hl : ∀ a ∈ mono, a < g.ns.length) : ∀ i ∈ g.fixedL mono, i ∈ g.fixedL (mono ++ [more]) := by
  have og := Graph.ok_of h
  intro i hi
  rw [Graph.mem_fixed og hl] at hi
  rw [Graph.mem_fixed og (fun a ha => by rcases List.mem_append.1 ha with ha | ha; exact hl a ha; simp at ha; rw [ha]; exact hm)]
  obtain ⟨h1, h2, m, h3, h4⟩ := hi
  exact ⟨h1, h2, m, by simp [h3], h4⟩
theorem fixed_twice (h : g.checkC = 0) (hl : ∀ a ∈ mono, a < g.ns.length) : g.fixedL (mono ++ mono) = g.fixedL mono := by
  have og := Graph.ok_of h
  unfold Graph.fixedL
  congr 1
  funext i
  congr 1
  rw [Bool.eq_iff_iff, Graph.markB_iff og hl, Graph.markB_iff og (fun a ha => by rcases List.mem_append.1 ha with ha | ha <;> exact hl a ha)]
  exact ⟨fun ⟨m, h1, h2⟩ => ⟨m, by simpa using h1, h2⟩, fun ⟨m, h1, h2⟩ => ⟨m, by simp [h1], h2⟩⟩
/-! without monos; with the root -/
theorem free_of_reach (h : g.checkC = 0) {i : Nat} : i ∈ g.freeL ↔ Rch g g.root.toNat i ∧ freeB (g.nd i) = true := by
  unfold Graph.freeL
  rw [List.mem_filter, Graph.mem_reach h]
theorem fresh_same (h : g.checkC = 0) (hs : g.ns.length + (g.copiesL []).length ≤ 1048576) : SameG (g.freshG []) g := by
  have og := Graph.ok_of h
  have hl : ∀ a ∈ ([] : List Nat), a < g.ns.length := by simp
  have all : ∀ a b, RP (g.freshG []) g a b → Rch g g.root.toNat b ∧ a = nowF g.ns.length (g.copiesL []) b := fun a b r => by
    induction r with
    | root => exact ⟨.refl, Graph.fresh_root⟩
    | @kid a b i _ h1 h2 ih =>
      obtain ⟨hb, rfl⟩ := ih
      have hbl := hb.lt og og.root1
      have e1 : (g.freshG []).kid (nowF g.ns.length (g.copiesL []) b) i = ((g.freshG []).kids (nowF g.ns.length (g.copiesL []) b)).getD i 0 := by
        unfold Graph.kid Graph.kids; rw [List.getD_eq_getElem?_getD, List.getD_eq_getElem?_getD, List.getElem?_map]
        cases ((g.freshG []).nd (nowF g.ns.length (g.copiesL []) b)).args[i]? <;> rfl
      have e2 : g.kid b i = (g.kids b).getD i 0 := by
        unfold Graph.kid Graph.kids; rw [List.getD_eq_getElem?_getD, List.getD_eq_getElem?_getD, List.getElem?_map]
        cases (g.nd b).args[i]? <;> rfl
      have hi : i < (g.kids b).length := by rw [g.kids_len]; exact h2
      have hm : (g.kids b)[i] ∈ g.kids b := List.getElem_mem hi
      rw [e1, e2, Graph.now_kids og h hl hb, List.getD_eq_getElem?_getD, List.getD_eq_getElem?_getD, List.getElem?_map, List.getElem?_eq_getElem hi]
      exact ⟨hb.step hm, rfl⟩
  refine ⟨Graph.fresh_check h hs, h, fun a b r => ?_, fun a b a' b' r r' _ => ?_⟩
  · obtain ⟨hb, rfl⟩ := all a b r
    rw [Graph.now_nd og h hl hb]
    simp [alikeB, copyN]
  · obtain ⟨hb, rfl⟩ := all a b r
    obtain ⟨hb', rfl⟩ := all a' b' r'
    exact ⟨fun e => nowF_inj (hb.lt og og.root1) (hb'.lt og og.root1) e, fun e => by rw [e]⟩
theorem fresh_free (h : g.checkC = 0) (hs : g.ns.length + (g.copiesL []).length ≤ 1048576) : ∀ i ∈ (g.freshG []).freeL, g.ns.length ≤ i := by
  have og := Graph.ok_of h
  have hl : ∀ a ∈ ([] : List Nat), a < g.ns.length := by simp
  intro i hi
  rw [free_of_reach (Graph.fresh_check h hs), Graph.fresh_reach h hl] at hi
  obtain ⟨⟨x, hx, rfl⟩, hf⟩ := hi
  rw [Graph.now_nd og h hl hx, freeB_copy] at hf
  have : x ∈ g.copiesL [] := (Graph.mem_copies h hl).2 ⟨hx, x, .refl, hf, by simp⟩
  unfold nowF
  rw [if_pos this]
  omega
theorem copies_root (h : g.checkC = 0) : g.copiesL [g.root.toNat] = [] := by
  have og := Graph.ok_of h
  cases hc : g.copiesL [g.root.toNat] with
  | nil => rfl
  | cons x r =>
    have hx : x ∈ g.copiesL [g.root.toNat] := by rw [hc]; simp
    rw [Graph.mem_copies h (fun a ha => by simp at ha; rw [ha]; exact og.root1)] at hx
    obtain ⟨h1, k, r1, _, h3⟩ := hx
    exact absurd ⟨g.root.toNat, by simp, h1.trans r1⟩ h3
theorem fresh_root_same (h : g.checkC = 0) : g.freshG [g.root.toNat] = g := by
  have og := Graph.ok_of h
  unfold Graph.freshG
  rw [copies_root h]
  have e : ((nowF g.ns.length [] g.root.toNat : Nat) : Int) = g.root := by unfold nowF; have := og.root0; simp; omega
  rw [e]
  simp
theorem copies_nil (h : g.checkC = 0) : g.copiesL [] = [] ↔ g.freeL = [] := by
  have hl : ∀ a ∈ ([] : List Nat), a < g.ns.length := by simp
  rw [List.eq_nil_iff_forall_not_mem, List.eq_nil_iff_forall_not_mem]
  constructor
  · intro hc i hi
    rw [free_of_reach h] at hi
    exact hc i ((Graph.mem_copies h hl).2 ⟨hi.1, i, .refl, hi.2, by simp⟩)
  · intro hf i hi
    obtain ⟨h1, k, r, h2, _⟩ := (Graph.mem_copies h hl).1 hi
    exact hf k ((free_of_reach h).2 ⟨h1.trans r, h2⟩)
/-! a type beside its copy -/
def besideG (g f : Tre.Graph) : Tre.Graph := ⟨f.ns ++ [starN g.root f.root], f.ns.length⟩
theorem len_of_mem {l k : List Nat} (h1 : l.Nodup) (h2 : k.Nodup) (h : ∀ a, a ∈ l ↔ a ∈ k) : l.length = k.length :=
  ((List.perm_ext_iff_of_nodup h1 h2).2 h).length_eq
theorem beside_free (h : g.checkC = 0) (hl : ∀ a ∈ mono, a < g.ns.length) (hs : g.ns.length + (g.copiesL mono).length < 1048576) : (besideG g (g.freshG mono)).checkC = 0 ∧ (besideG g (g.freshG mono)).freeL.length = g.freeL.length + (g.genericL mono).length := by
  have og := Graph.ok_of h
  have cf := Graph.fresh_check (mono := mono) h (by omega)
  have ofr := Graph.ok_of cf
  have hfl : (g.freshG mono).ns.length = g.ns.length + (g.copiesL mono).length := Graph.fresh_len
  have hbl : (besideG g (g.freshG mono)).ns.length = (g.freshG mono).ns.length + 1 := by simp [besideG]
  have fr0 := ofr.root0
  have fr1 := ofr.root1
  have gr0 := og.root0
  have gr1 := og.root1
  have cb : (besideG g (g.freshG mono)).checkC = 0 := by
    refine check_mk (by rw [hbl]; omega) (by show (0 : Int) ≤ ((_ : Nat) : Int); omega) (by rw [hbl]; show ((_ : Nat) : Int) < _; omega) (fun n hn => ?_)
    rw [hbl]
    unfold besideG at hn
    rcases List.mem_append.1 hn with hn | hn
    · exact mayB_mono (by omega) (ofr.mays n hn)
    · simp at hn; subst hn
      exact mayB_star gr0 (by omega) fr0 (by omega)
  refine ⟨cb, ?_⟩
  have ob := Graph.ok_of cb
  have ndo : ∀ i, i < (g.freshG mono).ns.length → (besideG g (g.freshG mono)).nd i = (g.freshG mono).nd i := fun i hi => by
    rw [Graph.nd_eq (by rw [hbl]; omega), Graph.nd_eq hi]
    exact List.getElem_append_left hi
  have ndl : (besideG g (g.freshG mono)).nd (g.freshG mono).ns.length = starN g.root (g.freshG mono).root := by
    have := nd_app (g.freshG mono).ns ((g.freshG mono).ns.length : Int) [starN g.root (g.freshG mono).root] 0
    rw [Nat.add_zero] at this
    exact this
  have kdo : ∀ i, i < (g.freshG mono).ns.length → (besideG g (g.freshG mono)).kids i = (g.freshG mono).kids i := fun i hi => by unfold Graph.kids; rw [ndo i hi]
  have kdl : (besideG g (g.freshG mono)).kids (g.freshG mono).ns.length = [g.root.toNat, (g.freshG mono).root.toNat] := by unfold Graph.kids; rw [ndl]; rfl
  have rt : (besideG g (g.freshG mono)).root.toNat = (g.freshG mono).ns.length := by show ((_ : Nat) : Int).toNat = _; simp
  -- what is reached
  have rch : ∀ z, Rch (besideG g (g.freshG mono)) (g.freshG mono).ns.length z ↔ z = (g.freshG mono).ns.length ∨ Rch g g.root.toNat z ∨ Rch (g.freshG mono) (g.freshG mono).root.toNat z := fun z => by
    constructor
    · intro r
      induction r with
      | refl => exact .inl rfl
      | step _ hc ih =>
        rcases ih with rfl | ih | ih
        · rw [kdl] at hc
          simp at hc
          rcases hc with rfl | rfl
          · exact .inr (.inl .refl)
          · exact .inr (.inr .refl)
        · have hlt := ih.lt og gr1
          rw [kdo _ (by omega), Graph.old_kids hlt] at hc
          exact .inr (.inl (ih.step hc))
        · have hlt := ih.lt ofr fr1
          rw [kdo _ hlt] at hc
          exact .inr (.inr (ih.step hc))
    · rintro (rfl | r | r)
      · exact .refl
      · induction r with
        | refl => exact .head (by rw [kdl]; simp) .refl
        | step hb hc ih =>
          have hlt := hb.lt og gr1
          exact ih.step (by rw [kdo _ (by omega), Graph.old_kids hlt]; exact hc)
      · induction r with
        | refl => exact .head (by rw [kdl]; simp) .refl
        | step hb hc ih =>
          have hlt := hb.lt ofr fr1
          exact ih.step (by rw [kdo _ hlt]; exact hc)
  have gen_copy : ∀ i, i ∈ g.genericL mono → i ∈ g.copiesL mono := fun i hi => by
    rw [Graph.mem_generic og hl] at hi
    exact (Graph.mem_copies h hl).2 ⟨hi.2.2, i, .refl, hi.1, hi.2.1⟩
  have e : (besideG g (g.freshG mono)).freeL.length = (g.freeL ++ (g.genericL mono).map (nowF g.ns.length (g.copiesL mono))).length := by
    refine len_of_mem (List.Nodup.sublist List.filter_sublist (Graph.reach_nodup _)) ?_ (fun z => ?_)
    · refine List.nodup_append.2 ⟨List.Nodup.sublist List.filter_sublist (Graph.reach_nodup _), ?_, fun x hx y hy e => ?_⟩
      · refine List.Pairwise.map _ (fun a b (hab : a ∈ g.genericL mono ∧ b ∈ g.genericL mono ∧ a ≠ b) => ?_) ((List.pairwise_iff_forall_sublist.2 ?_ : List.Pairwise (fun a b => a ∈ g.genericL mono ∧ b ∈ g.genericL mono ∧ a ≠ b) (g.genericL mono)))
        · intro e
          exact hab.2.2 (nowF_inj (Graph.copies_lt (gen_copy _ hab.1)) (Graph.copies_lt (gen_copy _ hab.2.1)) e)
        · intro a b hs
          have hn : (g.genericL mono).Nodup := List.Nodup.sublist List.filter_sublist List.nodup_range
          refine ⟨hs.subset (by simp), hs.subset (by simp), ?_⟩
          have := hn.sublist hs
          simp at this
          exact this
      · obtain ⟨i, hi, rfl⟩ := List.mem_map.1 hy
        have hx' := ((free_of_reach h).1 hx).1.lt og gr1
        rw [e] at hx'
        unfold nowF at hx'
        rw [if_pos (gen_copy i hi)] at hx'
        omega
    · rw [free_of_reach cb, rt, rch, List.mem_append, free_of_reach h]
      constructor
      · rintro ⟨rfl | r | r, hf⟩
        · rw [ndl] at hf
          exact absurd hf (by simp [freeB, starN])
        · have hlt := r.lt og gr1
          rw [ndo z (by omega), Graph.fresh_old hlt] at hf
          exact .inl ⟨r, hf⟩
        · have hlt := r.lt ofr fr1
          rw [ndo z hlt] at hf
          rw [Graph.fresh_reach h hl] at r
          obtain ⟨x, hx, rfl⟩ := r
          rw [Graph.now_nd og h hl hx, freeB_copy] at hf
          by_cases hc : x ∈ g.copiesL mono
          · right
            refine List.mem_map.2 ⟨x, (Graph.mem_generic og hl).2 ⟨hf, fun ⟨m, hm, rm⟩ => ?_, hx⟩, rfl⟩
            obtain ⟨_, k, rk, _, hn⟩ := (Graph.mem_copies h hl).1 hc
            exact hn ⟨m, hm, rm.trans rk⟩
          · left
            have e : nowF g.ns.length (g.copiesL mono) x = x := by unfold nowF; rw [if_neg hc]
            rw [e]
            exact ⟨hx, hf⟩
      · rintro (⟨r, hf⟩ | hz)
        · have hlt := r.lt og gr1
          refine ⟨.inr (.inl r), ?_⟩
          rw [ndo z (by omega), Graph.fresh_old hlt]
          exact hf
        · obtain ⟨i, hi, rfl⟩ := List.mem_map.1 hz
          have hi' := (Graph.mem_generic og hl).1 hi
          have hr := (Graph.fresh_reach h hl).2 ⟨i, hi'.2.2, rfl⟩
          refine ⟨.inr (.inr hr), ?_⟩
          rw [ndo _ (hr.lt ofr fr1), Graph.now_nd og h hl hi'.2.2, freeB_copy]
          exact hi'.1
  rw [e, List.length_append, List.length_map]
end
end Go.Tre
