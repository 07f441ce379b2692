/- The reference's Same: what its list of pairs keeps; plain. -/
import Derived.Test.YtgngnkajjldnlaaFreep
import Derived.Test.YtgngnkajjldnlaaSama
namespace Go.Tre
/-- P: the pairs; the first k are looked at, of number k the first i parts -/
structure RInv (g h : Tre.Graph) (P : List (Nat × Nat)) (k i : Nat) : Prop where
  rp : ∀ p ∈ P, RP g h p.1 p.2
  root : (g.root.toNat, h.root.toNat) ∈ P
  nod : P.Nodup
  alike : ∀ j p, P[j]? = some p → j < k → alikeB (g.nd p.1) (h.nd p.2) = true
  kids : ∀ j p, P[j]? = some p → j < k → ∀ c, c < g.deg p.1 → (g.kid p.1 c, h.kid p.2 c) ∈ P
  part : ∀ p, P[k]? = some p → ∀ c, c < i → (g.kid p.1 c, h.kid p.2 c) ∈ P
section
variable {g h : Tre.Graph} {P : List (Nat × Nat)} {k i : Nat}
theorem RInv.start : RInv g h [(g.root.toNat, h.root.toNat)] 0 0 :=
  ⟨fun p hp => by simp at hp; subst hp; exact .root, by simp, by simp, fun j p _ hj => by omega, fun j p _ hj => by omega, fun p _ c hc => by omega⟩
theorem RInv.len (I : RInv g h P k i) (og : g.Ok) (oh : h.Ok) : P.length ≤ g.ns.length * h.ns.length := by
  have sub : ∀ p ∈ P, p ∈ univ g.ns.length h.ns.length := fun p hp => mem_univ.2 ((I.rp p hp).lt og oh)
  have e : ∀ (P U : List (Nat × Nat)), P.Nodup → (∀ p ∈ P, p ∈ U) → P.length ≤ U.length := by
    intro P
    induction P with
    | nil => intro U _ _; simp
    | cons p P ih =>
      intro U hn hs
      have h1 := List.nodup_cons.1 hn
      have := ih (U.erase p) h1.2 (fun q hq => (List.mem_erase_of_ne (fun e => h1.1 (by rw [← e]; exact hq))).2 (hs q (by simp [hq])))
      rw [List.length_erase_of_mem (hs p (by simp))] at this
      have hp := List.length_pos_of_mem (hs p (by simp))
      simp only [List.length_cons]
      omega
  have := e P _ I.nod sub
  have hu : (univ g.ns.length h.ns.length).length = g.ns.length * h.ns.length := by
    unfold univ
    rw [List.length_flatMap]
    simp only [List.length_map, List.length_range]
    rw [sum_const, List.length_range]
  omega
/-- a part that is there already -/
theorem RInv.there {p : Nat × Nat} (I : RInv g h P k i) (hp : P[k]? = some p) (hm : (g.kid p.1 i, h.kid p.2 i) ∈ P) : RInv g h P k (i + 1) :=
  ⟨I.rp, I.root, I.nod, I.alike, I.kids, fun q hq c hc => by
    rw [hp] at hq
    cases hq
    by_cases e : c = i
    · rw [e]; exact hm
    · exact I.part p hp c (by omega)⟩
theorem RInv.more {p : Nat × Nat} (I : RInv g h P k i) (hp : P[k]? = some p) (h1 : i < g.deg p.1) (h2 : i < h.deg p.2) (hm : (g.kid p.1 i, h.kid p.2 i) ∉ P) : RInv g h (P ++ [(g.kid p.1 i, h.kid p.2 i)]) k (i + 1) := by
  have hk : k < P.length := (List.getElem?_eq_some_iff.1 hp).1
  have old : ∀ {j q}, j ≤ k → (P ++ [(g.kid p.1 i, h.kid p.2 i)])[j]? = some q → P[j]? = some q := fun {j q} hj hq => by rwa [List.getElem?_append_left (by omega)] at hq
  refine ⟨fun q hq => ?_, by simp [I.root], ?_, fun j q hq hj => I.alike j q (old (by omega) hq) hj, fun j q hq hj c hc => by simp [I.kids j q (old (by omega) hq) hj c hc], fun q hq c hc => ?_⟩
  · rcases List.mem_append.1 hq with hq | hq
    · exact I.rp q hq
    · simp at hq; subst hq
      exact .kid (I.rp p (List.mem_of_getElem? hp)) h1 h2
  · refine List.nodup_append.2 ⟨I.nod, by simp, fun x hx y hy e => ?_⟩
    simp at hy
    rw [e, hy] at hx
    exact hm hx
  · have := old (Nat.le_refl _) hq
    rw [hp] at this
    cases this
    by_cases e : c = i
    · subst e; simp
    · simp [I.part p hp c (by omega)]
theorem RInv.next {p : Nat × Nat} (I : RInv g h P k i) (hp : P[k]? = some p) (ha : alikeB (g.nd p.1) (h.nd p.2) = true) (hi : g.deg p.1 ≤ i) : RInv g h P (k + 1) 0 := by
  refine ⟨I.rp, I.root, I.nod, fun j q hq hj => ?_, fun j q hq hj c hc => ?_, fun q _ c hc => by omega⟩
  · by_cases e : j = k
    · subst e; rw [hp] at hq; cases hq; exact ha
    · exact I.alike j q hq (by omega)
  · by_cases e : j = k
    · subst e; rw [hp] at hq; cases hq; exact I.part p hp c (by omega)
    · exact I.kids j q hq (by omega) c hc
theorem RInv.all (I : RInv g h P k i) (hk : P.length ≤ k) {a b : Nat} (r : RP g h a b) : (a, b) ∈ P := by
  induction r with
  | root => exact I.root
  | kid _ h1 _ ih =>
    obtain ⟨j, hj, e⟩ := List.getElem_of_mem ih
    exact I.kids j _ ((List.getElem?_eq_getElem hj).trans (congrArg some e)) (by omega) _ h1
/-- the last test: what is free is matched with one -/
def oneOk (g : Tre.Graph) (p q : Nat × Nat) : Bool := !(freeB (g.nd p.1) && (decide (p.1 = q.1) != decide (p.2 = q.2)))
theorem RInv.done (I : RInv g h P k i) (hk : P.length ≤ k) (c0 : g.checkC = 0) (c1 : h.checkC = 0) (ho : ∀ p ∈ P, ∀ q ∈ P, oneOk g p q = true) : SameG g h := by
  refine ⟨c0, c1, fun a b r => ?_, fun a b a' b' r r' hf => ?_⟩
  · obtain ⟨j, hj, e⟩ := List.getElem_of_mem (I.all hk r)
    exact I.alike j (a, b) ((List.getElem?_eq_getElem hj).trans (congrArg some e)) (by omega)
  · have h1 := ho _ (I.all hk r) _ (I.all hk r')
    unfold oneOk at h1
    simp only [hf, Bool.true_and, Bool.not_eq_true', bne_eq_false_iff_eq] at h1
    exact decide_eq_decide.1 h1
theorem RInv.not_alike {p : Nat × Nat} (I : RInv g h P k i) (hp : P[k]? = some p) (ha : alikeB (g.nd p.1) (h.nd p.2) = false) : ¬ SameG g h := not_same_alike (I.rp p (List.mem_of_getElem? hp)) ha
theorem RInv.not_one {p q : Nat × Nat} (I : RInv g h P k i) (hp : p ∈ P) (hq : q ∈ P) (ho : oneOk g p q = false) : ¬ SameG g h := fun s => by
  unfold oneOk at ho
  simp only [Bool.not_eq_false', Bool.and_eq_true, bne_iff_ne, ne_eq, decide_eq_decide] at ho
  exact ho.2 (s.one _ _ _ _ (I.rp p hp) (I.rp q hq) ho.1)
end
end Go.Tre
