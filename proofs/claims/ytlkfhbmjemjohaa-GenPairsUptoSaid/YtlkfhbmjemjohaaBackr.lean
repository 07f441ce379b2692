/- A table of rows of numbers, each row of its own block: who points to whom. What a going back keeps; plain. -/
import Derived.Test.YtlkfhbmjemjohaaGenf
namespace Go.Tre
open Go.RowKit
/-- from V on, s is met: V' holds what leads to s, and all that leads to what is new -/
structure VL (g : Tre.Graph) (cont : Nat → List Nat) (V s V' : List Nat) : Prop where
  sub : ∀ y ∈ V, y ∈ V'
  has : ∀ x ∈ s, x ∈ V'
  nod : V'.Nodup
  lt : ∀ y ∈ V', y < g.ns.length
  closed : ∀ y ∈ V', y ∉ V → ∀ b ∈ cont y, b ∈ V'
  from_ : ∀ y ∈ V', y ∉ V → ∃ x ∈ s, Rch g y x
section
variable {g : Tre.Graph} {cont : Nat → List Nat} {V V1 V2 s : List Nat} {x : Nat}
theorem VL.nil (hn : V.Nodup) (hl : ∀ y ∈ V, y < g.ns.length) : VL g cont V [] V := ⟨fun _ h => h, by simp, hn, hl, fun y h h' => absurd h h', fun y h h' => absurd h h'⟩
theorem VL.skip (hn : V.Nodup) (hl : ∀ y ∈ V, y < g.ns.length) (hx : x ∈ V) : VL g cont V [x] V := ⟨fun _ h => h, fun y hy => by simp at hy; rw [hy]; exact hx, hn, hl, fun y h h' => absurd h h', fun y h h' => absurd h h'⟩
theorem VL.snoc (h : VL g cont V s V1) (k : VL g cont V1 [x] V2) : VL g cont V (s ++ [x]) V2 := by
  refine ⟨fun y hy => k.sub y (h.sub y hy), fun y hy => ?_, k.nod, k.lt, fun y hy hn b hb => ?_, fun y hy hn => ?_⟩
  · rcases List.mem_append.1 hy with hy | hy
    · exact k.sub y (h.has y hy)
    · exact k.has y hy
  · by_cases h1 : y ∈ V1
    · exact k.sub b (h.closed y h1 hn b hb)
    · exact k.closed y hy h1 b hb
  · by_cases h1 : y ∈ V1
    · obtain ⟨z, hz, r⟩ := h.from_ y h1 hn
      exact ⟨z, by simp [hz], r⟩
    · obtain ⟨z, hz, r⟩ := k.from_ y hy h1
      exact ⟨z, by simp at hz; simp [hz], r⟩
theorem VL.visit (hc : ∀ b ∈ cont x, x ∈ g.kids b) (k : VL g cont (V ++ [x]) (cont x) V2) : VL g cont V [x] V2 := by
  refine ⟨fun y hy => k.sub y (by simp [hy]), fun y hy => by simp at hy; rw [hy]; exact k.sub x (by simp), k.nod, k.lt, fun y hy hn b hb => ?_, fun y hy hn => ?_⟩
  · by_cases e : y = x
    · subst e; exact k.has b hb
    · exact k.closed y hy (by simp [hn, e]) b hb
  · by_cases e : y = x
    · exact ⟨x, by simp, by rw [e]; exact .refl⟩
    · obtain ⟨b, hb, r⟩ := k.from_ y hy (by simp [hn, e])
      exact ⟨x, by simp, r.step (hc b hb)⟩
theorem VL.done (og : g.Ok) (hc : ∀ y, y < g.ns.length → ∀ b, b < g.ns.length → y ∈ g.kids b → b ∈ cont y) {gl : List Nat} (h : VL g cont [] gl V) (i : Nat) (hi : i < g.ns.length) : (decide (i ∈ V)) = g.leadB gl i := by
  rw [Bool.eq_iff_iff, decide_eq_true_eq, Graph.leadB_iff og hi]
  constructor
  · intro hv
    obtain ⟨k, hk, r⟩ := h.from_ i hv (by simp)
    exact ⟨k, hk, r⟩
  · rintro ⟨k, hk, r⟩
    -- back along the way
    have back : ∀ a b, Rch g a b → a < g.ns.length → b ∈ V → a ∈ V := fun a b r ha => by
      induction r with
      | refl => exact id
      | step hab hc' ih => intro hV; exact ih (h.closed _ hV (by simp) _ (hc _ (h.lt _ hV) _ (hab.lt og ha) hc'))
    exact back i k r hi (h.has k hk)
theorem nodup_lt_len {n : Nat} : ∀ {V : List Nat}, V.Nodup → (∀ y ∈ V, y < n) → V.length ≤ n := by
  intro V hn hl
  have sub : ∀ (V U : List Nat), V.Nodup → (∀ p ∈ V, p ∈ U) → V.length ≤ U.length := by
    intro V
    induction V with
    | nil => intro U _ _; simp
    | cons p V ih =>
      intro U hn hs
      have h1 := List.nodup_cons.1 hn
      have := ih (U.erase p) h1.2 (fun q hq => (List.mem_erase_of_ne (fun e => h1.1 (by rw [← e]; exact hq))).2 (hs q (by simp [hq])))
      rw [List.length_erase_of_mem (hs p (by simp))] at this
      have hp := List.length_pos_of_mem (hs p (by simp))
      simp only [List.length_cons]
      omega
  have := sub V (List.range n) hn (fun p hp => List.mem_range.2 (hl p hp))
  rwa [List.length_range] at this
theorem nodup_snoc (hn : V.Nodup) (hx : x ∉ V) : (V ++ [x]).Nodup := List.nodup_append.2 ⟨hn, by simp, fun p hp q hq e => by simp at hq; subst hq; subst e; exact hx hp⟩
theorem lt_snoc {n : Nat} (hl : ∀ y ∈ V, y < n) (hx : x < n) : ∀ y ∈ V ++ [x], y < n := fun y hy => by
  rcases List.mem_append.1 hy with h | h
  · exact hl y h
  · simp at h; rw [h]; exact hx
end
end Go.Tre
namespace Go.Proofs.Ytlkfhbmjemjohaa.gr
open Go.RowKit Go.Shelf Go.Maps Go.Tre lex
def backR (l : List (Value × List Nat)) : Res where
  own b := ∃ p ∈ l, p.1.ownBlock = some b
  P w := (∀ p ∈ l, w.ownsRow 0 3 1 p.1 p.2.length (p.2.map rk)) ∧ ∀ (i j : Nat) (p q : Value × List Nat), i ≠ j → l[i]? = some p → l[j]? = some q → ∀ b, p.1.ownBlock = some b → q.1.ownBlock ≠ some b
  stable w w' h hs := ⟨fun p hp => (rowR 3 1 p.1 p.2.length (p.2.map rk)).stable w w' (h.1 p hp) (fun b hb => hs b ⟨p, hp, hb⟩), h.2⟩
  has w h b hb := by
    obtain ⟨p, hp, hb⟩ := hb
    exact (rowR 3 1 p.1 p.2.length (p.2.map rk)).has w (h.1 p hp) b hb
theorem backR_start (w : World) (n : Nat) : (backR (List.replicate n (.slice none 0 0, []))).P w :=
  ⟨fun p hp => by rw [List.eq_of_mem_replicate hp]; exact World.ownsRow_nil w _ _ _, fun i j p q _ hp _ b hb => by
    have := List.eq_of_mem_replicate (List.mem_of_getElem? hp)
    rw [this] at hb; cases hb⟩
theorem _root_.Go.Tre.Mem.addBack {w0 w : World} {rs : List Res} (h : Mem w0 w rs) (n : Nat) : Mem w0 w (backR (List.replicate n (.slice none 0 0, [])) :: rs) :=
  h.add ⟨rfl, rfl, rfl, Nat.le_refl _, fun _ _ _ => rfl⟩ _ (backR_start w n) (fun b hb => by
    obtain ⟨p, hp, hb⟩ := hb
    rw [List.eq_of_mem_replicate hp] at hb; cases hb)
theorem _root_.Go.Tre.Mem.backRow {w0 w : World} {rs : List Res} {l : List (Value × List Nat)} {j : Nat} {v : Value} {xs : List Nat} (h : Mem w0 w rs) (i : Nat) (hi : rs[i]? = some (backR l)) (hj : l[j]? = some (v, xs)) : w.ownsRow 0 3 1 v xs.length (xs.map rk) :=
  (h.at_ i hi).1 (v, xs) (List.mem_of_getElem? hj)
theorem _root_.Go.Tre.Mem.backSet {w0 w w' : World} {rs : List Res} {l : List (Value × List Nat)} {j : Nat} {v v' : Value} {xs xs' : List Nat} (h : Mem w0 w rs) (i : Nat) (hi : rs[i]? = some (backR l)) (hj : l[j]? = some (v, xs))
    (hg : w.grownBy w' v.ownBlock) (hown : w'.ownsRow 0 3 1 v' xs'.length (xs'.map rk)) (hat : v'.ownBlock = v.ownBlock ∨ v'.ownBlock = some w.heap.size) : Mem w0 w' (rs.set i (backR (l.set j (v', xs')))) := by
  have hP := h.at_ i hi
  have hmem := List.mem_of_getElem? hj
  have hjl := (List.getElem?_eq_some_iff.1 hj).1
  have hlt : ∀ p ∈ l, ∀ b, p.1.ownBlock = some b → b < w.heap.size := fun p hp b hb => (rowR 3 1 p.1 p.2.length (p.2.map rk)).has w (hP.1 p hp) b hb
  have get : ∀ m p, (l.set j (v', xs'))[m]? = some p → (m = j ∧ p = (v', xs')) ∨ (m ≠ j ∧ l[m]? = some p) := fun m p hm => by
    rw [List.getElem?_set] at hm
    split at hm
    · rename_i e
      subst e
      first | exact .inl ⟨rfl, (Option.some.inj hm).symm⟩ | (rw [if_pos hjl] at hm; exact .inl ⟨rfl, (Option.some.inj hm).symm⟩)
    · rename_i e
      exact .inr ⟨fun e' => e e'.symm, hm⟩
  refine h.set_row i hi hg (fun k e => ⟨_, hmem, e⟩) _ ⟨fun p hp => ?_, fun m k p q hmk hm hk b hb => ?_⟩ (fun b hb => ?_)
  · obtain ⟨m, hm⟩ := List.getElem?_of_mem hp
    rcases get m p hm with ⟨_, rfl⟩ | ⟨hne, hm'⟩
    · exact hown
    · have hpm := List.mem_of_getElem? hm'
      refine (rowR 3 1 p.1 p.2.length (p.2.map rk)).stable w w' (hP.1 p hpm) (fun b hb => hg.block b (hlt p hpm b hb) (fun e => ?_))
      exact hP.2 m j p (v, xs) hne hm' hj b hb e.symm
  · rcases get m p hm with ⟨rfl, rfl⟩ | ⟨hne, hm'⟩
    · rcases get k q hk with ⟨rfl, rfl⟩ | ⟨hnk, hk'⟩
      · exact absurd rfl hmk
      · rcases hat with e | e
        · exact hP.2 m k (v, xs) q hmk hj hk' b (e.symm.trans hb)
        · have hb' : v'.ownBlock = some b := hb
          rw [e] at hb'
          cases hb'
          intro hq
          have := hlt q (List.mem_of_getElem? hk') _ hq
          omega
    · rcases get k q hk with ⟨rfl, rfl⟩ | ⟨hnk, hk'⟩
      · have hlb := hlt p (List.mem_of_getElem? hm') b hb
        rcases hat with e | e
        · intro hq
          exact hP.2 m k p (v, xs) hmk hm' hj b hb (e.symm.trans hq)
        · intro hq
          have hq' : v'.ownBlock = some b := hq
          rw [e] at hq'
          cases hq'
          omega
      · exact hP.2 m k p q hmk hm' hk' b hb
  · obtain ⟨p, hp, hb⟩ := hb
    obtain ⟨m, hm⟩ := List.getElem?_of_mem hp
    rcases get m p hm with ⟨_, rfl⟩ | ⟨_, hm'⟩
    · rcases hat with e | e
      · exact .inl ⟨_, hmem, e.symm.trans hb⟩
      · right
        have hb' : v'.ownBlock = some b := hb
        rw [e] at hb'
        cases hb'
        exact Nat.le_refl _
    · exact .inl ⟨p, List.mem_of_getElem? hm', hb⟩
end Go.Proofs.Ytlkfhbmjemjohaa.gr
