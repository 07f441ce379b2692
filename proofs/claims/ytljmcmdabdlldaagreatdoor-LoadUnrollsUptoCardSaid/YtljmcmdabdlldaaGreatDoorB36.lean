/- LoadUnrolls, plain: what goes round, written once more within itself (its parts in common), is the same type. -/
import Derived.Test.YtljmcmdabdlldaaGreatDoorB33
set_option linter.unusedVariables false
namespace Go.Tre
def TabLoads (T : List Ent) (K : Nat) (g : Tre.Graph) : Prop := ∃ (bd : Bd) (a : Nat) (st : LSt), bind1 T K 0 (fun _ => none, 0) = some bd ∧ (∀ s x, bd.1 s = some x → ∃ r, follow1 T bd.1 (2 * bd.2 + 2) x = some r) ∧ node1 T bd K 0 ⟨fun _ => none, fun _ => none, []⟩ = some (a, st) ∧ bd.2 ≤ 4194304 ∧ g = ⟨st.ns, (a : Int)⟩
def tabTwo (t : Ty) : List Ent :=
 ⟨4, loopS, [1], [], false⟩ :: ⟨3, [], [2, 3], nextL, false⟩ :: ⟨t.kind, t.s, idxs t.args 6, t.labels, t.opn⟩ :: ⟨3, [], [4, 5], nextL, false⟩ :: ⟨t.kind, t.s, idxs t.args 6, t.labels, t.opn⟩ :: ⟨1, loopS, [], [], false⟩ :: flats t.args 6
theorem flat_head (t : Ty) (b : Nat) : flat t b = ⟨t.kind, t.s, idxs t.args (b + 1), t.labels, t.opn⟩ :: flats t.args (b + 1) := by
 cases t; rw [flat]; rfl
theorem count_args (t : Ty) : t.count = 1 + counts t.args := by
 cases t; rw [Ty.count]; rfl
theorem tabTwo_len (t : Ty) : (tabTwo t).length = 5 + t.count := by
 unfold tabTwo
 simp only [List.length_cons, flats_len, count_args]
 omega
theorem two_root {t : Ty} {e : Ent} (h : (flat t 0)[0]? = some e) : (tabTwo t)[2]? = some (shiftE 5 e) ∧ (tabTwo t)[4]? = some (shiftE 5 e) := by
 rw [flat_head] at h
 cases h
 have : idxs t.args 6 = (idxs t.args 1).map (· + 5) := idxs_shift 5 t.args 1
 unfold tabTwo shiftE
 simp only [zqb, zqc, Nat.zero_add, this]
 exact ⟨trivial, trivial⟩
theorem two_part {t : Ty} {j : Nat} {e : Ent} (h : (flat t 0)[j + 1]? = some e) : (tabTwo t)[6 + j]? = some (shiftE 5 e) := by
 rw [flat_head, zqb, Nat.zero_add] at h
 unfold tabTwo
 rw [Nat.add_comm 6 j]
 simp only [zqb]
 have : flats t.args 6 = (flats t.args 1).map (shiftE 5) := flats_shift 5 t.args 1
 rw [this, List.getElem?_map, h]; rfl
theorem two_mem {t : Ty} {e : Ent} (h : e ∈ tabTwo t) : e = ⟨4, loopS, [1], [], false⟩ ∨ e = ⟨3, [], [2, 3], nextL, false⟩ ∨ e = ⟨3, [], [4, 5], nextL, false⟩ ∨ e = ⟨1, loopS, [], [], false⟩ ∨ ∃ f ∈ flat t 0, e = shiftE 5 f := by
 have hr : ∃ f ∈ flat t 0, (⟨t.kind, t.s, idxs t.args 6, t.labels, t.opn⟩ : Ent) = shiftE 5 f := by
  refine ⟨_, by rw [flat_head]; exact List.mem_cons_self .., ?_⟩
  have : idxs t.args 6 = (idxs t.args 1).map (· + 5) := idxs_shift 5 t.args 1
  unfold shiftE
  simp only [Nat.zero_add, this]
 unfold tabTwo at h
 simp only [List.mem_cons] at h
 rcases h with h | h | h | h | h | h | h
 ·exact .inl h
 ·exact .inr (.inl h)
 ·subst h; exact .inr (.inr (.inr (.inr hr)))
 ·exact .inr (.inr (.inl h))
 ·subst h; exact .inr (.inr (.inr (.inr hr)))
 ·exact .inr (.inr (.inr (.inl h)))
 ·have e1 : flats t.args 6 = (flats t.args 1).map (shiftE 5) := flats_shift 5 t.args 1
  rw [e1] at h
  obtain ⟨f, hf, rfl⟩ := List.mem_map.1 h
  exact .inr (.inr (.inr (.inr ⟨f, by rw [flat_head]; exact List.mem_cons_of_mem _ hf, rfl⟩)))
theorem tabTwo_rises (t : Ty) : Rises (tabTwo t) := by
 intro i e he j hj
 have hl := (List.getElem?_eq_some_iff.1 he).1
 have hlen := tabTwo_len t
 have hc := count_args t
 have kid : ∀ j ∈ idxs t.args 6, 6 ≤ j ∧ j < 6 + counts t.args := fun j hj => idxs_bound t.args 6 j hj
 unfold tabTwo at he
 match i, he with
 | 0, he => cases he; simp at hj; omega
 | 1, he => cases he; simp at hj; omega
 | 2, he => cases he; have := kid j hj; omega
 | 3, he => cases he; simp at hj; omega
 | 4, he => cases he; have := kid j hj; omega
 | 5, he => cases he; simp at hj
 | i + 6, he =>
  simp only [zqb] at he
  have := flats_up t.args 6 i e he j hj
  omega
mutual
theorem bind_fresh : ∀ (t : Ty) (b : Nat) {T : List Ent} (K : Nat) (bd bd' : Bd), At T (flat t b) b → bind1 T K b bd = some bd' → BdOk T bd.1 → ∀ i e, i < t.count → T[b + i]? = some e → e.kind = 4 → bd.1 ⟨e.s.toArray⟩ = none
 | .mk k s args labels o, b, T, K, bd, bd', hT, h, hb => by
  cases K with
  | zero => rw [bind1] at h; cases h
  | succ K =>
   rw [bind1] at h
   obtain ⟨e, he, h⟩ := Option.bind_eq_some_iff.1 h
   obtain ⟨bd1, hst, hfo⟩ := Option.bind_eq_some_iff.1 h
   have h1 := stepB_ok he hst hb
   unfold flat at hT
   have e0 : e = ⟨k, s, idxs args (b + 1), labels, o⟩ := by
    have := hT 0 (by simp)
    rw [Nat.add_zero, he] at this
    simpa using this
   have hT1 : At T (flats args (b + 1)) (b + 1) := fun j hj => by
    have := hT (j + 1) (by simp; omega)
    simp at this
    rw [← this]; congr 1; omega
   have hfo' : (idxs args (b + 1)).foldlM (fun bd j => bind1 T K j bd) bd1 = some bd' := by
    rw [e0] at hfo; exact hfo
   have h2 := binds_fresh args (b + 1) K bd1 bd' hT1 hfo' h1.1
   intro i e' hi he' h4
   cases i with
   | zero =>
    rw [Nat.add_zero, he] at he'
    cases he'
    unfold stepB at hst
    rw [if_pos h4] at hst
    cases hq : bd.1 ⟨e.s.toArray⟩ with
    | none => rfl
    | some x => rw [hq] at hst; simp at hst
   | succ i =>
    have := h2 i e' (by unfold Ty.count at hi; omega) (by rw [← he']; congr 1; omega) h4
    cases hq : bd.1 ⟨e'.s.toArray⟩ with
    | none => rfl
    | some x => rw [h1.2.1 _ _ hq] at this; cases this
theorem binds_fresh : ∀ (l : List Ty) (b : Nat) {T : List Ent} (K : Nat) (bd bd' : Bd), At T (flats l b) b → (idxs l b).foldlM (fun bd j => bind1 T K j bd) bd = some bd' → BdOk T bd.1 → ∀ i e, i < counts l → T[b + i]? = some e → e.kind = 4 → bd.1 ⟨e.s.toArray⟩ = none
 | [], b, T, K, bd, bd', hT, h, hb => by
  unfold counts
  exact fun i e hi => by omega
 | t :: r, b, T, K, bd, bd', hT, h, hb => by
  unfold idxs at h
  rw [List.foldlM_cons] at h
  obtain ⟨bd1, h1, h2⟩ := Option.bind_eq_some_iff.1 h
  unfold flats at hT
  have k1 := bind_fresh t b K bd bd1 hT.left h1 hb
  have o1 := bind1_ok K b bd bd1 h1 hb
  have hR := hT.right
  rw [flat_len] at hR
  have k2 := binds_fresh r (b + t.count) K bd1 bd' hR h2 o1.1
  intro i e hi he h4
  unfold counts at hi
  by_cases hlt : i < t.count
  ·exact k1 i e hlt he h4
  ·have := k2 (i - t.count) e (by omega) (by rw [← he]; congr 1; omega) h4
   cases hq : bd.1 ⟨e.s.toArray⟩ with
   | none => rfl
   | some x => rw [o1.2 _ _ hq] at this; cases this
end
theorem bind_step {T : List Ent} {K i : Nat} {bd bd' : Bd} {e : Ent} (he : T[i]? = some e) (h : bind1 T K i bd = some bd') : ∃ K' bd1, K = K' + 1 ∧ stepB e i bd = some bd1 ∧ e.args.foldlM (fun bd j => bind1 T K' j bd) bd1 = some bd' := by
 cases K with
 | zero => rw [bind1] at h; cases h
 | succ K =>
  rw [bind1, he, Option.bind_some] at h
  obtain ⟨bd1, h1, h2⟩ := Option.bind_eq_some_iff.1 h
  exact ⟨K, bd1, rfl, h1, h2⟩
theorem fold_two {α β : Type} {f : α → β → Option α} {a a' : α} {x y : β} (h : [x, y].foldlM f a = some a') : ∃ b, f a x = some b ∧ f b y = some a' := by
 rw [List.foldlM_cons] at h
 obtain ⟨b, h1, h2⟩ := Option.bind_eq_some_iff.1 h
 rw [List.foldlM_cons] at h2
 obtain ⟨c, h3, h4⟩ := Option.bind_eq_some_iff.1 h2
 rw [List.foldlM_nil] at h4
 cases h4
 exact ⟨b, h1, h3⟩
theorem fold_one {α β : Type} {f : α → β → Option α} {a a' : α} {x : β} (h : [x].foldlM f a = some a') : f a x = some a' := by
 rw [List.foldlM_cons] at h
 obtain ⟨b, h1, h2⟩ := Option.bind_eq_some_iff.1 h
 rw [List.foldlM_nil] at h2
 cases h2
 exact h1
theorem step_other {e : Ent} {i : Nat} {bd bd1 : Bd} (h4 : e.kind ≠ 4) (h : stepB e i bd = some bd1) : bd1 = bd := by
 unfold stepB at h
 rw [if_neg h4] at h
 cases h; rfl
theorem bind_none_as {T : List Ent} (hR : Rises T) : ∀ (K i : Nat) (bd bd' : Bd), (∀ j e, i ≤ j → T[j]? = some e → e.kind ≠ 4) → bind1 T K i bd = some bd' → bd' = bd := by
 intro K
 induction K with
 | zero => intro i bd bd' _ h; rw [bind1] at h; cases h
 | succ K ih =>
  intro i bd bd' hn h
  rw [bind1] at h
  obtain ⟨e, he, h⟩ := Option.bind_eq_some_iff.1 h
  obtain ⟨bd1, h1, h2⟩ := Option.bind_eq_some_iff.1 h
  have := step_other (hn i e (Nat.le_refl _) he) h1
  subst this
  have hup := hR i e he
  have key : ∀ (l : List Nat) (b b' : Bd), (∀ j ∈ l, i < j) → l.foldlM (fun bd j => bind1 T K j bd) b = some b' → b' = b := by
   intro l
   induction l with
   | nil => intro b b' _ h; rw [List.foldlM_nil] at h; cases h; rfl
   | cons j l ihl =>
    intro b b' hl h
    rw [List.foldlM_cons] at h
    obtain ⟨b3, h3, h4⟩ := Option.bind_eq_some_iff.1 h
    have e1 := ih j b b3 (fun j' e' hj' he' => hn j' e' (by have := hl j (by simp); omega) he') h3
    subst e1
    exact ihl _ _ (fun j hj => hl j (by simp [hj])) h4
  exact key _ _ _ (fun j hj => (hup j hj).1) h2
theorem two_at6 (t : Ty) : At (tabTwo t) (flats t.args 6) 6 := fun j _ => by
 unfold tabTwo
 rw [Nat.add_comm 6 j]
 simp only [zqb]
theorem two_noAs {t : Ty} {K : Nat} {bd : Bd} (h : bind1 (tabTwo t) K 0 (fun _ => none, 0) = some bd) : ∀ e ∈ flat t 0, e.kind ≠ 4 := by
 have g0 : (tabTwo t)[0]? = some ⟨4, loopS, [1], [], false⟩ := rfl
 have g1 : (tabTwo t)[1]? = some ⟨3, [], [2, 3], nextL, false⟩ := rfl
 have g2 : (tabTwo t)[2]? = some ⟨t.kind, t.s, idxs t.args 6, t.labels, t.opn⟩ := rfl
 have g3 : (tabTwo t)[3]? = some ⟨3, [], [4, 5], nextL, false⟩ := rfl
 have g4 : (tabTwo t)[4]? = some ⟨t.kind, t.s, idxs t.args 6, t.labels, t.opn⟩ := rfl
 have hb0 : BdOk (tabTwo t) (fun _ => none) := fun s x hs => by cases hs
 obtain ⟨K1, d1, rfl, s1, f1⟩ := bind_step g0 h
 have o1 := stepB_ok g0 s1 hb0
 have f1 := fold_one f1
 obtain ⟨K2, d2, rfl, s2, f2⟩ := bind_step g1 f1
 have e2 := step_other (by simp) s2
 subst e2
 obtain ⟨d3, f3, f4⟩ := fold_two f2
 obtain ⟨K3, dA, rfl, sA, fA⟩ := bind_step g2 f3
 have oA := stepB_ok g2 sA o1.1
 have bA := binds_as t.args 6 K3 dA d3 (two_at6 t) fA oA.1
 have kA := binds_keep fA oA.1
 have o3 := bind1_ok _ 2 _ _ f3 o1.1
 obtain ⟨K4, d5, hK4, s5, f5⟩ := bind_step g3 f4
 cases hK4
 have e5 := step_other (by simp) s5
 subst e5
 obtain ⟨d6, f6, _⟩ := fold_two f5
 obtain ⟨K5, dB, rfl, sB, fB⟩ := bind_step g4 f6
 have hk : t.kind ≠ 4 := fun h4 => by
  have := kA _ _ (oA.2.2.1 h4)
  unfold stepB at sB
  rw [if_pos h4] at sB
  simp only at this
  rw [this] at sB
  simp at sB
 have eB := step_other hk sB
 subst eB
 have fr := binds_fresh t.args 6 K5 dB d6 (two_at6 t) fB o3.1
 intro e he h4
 rw [flat_head] at he
 rcases List.mem_cons.1 he with rfl | he
 ·exact hk h4
 ·obtain ⟨i, hi⟩ := List.getElem?_of_mem he
  have hil := (List.getElem?_eq_some_iff.1 hi).1
  rw [flats_len] at hil
  have g : (tabTwo t)[6 + i]? = some (shiftE 5 e) := two_part (by rw [flat_head]; exact hi)
  have p1 := bA.2 i _ hil g h4
  have p2 := fr i _ hil g h4
  rw [p1] at p2
  cases p2
theorem two_kind4 {t : Ty} (hn : ∀ e ∈ flat t 0, e.kind ≠ 4) {x : Nat} {e : Ent} (h : (tabTwo t)[x]? = some e) (h4 : e.kind = 4) : x = 0 := by
 cases x with
 | zero => rfl
 | succ x =>
  exfalso
  have hl := (List.getElem?_eq_some_iff.1 h).1
  rw [tabTwo_len] at hl
  have hc := t.count_pos
  match x, h with
  | 0, h => cases h; cases h4
  | 1, h => have := (two_root (t := t) (e := _) (List.getElem?_eq_getElem (by rw [flat_len]; exact hc))).1; rw [this] at h; cases h; exact hn _ (List.getElem_mem _) h4
  | 2, h => cases h; cases h4
  | 3, h => have := (two_root (t := t) (e := _) (List.getElem?_eq_getElem (by rw [flat_len]; exact hc))).2; rw [this] at h; cases h; exact hn _ (List.getElem_mem _) h4
  | 4, h => cases h; cases h4
  | x + 5, h =>
   have hx : x + 1 < (flat t 0).length := by rw [flat_len]; omega
   have := two_part (t := t) (j := x) (List.getElem?_eq_getElem hx)
   rw [show x + 5 + 1 = 6 + x by omega, this] at h
   cases h
   exact hn _ (List.getElem_mem _) h4
theorem two_bd {t : Ty} {K : Nat} {bd : Bd} (h : bind1 (tabTwo t) K 0 (fun _ => none, 0) = some bd) : bd = (upd (fun _ => none) ⟨loopS.toArray⟩ 0, 1) := by
 have hn := two_noAs h
 have g0 : (tabTwo t)[0]? = some ⟨4, loopS, [1], [], false⟩ := rfl
 obtain ⟨K1, d1, rfl, s1, f1⟩ := bind_step g0 h
 have e1 : d1 = (upd (fun _ => none) ⟨loopS.toArray⟩ 0, 1) := by
  have : stepB ⟨4, loopS, [1], [], false⟩ 0 ((fun _ => none, 0) : Bd) = some (upd (fun _ => none) ⟨loopS.toArray⟩ 0, 1) := rfl
  rw [this] at s1
  cases s1; rfl
 have f1 := fold_one f1
 have := bind_none_as (tabTwo_rises t) _ 1 _ _ (fun j e hj he h4 => by have := two_kind4 hn he h4; omega) f1
 rw [this, e1]
theorem two_follow {t : Ty} (hn : ∀ e ∈ flat t 0, e.kind ≠ 4) (m : Nat) : ∀ i, i < (tabTwo t).length → ∃ r, follow1 (tabTwo t) (upd (fun _ => none) ⟨loopS.toArray⟩ 0) (m + 3) i = some r := by
 have g0 : (tabTwo t)[0]? = some ⟨4, loopS, [1], [], false⟩ := rfl
 have g1 : (tabTwo t)[1]? = some ⟨3, [], [2, 3], nextL, false⟩ := rfl
 have h1 : ∀ m, follow1 (tabTwo t) (upd (fun _ => none) ⟨loopS.toArray⟩ 0) (m + 1) 1 = some 1 := fun m => by
  rw [follow1, g1, Option.bind_some, if_neg (by simp), if_neg (by simp)]
 have h0 : ∀ m, follow1 (tabTwo t) (upd (fun _ => none) ⟨loopS.toArray⟩ 0) (m + 2) 0 = some 1 := fun m => by
  rw [follow1, g0, Option.bind_some, if_pos rfl]
  exact h1 m
 intro i hi
 obtain ⟨e, he⟩ : ∃ e, (tabTwo t)[i]? = some e := ⟨_, List.getElem?_eq_getElem hi⟩
 by_cases h4 : e.kind = 4
 ·have := two_kind4 hn he h4
  subst this
  exact ⟨1, h0 (m + 1)⟩
 ·rw [follow1, he, Option.bind_some, if_neg h4]
  by_cases k1 : e.kind = 1
  ·rw [if_pos k1]
   by_cases hs : (⟨e.s.toArray⟩ : ByteArray) = ⟨loopS.toArray⟩
   ·rw [hs, upd_same]
    exact ⟨1, h0 m⟩
   ·rw [upd_ne _ _ hs]
    exact ⟨i, rfl⟩
  ·rw [if_neg k1]
   exact ⟨i, rfl⟩
theorem two_or (t : Ty) : bind1 (tabTwo t) ((tabTwo t).length + 1) 0 (fun _ => none, 0) = none ∨ ∃ g, TabLoads (tabTwo t) ((tabTwo t).length + 1) g := by
 cases hb : bind1 (tabTwo t) ((tabTwo t).length + 1) 0 (fun _ => none, 0) with
 | none => exact .inl rfl
 | some bd =>
  right
  have hn := two_noAs hb
  have e := two_bd hb
  subst e
  have hf : ∀ i, i < (tabTwo t).length → ∃ r, follow1 (tabTwo t) (upd (fun _ => none) ⟨loopS.toArray⟩ 0) (2 * 1 + 2) i = some r := two_follow hn 1
  have hu : unmade (tabTwo t) ⟨fun _ => none, fun _ => none, []⟩ < (tabTwo t).length + 1 := by
   have : unmade (tabTwo t) ⟨fun _ => none, fun _ => none, []⟩ ≤ (List.range (tabTwo t).length).length := List.countP_le_length
   rw [List.length_range] at this
   omega
  obtain ⟨a, st, h⟩ := node1_total (bd := (upd (fun _ => none) ⟨loopS.toArray⟩ 0, 1)) hf (tabTwo_rises t) ((tabTwo t).length + 1) 0 ⟨fun _ => none, fun _ => none, []⟩ (fun _ => False) (fun _ h => h.elim) LInv.start (by rw [tabTwo_len]; omega) hu
  refine ⟨_, _, a, st, hb, fun s x hs => ?_, h, by decide, rfl⟩
  have hb0 : BdOk (tabTwo t) (fun _ => none) := fun s x hs => by cases hs
  obtain ⟨ex, hex, _⟩ := (bind1_ok _ 0 _ _ hb hb0).1 s x hs
  exact hf x (List.getElem?_eq_some_iff.1 hex).1
section
def Twin (c x y : Nat) : Prop := (x = 1 ∧ (y = 1 ∨ y = 3)) ∨ (x = 2 ∧ (y = 2 ∨ y = 4)) ∨ ∃ j, j + 1 < c ∧ x = 2 + (j + 1) ∧ y = 6 + j
structure Rolls (t : Ty) (b1 b2 : Bd) (a1 a2 : Nat) (s1 s2 : LSt) : Prop where
 one : Loaded (flat (rollOne t) 0) b1 a1 s1
 two : Loaded (tabTwo t) b2 a2 s2
 bd1 : BdOk (flat (rollOne t) 0) b1.1 ∧ b1.1 ⟨loopS.toArray⟩ = some 0
 bd2 : BdOk (tabTwo t) b2.1 ∧ b2.1 ⟨loopS.toArray⟩ = some 0
 noAs : ∀ e ∈ flat t 0, e.kind ≠ 4
 shut : ∀ e ∈ flat t 0, e.opn = false
variable {t : Ty} {b1 b2 : Bd} {a1 a2 : Nat} {s1 s2 : LSt}
theorem kinds_two {t : Ty} {x : Nat} {e : Ent} (hn : ∀ e ∈ flat t 0, e.kind ≠ 4) (h : (tabTwo t)[x]? = some e) (h4 : e.kind = 4) : e.s = loopS := by
 have := two_kind4 hn h h4
 subst this
 cases h; rfl
theorem Rolls.none1 (R : Rolls t b1 b2 a1 a2 s1 s2) {s : List UInt8} (h : s ≠ loopS) : b1.1 ⟨s.toArray⟩ = none := by
 cases hb : b1.1 ⟨s.toArray⟩ with
 | none => rfl
 | some x =>
  obtain ⟨e, he, h4, e1⟩ := R.bd1.1 _ _ hb
  have := kinds_one R.noAs he h4
  rw [this] at e1
  exact absurd (arr_inj e1) h
theorem Rolls.none2 (R : Rolls t b1 b2 a1 a2 s1 s2) {s : List UInt8} (h : s ≠ loopS) : b2.1 ⟨s.toArray⟩ = none := by
 cases hb : b2.1 ⟨s.toArray⟩ with
 | none => rfl
 | some x =>
  obtain ⟨e, he, h4, e1⟩ := R.bd2.1 _ _ hb
  have := kinds_two R.noAs he h4
  rw [this] at e1
  exact absurd (arr_inj e1) h
def Pair (t : Ty) (s1 s2 : LSt) (b c : Nat) : Prop := (∃ s, s1.vars s = some b ∧ s2.vars s = some c) ∨ ∃ x y, Twin t.count x y ∧ s1.made x = some b ∧ s2.made y = some c
theorem Rolls.root1 (_ : Rolls t b1 b2 a1 a2 s1 s2) {b : Nat} (h : valAt (flat (rollOne t) 0) b1 s1 0 = some b) : s1.made 1 = some b := by
 have e0 : (flat (rollOne t) 0)[0]? = some ⟨4, loopS, [1], [], false⟩ := by rw [flat_one]; rfl
 have e1 : (flat (rollOne t) 0)[1]? = some ⟨3, [], [2, 2 + t.count], nextL, false⟩ := by rw [flat_one]; rfl
 have := val_follow e0 rfl (c := 1) rfl h
 rw [val_self e1 (by simp) (fun h => by cases h)] at this
 exact this
theorem Rolls.root2 (_ : Rolls t b1 b2 a1 a2 s1 s2) {b : Nat} (h : valAt (tabTwo t) b2 s2 0 = some b) : s2.made 1 = some b := by
 have e0 : (tabTwo t)[0]? = some ⟨4, loopS, [1], [], false⟩ := rfl
 have e1 : (tabTwo t)[1]? = some ⟨3, [], [2, 3], nextL, false⟩ := rfl
 have := val_follow e0 rfl (c := 1) rfl h
 rw [val_self e1 (by simp) (fun h => by cases h)] at this
 exact this
theorem Rolls.part (R : Rolls t b1 b2 a1 a2 s1 s2) {x y d : Nat} {e : Ent} {b c : Nat} (h1 : (flat (rollOne t) 0)[x]? = some (shiftE 2 e)) (h2 : (tabTwo t)[y]? = some (shiftE d e)) (hn4 : e.kind ≠ 4) (htw : Twin t.count x y)
  (hb : valAt (flat (rollOne t) 0) b1 s1 x = some b) (hc : valAt (tabTwo t) b2 s2 y = some c) : Pair t s1 s2 b c := by
 by_cases k1 : e.kind = 1
 ·by_cases hs : e.s = loopS
  ·have hb' := R.root1 (val_bound (e := shiftE 2 e) h1 k1 (by show b1.1 ⟨e.s.toArray⟩ = _; rw [hs]; exact R.bd1.2) hb)
   have hc' := R.root2 (val_bound (e := shiftE d e) h2 k1 (by show b2.1 ⟨e.s.toArray⟩ = _; rw [hs]; exact R.bd2.2) hc)
   exact .inr ⟨1, 1, .inl ⟨rfl, .inl rfl⟩, hb', hc'⟩
  ·rw [val_self h1 hn4 (fun _ => R.none1 hs), if_pos (show (shiftE 2 e).kind = 1 from k1)] at hb
   rw [val_self h2 hn4 (fun _ => R.none2 hs), if_pos (show (shiftE d e).kind = 1 from k1)] at hc
   exact .inl ⟨_, hb, hc⟩
 ·rw [val_self h1 hn4 (fun h => absurd h k1), if_neg (show ¬ (shiftE 2 e).kind = 1 from k1)] at hb
  rw [val_self h2 hn4 (fun h => absurd h k1), if_neg (show ¬ (shiftE d e).kind = 1 from k1)] at hc
  exact .inr ⟨_, _, htw, hb, hc⟩
theorem Rolls.pair (R : Rolls t b1 b2 a1 a2 s1 s2) {x y b c : Nat} (h : Twin t.count x y ∨ (x = 2 + t.count ∧ (y = 3 ∨ y = 5)))
  (hb : valAt (flat (rollOne t) 0) b1 s1 x = some b) (hc : valAt (tabTwo t) b2 s2 y = some c) : Pair t s1 s2 b c := by
 have e1 : (flat (rollOne t) 0)[1]? = some ⟨3, [], [2, 2 + t.count], nextL, false⟩ := by rw [flat_one]; rfl
 have e2 : (tabTwo t)[1]? = some ⟨3, [], [2, 3], nextL, false⟩ := rfl
 have e3 : (tabTwo t)[3]? = some ⟨3, [], [4, 5], nextL, false⟩ := rfl
 have e5 : (tabTwo t)[5]? = some ⟨1, loopS, [], [], false⟩ := rfl
 have obj2 : ∀ c, valAt (tabTwo t) b2 s2 3 = some c → s2.made 3 = some c := fun c h => by
  rw [val_self e3 (by simp) (fun h => by cases h)] at h; exact h
 rcases h with h | ⟨rfl, h⟩
 ·rcases h with ⟨rfl, h⟩ | ⟨rfl, h⟩ | ⟨j, hj, rfl, rfl⟩
  ·rw [val_self e1 (by simp) (fun h => by cases h)] at hb
   rcases h with rfl | rfl
   ·rw [val_self e2 (by simp) (fun h => by cases h)] at hc
    exact .inr ⟨1, 1, .inl ⟨rfl, .inl rfl⟩, hb, hc⟩
   ·exact .inr ⟨1, 3, .inl ⟨rfl, .inr rfl⟩, hb, obj2 c hc⟩
  ·obtain ⟨e, he⟩ := entry 0 t.count_pos
   have h1 := one_at he
   have hn4 := R.noAs e (List.mem_of_getElem? he)
   rcases h with rfl | rfl
   ·exact R.part h1 (two_root he).1 hn4 (.inr (.inl ⟨rfl, .inl rfl⟩)) hb hc
   ·exact R.part h1 (two_root he).2 hn4 (.inr (.inl ⟨rfl, .inr rfl⟩)) hb hc
  ·obtain ⟨e, he⟩ := entry (j + 1) hj
   exact R.part (one_at he) (two_part he) (R.noAs e (List.mem_of_getElem? he)) (.inr (.inr ⟨j, hj, rfl, rfl⟩)) hb hc
 ·have hb' := R.root1 (val_bound one_var rfl R.bd1.2 hb)
  rcases h with rfl | rfl
  ·exact .inr ⟨1, 3, .inl ⟨rfl, .inr rfl⟩, hb', obj2 c hc⟩
  ·exact .inr ⟨1, 1, .inl ⟨rfl, .inl rfl⟩, hb', R.root2 (val_bound e5 rfl R.bd2.2 hc)⟩
theorem Rolls.twins (R : Rolls t b1 b2 a1 a2 s1 s2) {x y : Nat} (h : Twin t.count x y) {e f : Ent} (he : (flat (rollOne t) 0)[x]? = some e) (hf : (tabTwo t)[y]? = some f) :
  nodeOf e = nodeOf f ∧ e.opn = false ∧ e.args.length = f.args.length ∧ ∀ (k u v : Nat), e.args[k]? = some u → f.args[k]? = some v → Twin t.count u v ∨ (u = 2 + t.count ∧ (v = 3 ∨ v = 5)) := by
 have e1 : (flat (rollOne t) 0)[1]? = some ⟨3, [], [2, 2 + t.count], nextL, false⟩ := by rw [flat_one]; rfl
 have e2 : (tabTwo t)[1]? = some ⟨3, [], [2, 3], nextL, false⟩ := rfl
 have e3 : (tabTwo t)[3]? = some ⟨3, [], [4, 5], nextL, false⟩ := rfl
 have hpos := t.count_pos
 have key : ∀ (j : Nat) (e0 : Ent), (flat t 0)[j]? = some e0 → nodeOf (shiftE 2 e0) = nodeOf (shiftE 5 e0) ∧ (shiftE 2 e0).opn = false ∧ (shiftE 2 e0).args.length = (shiftE 5 e0).args.length ∧ ∀ (k u v : Nat), (shiftE 2 e0).args[k]? = some u → (shiftE 5 e0).args[k]? = some v → Twin t.count u v ∨ (u = 2 + t.count ∧ (v = 3 ∨ v = 5)) := by
  intro j e0 he0
  have hup := flat_rises t j e0 he0
  rw [flat_len] at hup
  refine ⟨rfl, R.shut e0 (List.mem_of_getElem? he0), by simp [shiftE], fun k u v hu hv => ?_⟩
  simp only [shiftE, List.getElem?_map] at hu hv
  obtain ⟨z, hz, rfl⟩ := Option.map_eq_some_iff.1 hu
  rw [hz, zqd] at hv
  cases hv
  have := hup z (List.mem_of_getElem? hz)
  obtain ⟨z', rfl⟩ : ∃ z', z = z' + 1 := ⟨z - 1, by omega⟩
  exact .inl (.inr (.inr ⟨z', this.2, by omega, by omega⟩))
 rcases h with ⟨rfl, h⟩ | ⟨rfl, h⟩ | ⟨j, hj, rfl, rfl⟩
 ·rw [e1] at he
  cases he
  rcases h with rfl | rfl
  ·rw [e2] at hf
   cases hf
   refine ⟨rfl, rfl, rfl, fun k u v hu hv => ?_⟩
   match k, hu, hv with
   | 0, hu, hv => cases hu; cases hv; exact .inl (.inr (.inl ⟨rfl, .inl rfl⟩))
   | 1, hu, hv => cases hu; cases hv; exact .inr ⟨rfl, .inl rfl⟩
   | k + 2, hu, hv => simp at hu
  ·rw [e3] at hf
   cases hf
   refine ⟨rfl, rfl, rfl, fun k u v hu hv => ?_⟩
   match k, hu, hv with
   | 0, hu, hv => cases hu; cases hv; exact .inl (.inr (.inl ⟨rfl, .inr rfl⟩))
   | 1, hu, hv => cases hu; cases hv; exact .inr ⟨rfl, .inr rfl⟩
   | k + 2, hu, hv => simp at hu
 ·obtain ⟨e0, he0⟩ := entry 0 hpos
  rw [one_at he0] at he
  cases he
  rcases h with rfl | rfl
  ·rw [(two_root he0).1] at hf
   cases hf
   exact key 0 e0 he0
  ·rw [(two_root he0).2] at hf
   cases hf
   exact key 0 e0 he0
 ·obtain ⟨e0, he0⟩ := entry (j + 1) hj
  rw [one_at he0] at he
  cases he
  rw [two_part he0] at hf
  cases hf
  exact key (j + 1) e0 he0
theorem Rolls.rp (R : Rolls t b1 b2 a1 a2 s1 s2) {b c : Nat} (h : RP ⟨s1.ns, (a1 : Int)⟩ ⟨s2.ns, (a2 : Int)⟩ b c) : Pair t s1 s2 b c := by
 induction h with
 | root => exact .inr ⟨1, 1, .inl ⟨rfl, .inl rfl⟩, R.root1 R.one.root, R.root2 R.two.root⟩
 | @kid b c i _ h1 h2 ih =>
  rcases ih with ⟨s, hs1, _⟩ | ⟨x, y, htw, m1, m2⟩
  ·unfold Graph.deg at h1
   rw [nd_at (R.one.inv.vars s b hs1).1] at h1
   exact absurd h1 (Nat.not_lt_zero _)
  ·obtain ⟨e, ks, d1, d2, d3, d4⟩ := (R.one.done m1).kids
   obtain ⟨f, fs, f1, f2, f3, f4⟩ := (R.two.done m2).kids
   obtain ⟨_, _, hl, hk⟩ := R.twins htw d1 f1
   unfold Graph.deg at h1
   rw [nd_at d2] at h1
   have hi : i < e.args.length := by simpa [d3] using h1
   obtain ⟨u, hu⟩ : ∃ u, e.args[i]? = some u := ⟨_, List.getElem?_eq_getElem hi⟩
   obtain ⟨v, hv⟩ : ∃ v, f.args[i]? = some v := ⟨_, List.getElem?_eq_getElem (by omega)⟩
   obtain ⟨p, p1, p2⟩ := d4 i u hu
   obtain ⟨q, q1, q2⟩ := f4 i v hv
   have kb : (Tre.Graph.mk s1.ns (a1 : Int)).kid b i = p := by
    unfold Graph.kid
    rw [nd_at d2, List.getD_eq_getElem?_getD, List.getElem?_map, p1]; rfl
   have kc : (Tre.Graph.mk s2.ns (a2 : Int)).kid c i = q := by
    unfold Graph.kid
    rw [nd_at f2, List.getD_eq_getElem?_getD, List.getElem?_map, q1]; rfl
   rw [kb, kc]
   exact R.pair (hk i u v hu hv) p2 q2
theorem Rolls.same (R : Rolls t b1 b2 a1 a2 s1 s2) (c1 : (Tre.Graph.mk s1.ns (a1 : Int)).checkC = 0) (c2 : (Tre.Graph.mk s2.ns (a2 : Int)).checkC = 0) : SameG ⟨s1.ns, (a1 : Int)⟩ ⟨s2.ns, (a2 : Int)⟩ := by
 refine ⟨c1, c2, fun b c h => ?_, fun b c b' c' h h' hfr => ?_⟩
 ·rcases R.rp h with ⟨s, hs1, hs2⟩ | ⟨x, y, htw, m1, m2⟩
  ·rw [nd_at (R.one.inv.vars s b hs1).1, nd_at (R.two.inv.vars s c hs2).1]; exact alike_refl _
  ·obtain ⟨e, ks, d1, d2, d3, _⟩ := (R.one.done m1).kids
   obtain ⟨f, fs, f1, f2, f3, _⟩ := (R.two.done m2).kids
   obtain ⟨hn, _, hl, _⟩ := R.twins htw d1 f1
   rw [nd_at d2, nd_at f2, hn]
   unfold alikeB
   simp [d3, f3, hl]
 ·have vs : ∃ s, s1.vars s = some b ∧ s2.vars s = some c := by
   rcases R.rp h with hv | ⟨x, y, htw, m1, m2⟩
   ·exact hv
   ·exfalso
    obtain ⟨e, ks, d1, d2, _, _⟩ := (R.one.done m1).kids
    obtain ⟨f, fs, f1, f2, _, _⟩ := (R.two.done m2).kids
    obtain ⟨_, ho, _, _⟩ := R.twins htw d1 f1
    rw [nd_at d2] at hfr
    unfold freeB nodeOf at hfr
    split at hfr <;> simp [ho] at hfr
  obtain ⟨s, v1, v2⟩ := vs
  rcases R.rp h' with ⟨s', w1, w2⟩ | ⟨x, y, _, m1, m2⟩
  ·constructor
   ·intro e; subst e
    have := R.one.inv.injV s s' b v1 w1
    subst this
    rw [v2] at w2; exact Option.some.inj w2
   ·intro e; subst e
    have := R.two.inv.injV s s' c v2 w2
    subst this
    rw [v1] at w1; exact Option.some.inj w1
  ·constructor
   ·intro e; subst e; exact (R.one.inv.sep _ _ _ m1 v1).elim
   ·intro e; subst e; exact (R.two.inv.sep _ _ _ m2 v2).elim
end
theorem unroll_same {t : Ty} {g g1 g2 : Tre.Graph} {K : Nat} (hw : 0 ≤ walkT t) (hc : t.count ≤ 200000) (hL : LoadsAs t g) (ho : ∀ n ∈ g.trim.ns, n.isOpen = false)
  (w1 : 0 ≤ walkT (rollOne t)) (h1 : LoadsAs (rollOne t) g1) (h2 : TabLoads (tabTwo t) K g2) : SameG g1.trim g2.trim := by
 have hs := shut_parts hw (by omega) hL ho
 obtain ⟨b1, a1, s1, hb1, _, hn1, rfl⟩ := h1
 obtain ⟨b2, a2, s2, hb2, _, hn2, _, rfl⟩ := h2
 have k1 := bd_of hb1
 have hb0 : BdOk (tabTwo t) (fun _ => none) := fun s x hs => by cases hs
 have k2 := bind1_ok _ 0 _ _ hb2 hb0
 have e2 := two_bd hb2
 have R : Rolls t b1 b2 a1 a2 s1 s2 := ⟨loaded_of hn1, loaded_of hn2, ⟨k1.1, k1.2.2 0 ⟨4, loopS, [1], [], false⟩ (by rw [flat_one]; rfl) rfl⟩, ⟨k2.1, by rw [e2]; exact upd_same (fun _ : ByteArray => (none : Option Nat)) (⟨loopS.toArray⟩ : ByteArray) 0⟩, two_noAs hb2, hs⟩
 have n1 : (rollOne t).count ≤ 1048576 := by rw [← flat_len (rollOne t) 0, flat_one]; simp [flat_len]; omega
 have c1 := R.one.check w1 n1
 have c2 := R.two.checkT (fun e he => by
  rcases two_mem he with rfl | rfl | rfl | rfl | ⟨f, hf, rfl⟩
  ·decide +kernel
  ·decide +kernel
  ·decide +kernel
  ·decide +kernel
  ·have := flat_own t 0 hw f hf
   unfold Ent.own shiftE at *
   simpa using this) (by rw [tabTwo_len]; omega)
 exact ((trim_same c1).symm.trans (R.same c1 c2)).trans (trim_same c2)
end Go.Tre
