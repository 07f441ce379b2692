/- What is reached, in order: plain. Keys that are pairs of nodes, and numbers. -/
import Derived.Test.YtaleodkbghogfaaGreatDoorB05
import Derived.DeepKeys4
import Derived.DeepKeys5
set_option linter.unusedVariables false
namespace Go.Tre
def Graph.kids (g : Tre.Graph) (a : Nat) : List Nat := (g.nd a).args.map Int.toNat
theorem Graph.kids_len (g : Tre.Graph) (a : Nat) : (g.kids a).length = g.deg a := by unfold Graph.kids Graph.deg; simp
def Graph.budget (g : Tre.Graph) (out : List Nat) : Nat := ((List.range g.ns.length).map fun a => if a ∈ out then 0 else g.deg a + 1).sum
theorem Graph.budget_step {g : Tre.Graph} {out : List Nat} {a : Nat} (ha : a < g.ns.length) (hn : a ∉ out) : g.budget (out ++ [a]) + (g.deg a + 1) = g.budget out := by
  have := sum_upd (fun x => if x ∈ out ++ [a] then 0 else g.deg x + 1) (fun x => if x ∈ out then 0 else g.deg x + 1) a (List.range g.ns.length) List.nodup_range (List.mem_range.2 ha)
    (fun q hq => by
      have : (q ∈ out ++ [a]) = (q ∈ out) := by simp [hq]
      simp only [this])
  simp only [List.mem_append, List.mem_singleton, or_true, if_true, if_neg hn] at this
  unfold Graph.budget
  simp only [List.mem_append, List.mem_singleton]
  omega
def Graph.dfs (g : Tre.Graph) : List Nat → List Nat → List Nat
  | [], out => out
  | a :: s, out => if _h : a ∈ out ∨ g.ns.length ≤ a then g.dfs s out else g.dfs (g.kids a ++ s) (out ++ [a])
termination_by s out => g.budget out + s.length
decreasing_by
  · simp
  · have := Graph.budget_step (g := g) (out := out) (a := a) (by omega) (fun e => _h (.inl e))
    simp only [List.length_append, List.length_cons, g.kids_len]
    omega
theorem Graph.dfs_nil (g : Tre.Graph) (out : List Nat) : g.dfs [] out = out := by rw [Graph.dfs]
theorem Graph.dfs_skip {g : Tre.Graph} {out s : List Nat} {a : Nat} (h : a ∈ out) : g.dfs (a :: s) out = g.dfs s out := by rw [Graph.dfs, dif_pos (.inl h)]
theorem Graph.dfs_take {g : Tre.Graph} {out s : List Nat} {a : Nat} (h : a ∉ out) (hl : a < g.ns.length) : g.dfs (a :: s) out = g.dfs (g.kids a ++ s) (out ++ [a]) := by
  rw [Graph.dfs, dif_neg (fun e => e.elim h (fun e => by omega))]
def Graph.reachL (g : Tre.Graph) : List Nat := if g.checkC = 0 then g.dfs [g.root.toNat] [] else []
theorem Graph.budget_le (g : Tre.Graph) : g.budget [] ≤ g.weight := by
  unfold Graph.budget Graph.weight
  have e2 : ((List.range g.ns.length).map fun a => if a ∈ ([] : List Nat) then 0 else g.deg a + 1) = g.ns.map fun n => n.args.length + 1 := by
    apply List.ext_getElem
    · simp
    · intro i h1 h2
      have hi : i < g.ns.length := by simpa using h1
      simp [Graph.deg, Graph.nd_eq hi]
  rw [e2]
  generalize g.ns = ns
  induction ns with
  | nil => simp
  | cons n r ih =>
    have : n.args.length + 1 ≤ n.weight := by unfold Tre.Node.weight; omega
    simp only [List.map_cons, List.sum_cons]
    omega
theorem Graph.Ok.kids_eq {g : Tre.Graph} (h : g.Ok) {a : Nat} (ha : a < g.ns.length) : (g.nd a).args = (g.kids a).map (fun k : Nat => (k : Int)) := by
  unfold Graph.kids
  rw [List.map_map]
  apply List.ext_getElem
  · simp
  · intro i h1 h2
    obtain ⟨k, hk, _, _⟩ := h.arg ha (i := i) h1
    rw [List.getElem?_eq_getElem h1] at hk
    rw [List.getElem_map, Option.some.inj hk]
    simp
theorem Graph.Ok.kids_lt {g : Tre.Graph} (h : g.Ok) {a : Nat} (ha : a < g.ns.length) : ∀ b ∈ g.kids a, b < g.ns.length := by
  intro b hb
  unfold Graph.kids at hb
  obtain ⟨z, hz, rfl⟩ := List.mem_map.1 hb
  obtain ⟨i, hi, ez⟩ := List.getElem_of_mem hz
  obtain ⟨q, hq, _, hql⟩ := h.arg ha (i := i) hi
  rw [List.getElem?_eq_getElem hi, ez] at hq
  cases hq
  simpa using hql

/-! what is reached: each once; whatever a node that is reached leads to -/
theorem Graph.dfs_spec (g : Tre.Graph) (og : g.Ok) : ∀ (k : Nat) (s out : List Nat), g.budget out + s.length ≤ k → out.Nodup → (∀ a ∈ out, a < g.ns.length) → (∀ a ∈ s, a < g.ns.length) → (∀ a ∈ out, ∀ b ∈ g.kids a, b ∈ out ∨ b ∈ s) →
    (g.dfs s out).Nodup ∧ (∀ a ∈ g.dfs s out, a < g.ns.length) ∧ (∀ a ∈ g.dfs s out, ∀ b ∈ g.kids a, b ∈ g.dfs s out) ∧ (∃ t, g.dfs s out = out ++ t) ∧ (∀ a ∈ s, a ∈ g.dfs s out) := by
  intro k
  induction k with
  | zero =>
    intro s out hk h1 h2 h3 h4
    have : s = [] := List.length_eq_zero_iff.1 (by omega)
    subst this
    rw [g.dfs_nil]
    exact ⟨h1, h2, fun a ha b hb => (h4 a ha b hb).elim (fun e => e) (fun e => by simp at e), ⟨[], by simp⟩, by simp⟩
  | succ k ih =>
    intro s out hk h1 h2 h3 h4
    cases s with
    | nil =>
      rw [g.dfs_nil]
      exact ⟨h1, h2, fun a ha b hb => (h4 a ha b hb).elim (fun e => e) (fun e => by simp at e), ⟨[], by simp⟩, by simp⟩
    | cons a s =>
      have hal := h3 a (by simp)
      by_cases hm : a ∈ out
      · rw [Graph.dfs_skip hm]
        obtain ⟨r1, r2, r3, ⟨t, r4⟩, r5⟩ := ih s out (by simp at hk; omega) h1 h2 (fun b hb => h3 b (by simp [hb])) (fun b hb c hc => by
          rcases h4 b hb c hc with e | e
          · exact .inl e
          · rcases List.mem_cons.1 e with rfl | e
            · exact .inl hm
            · exact .inr e)
        refine ⟨r1, r2, r3, ⟨t, r4⟩, fun b hb => ?_⟩
        rcases List.mem_cons.1 hb with rfl | hb
        · rw [r4]; simp [hm]
        · exact r5 b hb
      · rw [Graph.dfs_take hm hal]
        have hb := Graph.budget_step hal hm
        obtain ⟨r1, r2, r3, ⟨t, r4⟩, r5⟩ := ih (g.kids a ++ s) (out ++ [a]) (by simp only [List.length_append, List.length_cons, g.kids_len] at hk ⊢; omega)
          (List.nodup_append.2 ⟨h1, by simp, fun x hx y hy e => by simp at hy; subst hy; subst e; exact hm hx⟩)
          (fun b hb => by rcases List.mem_append.1 hb with hb | hb; exact h2 b hb; simp at hb; rw [hb]; exact hal)
          (fun b hb => by
            rcases List.mem_append.1 hb with hb | hb
            · unfold Graph.kids at hb
              obtain ⟨z, hz, rfl⟩ := List.mem_map.1 hb
              obtain ⟨i, hi, ez⟩ := List.getElem_of_mem hz
              obtain ⟨q, hq, _, hql⟩ := og.arg hal (i := i) hi
              rw [List.getElem?_eq_getElem hi, ez] at hq
              cases hq
              simpa using hql
            · exact h3 b (by simp [hb]))
          (fun b hb c hc => by
            rcases List.mem_append.1 hb with hb | hb
            · rcases h4 b hb c hc with e | e
              · exact .inl (by simp [e])
              · rcases List.mem_cons.1 e with rfl | e
                · exact .inl (by simp)
                · exact .inr (by simp [e])
            · simp at hb; subst hb
              exact .inr (by simp [hc]))
        refine ⟨r1, r2, r3, ⟨a :: t, by rw [r4]; simp⟩, fun b hb => ?_⟩
        rcases List.mem_cons.1 hb with rfl | hb
        · rw [r4]; simp
        · exact r5 b (by simp [hb])
end Go.Tre
namespace Go.Proofs.YtaleodkbghogfaaGreatDoor.gr
open Go.RowKit Go.Maps Go.Tre lex
theorem laidOut : laidOutB Tryz.prog = true := by kernel_rfl
theorem rowP : 65 < Tryz.prog.types.size := of_decide_eq_true (by kernel_rfl)
theorem wideP : (match Tryz.prog.underlying 65 with | some (.array _ _) | some (.struct _) => true | _ => false) = true := by kernel_rfl
set_option maxRecDepth 100000 in
theorem KP : Keyed Tryz.prog 65 := Keyed.of_law (deep_law_laid laidOut (m := 2) (by omega) rowP (by kernel_rfl) wideP)
theorem kp (a b : Nat) (ha : a ≤ 8388608) (hb : b ≤ 8388608) : ∃ l, keyOf Tryz.prog 65 (.agg #[.int .i64 a, .int .i64 b]) = some l := by
  have h1 : Tryz.prog.keyType 65 = true := by kernel_rfl
  have h2 : (Value.agg #[.int .i64 a, .int .i64 b]).formed Tryz.prog 65 = true := by kernel_rfl
  have c44 : Tryz.prog.cellsOf 65 = 2 := by kernel_rfl
  have c3 : Tryz.prog.cellsOf 3 = 1 := by kernel_rfl
  obtain ⟨m, hm⟩ : ∃ m, Tryz.prog.types.size = m + 1 := Nat.exists_eq_succ_of_ne_zero (by have := rowP; omega)
  have wa : (Lit.int .i64 (a : Int)).wf = true := by simp [Lit.wf, IntKind.min, IntKind.max, IntKind.signed, IntKind.bits]; omega
  have wb : (Lit.int .i64 (b : Int)).wf = true := by simp [Lit.wf, IntKind.min, IntKind.max, IntKind.signed, IntKind.bits]; omega
  have h3 : (Tryz.prog.keyLits (Tryz.prog.types.size + 1) 65 [.int .i64 (a : Int), .int .i64 (b : Int)]) = some [.int .i64 (a : Int), .int .i64 (b : Int)] := by
    rw [hm]
    simp [Program.keyLits, Tryz.underlying65, Tryz.underlying3, c44, c3, wa, wb]
  refine ⟨.string (keyBytes [.int .i64 (a : Int), .int .i64 (b : Int)]), ?_⟩
  unfold keyOf
  rw [Tryz.underlying65]
  simp only [h1, h2, Bool.and_self, if_true]
  show Option.map _ (Tryz.prog.keyLits (Tryz.prog.types.size + 1) 65 [.int .i64 (a : Int), .int .i64 (b : Int)]) = _
  rw [h3]
  rfl

abbrev ep (p : Nat × Nat) : Value := .agg #[.int .i64 (p.1 : Int), .int .i64 (p.2 : Int)]
abbrev en (n : Nat) : Value := .int .i64 (n : Int)
theorem injP (a b : Nat × Nat) (h : ep a = ep b) : a = b := by
  obtain ⟨a1, a2⟩ := a
  obtain ⟨b1, b2⟩ := b
  simp only [ep, Value.agg.injEq] at h
  have h' := congrArg Array.toList h
  simp only [List.cons.injEq, Value.int.injEq, true_and, and_true] at h'
  simp only [Prod.mk.injEq]
  omega
theorem injN (a b : Nat) (h : en a = en b) : a = b := by
  simp only [en, Value.int.injEq, true_and] at h
  omega
theorem KI : Keyed Tryz.prog 3 := int_keyed Tryz.underlying3
theorem kn (a : Nat) (ha : a ≤ 8388608) : keyOf Tryz.prog 3 (en a) = some (.int .i64 (a : Int)) :=
  keyOf_int_mk Tryz.underlying3 (by simp [Lit.wf, IntKind.min, IntKind.max, IntKind.signed, IntKind.bits]; omega)
theorem zb (w : World) : (zeroValue 4).run Tryz.prog w = .ok (.bool false) w := by kernel_rfl
end Go.Proofs.YtaleodkbghogfaaGreatDoor.gr
