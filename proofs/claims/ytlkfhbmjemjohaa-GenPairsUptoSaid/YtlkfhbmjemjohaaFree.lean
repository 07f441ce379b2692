/- graph.Free. -/
import Derived.Test.YtlkfhbmjemjohaaReacha
namespace Go.Tre
def Graph.freeL (g : Tre.Graph) : List Nat := g.reachL.filter fun i => freeB (g.nd i)
theorem Graph.reach_lt (g : Tre.Graph) : ∀ a ∈ g.reachL, a < g.ns.length := by
  unfold Graph.reachL
  by_cases h : g.checkC = 0
  · rw [if_pos h]
    have og := Graph.ok_of h
    exact (g.dfs_spec og _ [g.root.toNat] [] (Nat.le_refl _) (by simp) (by simp) (fun a ha => by simp at ha; rw [ha]; exact og.root1) (by simp)).2.1
  · rw [if_neg h]; simp
theorem Graph.reach_nodup (g : Tre.Graph) : g.reachL.Nodup := by
  unfold Graph.reachL
  by_cases h : g.checkC = 0
  · rw [if_pos h]
    have og := Graph.ok_of h
    exact (g.dfs_spec og _ [g.root.toNat] [] (Nat.le_refl _) (by simp) (by simp) (fun a ha => by simp at ha; rw [ha]; exact og.root1) (by simp)).1
  · rw [if_neg h]; simp
theorem Graph.dfs_len {g : Tre.Graph} (og : g.Ok) : ∀ (k : Nat) (s out : List Nat), g.budget out + s.length ≤ k → (∀ a ∈ s, a < g.ns.length) → (g.dfs s out).length ≤ out.length + g.budget out := by
  intro k
  induction k with
  | zero =>
    intro s out hk _
    have : s = [] := List.length_eq_zero_iff.1 (by omega)
    subst this
    rw [g.dfs_nil]; omega
  | succ k ih =>
    intro s out hk hs
    cases s with
    | nil => rw [g.dfs_nil]; omega
    | cons a s =>
      by_cases hm : a ∈ out
      · rw [Graph.dfs_skip hm]; exact ih s out (by simp at hk; omega) (fun b hb => hs b (by simp [hb]))
      · have hal := hs a (by simp)
        have hb := Graph.budget_step hal hm
        rw [Graph.dfs_take hm hal]
        have := ih (g.kids a ++ s) (out ++ [a]) (by simp only [List.length_append, List.length_cons, g.kids_len] at hk ⊢; omega) (fun b hb' => by
          rcases List.mem_append.1 hb' with h | h
          · exact og.kids_lt hal b h
          · exact hs b (by simp [h]))
        simp only [List.length_append, List.length_singleton] at this
        omega
theorem Graph.reach_len (g : Tre.Graph) : g.reachL.length ≤ g.weight := by
  unfold Graph.reachL
  by_cases h : g.checkC = 0
  · rw [if_pos h]
    have og := Graph.ok_of h
    have := Graph.dfs_len og _ [g.root.toNat] [] (Nat.le_refl _) (fun a ha => by simp at ha; rw [ha]; exact og.root1)
    have := g.budget_le
    simp at *
    omega
  · rw [if_neg h]; simp
theorem filter_take {α : Type} (p : α → Bool) (l : List α) (k : Nat) (x : α) (h : l[k]? = some x) : (l.take (k + 1)).filter p = (l.take k).filter p ++ if p x then [x] else [] := by
  rw [List.take_add_one, h, List.filter_append]
  cases hp : p x <;> simp [hp]
end Go.Tre
namespace Go.Proofs.Ytlkfhbmjemjohaa.gr
open Go.RowKit Go.Shelf Go.Maps Go.Tre lex

set_option maxRecDepth 100000 in
set_option maxHeartbeats 2000000 in
theorem freeF_any (a : Option Addr) (ca : Nat) (g : Tre.Graph) (w : World) (hg : NodesAt w a g.ns) (wg : g.weight ≤ 2097152) (hm : MaxAt w) :
    Calls Try.prog 14 #[.agg #[.slice a g.ns.length ca, .int .i64 g.root]] w fun e w' =>
      ∃ v, e = .returned v ∧ Mem w w' [rowR 3 1 v g.freeL.length (g.freeL.map rk)] := by
  have M0 : Mem w (w.alloc (.cells #[.slice a g.ns.length ca, .int .i64 g.root] 24)) [cellsR w.heap.size 24 #[.slice a g.ns.length ca, .int .i64 g.root]] := (Mem.nil w).allocR _ _
  have HM := Tre.hid hm
  have HG := Tre.hid hg
  have HM0 := Tre.hid M0
  have hrl := g.reach_lt
  have HRL := Tre.hid hrl
  have hln : g.reachL.length ≤ 2097152 := Nat.le_trans g.reach_len wg
  clear hg hm M0 hrl
  go_enter Try.func14, Try.ntmps14
  go_wp2_with fail
  refine (reach_any a ca g _ (HG.out.below HM0.out.below) wg (HM.out.below HM0.out.below)).mono ?_
  rintro e w1 ⟨vl, rfl, m1⟩
  have M1 := HM0.out.call m1
  obtain ⟨al, cl, rfl, hcl⟩ := M1.val 0 rfl
  have HM1 := Tre.hid M1
  obtain ⟨ii, I1, I2, I3, I4⟩ := info_parts infoI
  have J1 := Tre.hid I1
  have J2 := Tre.hid I2
  have J3 := Tre.hid I3
  have J4 := Tre.hid I4
  clear m1 M1 I1 I2 I3 I4
  generalize hL : g.reachL = L at *
  have HL := Tre.hid hL
  clear hL
  go_wp2_with fail
  go_loopw [2, 8] (fun v2 v8 wr => ∃ k : Nat, k ≤ L.length ∧ v8 = .int .i64 k ∧
      Hid (Mem w wr [rowR 3 1 v2 ((L.take k).filter fun i => freeB (g.nd i)).length (((L.take k).filter fun i => freeB (g.nd i)).map rk), rowR 3 1 (.slice al L.length cl) L.length (L.map rk), cellsR w.heap.size 24 #[.slice a g.ns.length ca, .int .i64 g.root]]))
    (fun _ v8 _ => L.length - (intOf v8).toNat)
  case atStart => exact ⟨0, Nat.zero_le _, rfl, HM1.out.addNil _ _⟩
  case round =>
    obtain ⟨k, hk, rfl, hM⟩ := hrel
    by_cases hlt : k < L.length
    · obtain ⟨x, hx⟩ : ∃ x, L[k]? = some x := ⟨_, List.getElem?_eq_getElem hlt⟩
      obtain ⟨gl, rfl, hgl, hgl2, hcl⟩ := hM.out.getRow 1 rfl k (u := rk x) (by rw [List.getElem?_map, hx]; rfl)
      have hxl : x < g.ns.length := HRL.out x (List.mem_of_getElem? hx)
      have hft := filter_take (fun i => freeB (g.nd i)) L k x hx
      have HFT := Tre.hid hft
      obtain ⟨b1, o1, rfl, nx⟩ := (HG.out.below hM.out.below).at_ x (g.nd x) (by rw [Graph.nd_eq hxl]; exact List.getElem?_eq_getElem hxl)
      generalize hX : g.nd x = X at *
      have HX := Tre.hid hX
      obtain ⟨ax, cx, lx, dx, x0, x1, x2, x3, x4, xA, xL, _, _⟩ := nx
      have c0 : wr.cell? ⟨w.heap.size, 0, none⟩ = some (.slice (some ⟨b1, o1, none⟩) g.ns.length ca) := hM.out.cell 2 rfl 0 rfl
      have hcl' : wr.cell? ⟨gl, k, none⟩ = some (.int .i64 (x : Int)) := hcl
      clear hX hft hcl hx xA xL
      have hlen : ((L.take k).filter fun i => freeB (g.nd i)).length ≤ 2097152 := Nat.le_trans (List.length_filter_le _ _) (Nat.le_trans (List.length_take_le' _ _) hln)
      generalize hO : (L.take k).filter (fun i => freeB (g.nd i)) = O at *
      have HO := Tre.hid hO
      clear hO
      by_cases hf : freeB X = true
      · have HF := Tre.hid hf
        clear hf
        go_wp2_with (first
          | (go_at_call 32; refine (free_any X _ _ _ _ _).mono ?_; rintro e w2 ⟨rfl, b2⟩; rw [HF.out]; have hN := (hM.out.quiet b2).alloc (.cells #[.int .i64 (x : Int)] 3); have HN := Tre.hid hN; clear hN b2)
          | (at_builtin; refine wpList_append_own_at _ rfl _ _ 25 rfl 0 3 ii _ 1 8 Try.underlying25 J1.out J2.out J3.out J4.out rfl (by omega) u2 O.length (O.map rk) rfl (HN.out.row 0 rfl) ⟨w2.heap.size, 0, none⟩ 1 1 [.int .i64 (x : Int)] rfl rfl (cell_one_new _ _ _) (by simp [Value.oneCell']) (by unfold maxLen; omega) (by omega) (Nat.zero_le _) ?_; intro v' w4 hown4 hgrow4 hnil4 hat4; have M4 := HN.out.grow 0 rfl hgrow4 hown4 hat4; have HM4 := Tre.hid M4; clear M4 hown4 hgrow4 hnil4 hat4))
        go_roundw
        case rel =>
          refine ⟨k + 1, by omega, by go_num, ?_⟩
          have e : (L.take (k + 1)).filter (fun i => freeB (g.nd i)) = O ++ [x] := by rw [HFT.out, HF.out]; rfl
          rw [e, List.length_append, List.length_singleton, List.map_append]
          exact HM4.out
        case measure => simp [intOf]; omega
      · have hf' : freeB X = false := by simpa using hf
        have HF := Tre.hid hf'
        clear hf hf'
        go_wp2_with (first
          | (go_at_call 32; refine (free_any X _ _ _ _ _).mono ?_; rintro e w2 ⟨rfl, b2⟩; rw [HF.out]; have hN := hM.out.quiet b2; have HN := Tre.hid hN; clear hN b2))
        go_roundw
        case rel =>
          refine ⟨k + 1, by omega, by go_num, ?_⟩
          have e : (L.take (k + 1)).filter (fun i => freeB (g.nd i)) = O := by rw [HFT.out, HF.out]; simp
          rw [e]
          exact HN.out
        case measure => simp [intOf]; omega
    · have e : L.take k = L := List.take_of_length_le (by omega)
      have hM' := hM.out
      rw [e] at hM'
      have HMM := Tre.hid hM'
      clear e hM' hM
      obtain ⟨ao, co, rfl, _⟩ := HMM.out.val 0 rfl
      go_wp2_with fail
      go_ret
      refine ⟨_, rfl, ?_⟩
      unfold Graph.freeL
      rw [HL.out]
      exact HMM.out.sub (by simp)
end Go.Proofs.Ytlkfhbmjemjohaa.gr
