/- Layer 13: the laws, plain. Layer 13: the law's example; good. gen.Fresh's weight; where it comes to an error. -/
import Derived.Test.YtlkfhbmjemjohaaDoorB08
import Derived.Test.YtlkfhbmjemjohaaDoorB15
import Derived.Test.YtlkfhbmjemjohaaDoorB00
import Derived.Test.YtlkfhbmjemjohaaDoorB13
import Derived.Test.YtlkfhbmjemjohaaDoorB09
namespace Go.Tre
section
variable {g : Tre.Graph} {mono : List Nat}
/-! with more monos -/
theorem generic_more (h : g.checkC = 0) {more : Nat} (hm : more < g.ns.length) (hl : ∀ a ∈ mono, a < g.ns.length) : ∀ i ∈ g.genericL (more :: mono), i ∈ g.genericL mono := by
  have og := Graph.ok_of h
  intro i hi
  rw [Graph.mem_generic og (fun a ha => by rcases List.mem_cons.1 ha with rfl | ha; exact hm; exact hl a ha)] at hi
  rw [Graph.mem_generic og hl]
  exact ⟨hi.1, fun ⟨m, h1, h2⟩ => hi.2.1 ⟨m, by simp [h1], h2⟩, hi.2.2⟩
theorem fixed_more (h : g.checkC = 0) {more : Nat} (hm : more < g.ns.length) (hl : ∀ a ∈ mono, a < g.ns.length) : ∀ i ∈ g.fixedL mono, i ∈ g.fixedL (mono ++ [more]) := by
  have og := Graph.ok_of h
  intro i hi
  rw [Graph.mem_fixed og hl] at hi
  rw [Graph.mem_fixed og (fun a ha => by rcases List.mem_append.1 ha with ha | ha; exact hl a ha; simp at ha; rw [ha]; exact hm)]
  obtain ⟨h1, h2, m, h3, h4⟩ := hi
  exact ⟨h1, h2, m, by simp [h3], h4⟩
theorem fixed_twice (h : g.checkC = 0) (hl : ∀ a ∈ mono, a < g.ns.length) : g.fixedL (mono ++ mono) = g.fixedL mono := by
  have og := Graph.ok_of h
  unfold Graph.fixedL
  congr 1
  funext i
  congr 1
  rw [Bool.eq_iff_iff, Graph.markB_iff og hl, Graph.markB_iff og (fun a ha => by rcases List.mem_append.1 ha with ha | ha <;> exact hl a ha)]
  exact ⟨fun ⟨m, h1, h2⟩ => ⟨m, by simpa using h1, h2⟩, fun ⟨m, h1, h2⟩ => ⟨m, by simp [h1], h2⟩⟩
/-! without monos; with the root -/
theorem free_of_reach (h : g.checkC = 0) {i : Nat} : i ∈ g.freeL ↔ Rch g g.root.toNat i ∧ freeB (g.nd i) = true := by
  unfold Graph.freeL
  rw [List.mem_filter, Graph.mem_reach h]
theorem fresh_same (h : g.checkC = 0) (hs : g.ns.length + (g.copiesL []).length ≤ 1048576) : SameG (g.freshG []) g := by
  have og := Graph.ok_of h
  have hl : ∀ a ∈ ([] : List Nat), a < g.ns.length := by simp
  have all : ∀ a b, RP (g.freshG []) g a b → Rch g g.root.toNat b ∧ a = nowF g.ns.length (g.copiesL []) b := fun a b r => by
    induction r with
    | root => exact ⟨.refl, Graph.fresh_root⟩
    | @kid a b i _ h1 h2 ih =>
      obtain ⟨hb, rfl⟩ := ih
      have hbl := hb.lt og og.root1
      have e1 : (g.freshG []).kid (nowF g.ns.length (g.copiesL []) b) i = ((g.freshG []).kids (nowF g.ns.length (g.copiesL []) b)).getD i 0 := by
        unfold Graph.kid Graph.kids; rw [List.getD_eq_getElem?_getD, List.getD_eq_getElem?_getD, List.getElem?_map]
        cases ((g.freshG []).nd (nowF g.ns.length (g.copiesL []) b)).args[i]? <;> rfl
      have e2 : g.kid b i = (g.kids b).getD i 0 := by
        unfold Graph.kid Graph.kids; rw [List.getD_eq_getElem?_getD, List.getD_eq_getElem?_getD, List.getElem?_map]
        cases (g.nd b).args[i]? <;> rfl
      have hi : i < (g.kids b).length := by rw [g.kids_len]; exact h2
      have hm : (g.kids b)[i] ∈ g.kids b := List.getElem_mem hi
      rw [e1, e2, Graph.now_kids og h hl hb, List.getD_eq_getElem?_getD, List.getD_eq_getElem?_getD, List.getElem?_map, List.getElem?_eq_getElem hi]
      exact ⟨hb.step hm, rfl⟩
  refine ⟨Graph.fresh_check h hs, h, fun a b r => ?_, fun a b a' b' r r' _ => ?_⟩
  · obtain ⟨hb, rfl⟩ := all a b r
    rw [Graph.now_nd og h hl hb]
    simp [alikeB, copyN]
  · obtain ⟨hb, rfl⟩ := all a b r
    obtain ⟨hb', rfl⟩ := all a' b' r'
    exact ⟨fun e => nowF_inj (hb.lt og og.root1) (hb'.lt og og.root1) e, fun e => by rw [e]⟩
theorem fresh_free (h : g.checkC = 0) (hs : g.ns.length + (g.copiesL []).length ≤ 1048576) : ∀ i ∈ (g.freshG []).freeL, g.ns.length ≤ i := by
  have og := Graph.ok_of h
  have hl : ∀ a ∈ ([] : List Nat), a < g.ns.length := by simp
  intro i hi
  rw [free_of_reach (Graph.fresh_check h hs), Graph.fresh_reach h hl] at hi
  obtain ⟨⟨x, hx, rfl⟩, hf⟩ := hi
  rw [Graph.now_nd og h hl hx, freeB_copy] at hf
  have : x ∈ g.copiesL [] := (Graph.mem_copies h hl).2 ⟨hx, x, .refl, hf, by simp⟩
  unfold nowF
  rw [if_pos this]
  omega
theorem copies_root (h : g.checkC = 0) : g.copiesL [g.root.toNat] = [] := by
  have og := Graph.ok_of h
  cases hc : g.copiesL [g.root.toNat] with
  | nil => rfl
  | cons x r =>
    have hx : x ∈ g.copiesL [g.root.toNat] := by rw [hc]; simp
    rw [Graph.mem_copies h (fun a ha => by simp at ha; rw [ha]; exact og.root1)] at hx
    obtain ⟨h1, k, r1, _, h3⟩ := hx
    exact absurd ⟨g.root.toNat, by simp, h1.trans r1⟩ h3
theorem fresh_root_same (h : g.checkC = 0) : g.freshG [g.root.toNat] = g := by
  have og := Graph.ok_of h
  unfold Graph.freshG
  rw [copies_root h]
  have e : ((nowF g.ns.length [] g.root.toNat : Nat) : Int) = g.root := by unfold nowF; have := og.root0; simp; omega
  rw [e]
  simp
theorem copies_nil (h : g.checkC = 0) : g.copiesL [] = [] ↔ g.freeL = [] := by
  have hl : ∀ a ∈ ([] : List Nat), a < g.ns.length := by simp
  rw [List.eq_nil_iff_forall_not_mem, List.eq_nil_iff_forall_not_mem]
  constructor
  · intro hc i hi
    rw [free_of_reach h] at hi
    exact hc i ((Graph.mem_copies h hl).2 ⟨hi.1, i, .refl, hi.2, by simp⟩)
  · intro hf i hi
    obtain ⟨h1, k, r, h2, _⟩ := (Graph.mem_copies h hl).1 hi
    exact hf k ((free_of_reach h).2 ⟨h1.trans r, h2⟩)
/-! a type beside its copy -/
def besideG (g f : Tre.Graph) : Tre.Graph := ⟨f.ns ++ [starN g.root f.root], f.ns.length⟩
theorem len_of_mem {l k : List Nat} (h1 : l.Nodup) (h2 : k.Nodup) (h : ∀ a, a ∈ l ↔ a ∈ k) : l.length = k.length :=
  ((List.perm_ext_iff_of_nodup h1 h2).2 h).length_eq
theorem beside_free (h : g.checkC = 0) (hl : ∀ a ∈ mono, a < g.ns.length) (hs : g.ns.length + (g.copiesL mono).length < 1048576) : (besideG g (g.freshG mono)).checkC = 0 ∧ (besideG g (g.freshG mono)).freeL.length = g.freeL.length + (g.genericL mono).length := by
  have og := Graph.ok_of h
  have cf := Graph.fresh_check (mono := mono) h (by omega)
  have ofr := Graph.ok_of cf
  have hfl : (g.freshG mono).ns.length = g.ns.length + (g.copiesL mono).length := Graph.fresh_len
  have hbl : (besideG g (g.freshG mono)).ns.length = (g.freshG mono).ns.length + 1 := by simp [besideG]
  have fr0 := ofr.root0
  have fr1 := ofr.root1
  have gr0 := og.root0
  have gr1 := og.root1
  have cb : (besideG g (g.freshG mono)).checkC = 0 := by
    refine check_mk (by rw [hbl]; omega) (by show (0 : Int) ≤ ((_ : Nat) : Int); omega) (by rw [hbl]; show ((_ : Nat) : Int) < _; omega) (fun n hn => ?_)
    rw [hbl]
    unfold besideG at hn
    rcases List.mem_append.1 hn with hn | hn
    · exact mayB_mono (by omega) (ofr.mays n hn)
    · simp at hn; subst hn
      exact mayB_star gr0 (by omega) fr0 (by omega)
  refine ⟨cb, ?_⟩
  have ob := Graph.ok_of cb
  have ndo : ∀ i, i < (g.freshG mono).ns.length → (besideG g (g.freshG mono)).nd i = (g.freshG mono).nd i := fun i hi => by
    rw [Graph.nd_eq (by rw [hbl]; omega), Graph.nd_eq hi]
    exact List.getElem_append_left hi
  have ndl : (besideG g (g.freshG mono)).nd (g.freshG mono).ns.length = starN g.root (g.freshG mono).root := by
    have := nd_app (g.freshG mono).ns ((g.freshG mono).ns.length : Int) [starN g.root (g.freshG mono).root] 0
    rw [Nat.add_zero] at this
    exact this
  have kdo : ∀ i, i < (g.freshG mono).ns.length → (besideG g (g.freshG mono)).kids i = (g.freshG mono).kids i := fun i hi => by unfold Graph.kids; rw [ndo i hi]
  have kdl : (besideG g (g.freshG mono)).kids (g.freshG mono).ns.length = [g.root.toNat, (g.freshG mono).root.toNat] := by unfold Graph.kids; rw [ndl]; rfl
  have rt : (besideG g (g.freshG mono)).root.toNat = (g.freshG mono).ns.length := by show ((_ : Nat) : Int).toNat = _; simp
  -- what is reached
  have rch : ∀ z, Rch (besideG g (g.freshG mono)) (g.freshG mono).ns.length z ↔ z = (g.freshG mono).ns.length ∨ Rch g g.root.toNat z ∨ Rch (g.freshG mono) (g.freshG mono).root.toNat z := fun z => by
    constructor
    · intro r
      induction r with
      | refl => exact .inl rfl
      | step _ hc ih =>
        rcases ih with rfl | ih | ih
        · rw [kdl] at hc
          simp at hc
          rcases hc with rfl | rfl
          · exact .inr (.inl .refl)
          · exact .inr (.inr .refl)
        · have hlt := ih.lt og gr1
          rw [kdo _ (by omega), Graph.old_kids hlt] at hc
          exact .inr (.inl (ih.step hc))
        · have hlt := ih.lt ofr fr1
          rw [kdo _ hlt] at hc
          exact .inr (.inr (ih.step hc))
    · rintro (rfl | r | r)
      · exact .refl
      · induction r with
        | refl => exact .head (by rw [kdl]; simp) .refl
        | step hb hc ih =>
          have hlt := hb.lt og gr1
          exact ih.step (by rw [kdo _ (by omega), Graph.old_kids hlt]; exact hc)
      · induction r with
        | refl => exact .head (by rw [kdl]; simp) .refl
        | step hb hc ih =>
          have hlt := hb.lt ofr fr1
          exact ih.step (by rw [kdo _ hlt]; exact hc)
  have gen_copy : ∀ i, i ∈ g.genericL mono → i ∈ g.copiesL mono := fun i hi => by
    rw [Graph.mem_generic og hl] at hi
    exact (Graph.mem_copies h hl).2 ⟨hi.2.2, i, .refl, hi.1, hi.2.1⟩
  have e : (besideG g (g.freshG mono)).freeL.length = (g.freeL ++ (g.genericL mono).map (nowF g.ns.length (g.copiesL mono))).length := by
    refine len_of_mem (List.Nodup.sublist List.filter_sublist (Graph.reach_nodup _)) ?_ (fun z => ?_)
    · refine List.nodup_append.2 ⟨List.Nodup.sublist List.filter_sublist (Graph.reach_nodup _), ?_, fun x hx y hy e => ?_⟩
      · refine List.Pairwise.map _ (fun a b (hab : a ∈ g.genericL mono ∧ b ∈ g.genericL mono ∧ a ≠ b) => ?_) ((List.pairwise_iff_forall_sublist.2 ?_ : List.Pairwise (fun a b => a ∈ g.genericL mono ∧ b ∈ g.genericL mono ∧ a ≠ b) (g.genericL mono)))
        · intro e
          exact hab.2.2 (nowF_inj (Graph.copies_lt (gen_copy _ hab.1)) (Graph.copies_lt (gen_copy _ hab.2.1)) e)
        · intro a b hs
          have hn : (g.genericL mono).Nodup := List.Nodup.sublist List.filter_sublist List.nodup_range
          refine ⟨hs.subset (by simp), hs.subset (by simp), ?_⟩
          have := hn.sublist hs
          simp at this
          exact this
      · obtain ⟨i, hi, rfl⟩ := List.mem_map.1 hy
        have hx' := ((free_of_reach h).1 hx).1.lt og gr1
        rw [e] at hx'
        unfold nowF at hx'
        rw [if_pos (gen_copy i hi)] at hx'
        omega
    · rw [free_of_reach cb, rt, rch, List.mem_append, free_of_reach h]
      constructor
      · rintro ⟨rfl | r | r, hf⟩
        · rw [ndl] at hf
          exact absurd hf (by simp [freeB, starN])
        · have hlt := r.lt og gr1
          rw [ndo z (by omega), Graph.fresh_old hlt] at hf
          exact .inl ⟨r, hf⟩
        · have hlt := r.lt ofr fr1
          rw [ndo z hlt] at hf
          rw [Graph.fresh_reach h hl] at r
          obtain ⟨x, hx, rfl⟩ := r
          rw [Graph.now_nd og h hl hx, freeB_copy] at hf
          by_cases hc : x ∈ g.copiesL mono
          · right
            refine List.mem_map.2 ⟨x, (Graph.mem_generic og hl).2 ⟨hf, fun ⟨m, hm, rm⟩ => ?_, hx⟩, rfl⟩
            obtain ⟨_, k, rk, _, hn⟩ := (Graph.mem_copies h hl).1 hc
            exact hn ⟨m, hm, rm.trans rk⟩
          · left
            have e : nowF g.ns.length (g.copiesL mono) x = x := by unfold nowF; rw [if_neg hc]
            rw [e]
            exact ⟨hx, hf⟩
      · rintro (⟨r, hf⟩ | hz)
        · have hlt := r.lt og gr1
          refine ⟨.inr (.inl r), ?_⟩
          rw [ndo z (by omega), Graph.fresh_old hlt]
          exact hf
        · obtain ⟨i, hi, rfl⟩ := List.mem_map.1 hz
          have hi' := (Graph.mem_generic og hl).1 hi
          have hr := (Graph.fresh_reach h hl).2 ⟨i, hi'.2.2, rfl⟩
          refine ⟨.inr (.inr hr), ?_⟩
          rw [ndo _ (hr.lt ofr fr1), Graph.now_nd og h hl hi'.2.2, freeB_copy]
          exact hi'.1
  rw [e, List.length_append, List.length_map]
end
end Go.Tre
namespace Go.Tre
open Go.RowKit
def arrow13 : ByteArray := ⟨#[45, 62]⟩
def v13 : Tre.Node := ⟨1, ByteArray.empty, [], [], false⟩
def ex13 : Tre.Graph := ⟨[⟨2, arrow13, [1, 2], [], false⟩, v13, v13], 0⟩
theorem ex13_ok : ex13.checkC = 0 := by decide +kernel
theorem ex13_d2 : ex13.dfs [2] [] = [2] := by
  rw [Graph.dfs_take (by decide) (by decide), show ex13.kids 2 = [] from rfl]
  show ex13.dfs [] [2] = _
  rw [Graph.dfs_nil]
theorem ex13_d1 : ex13.dfs [1] [] = [1] := by
  rw [Graph.dfs_take (by decide) (by decide), show ex13.kids 1 = [] from rfl]
  show ex13.dfs [] [1] = _
  rw [Graph.dfs_nil]
theorem ex13_d0 : ex13.dfs [0] [] = [0, 1, 2] := by
  rw [Graph.dfs_take (by decide) (by decide), show ex13.kids 0 = [1, 2] from rfl]
  show ex13.dfs [1, 2] [0] = _
  rw [Graph.dfs_take (by decide) (by decide), show ex13.kids 1 = [] from rfl]
  show ex13.dfs [2] [0, 1] = _
  rw [Graph.dfs_take (by decide) (by decide), show ex13.kids 2 = [] from rfl]
  show ex13.dfs [] [0, 1, 2] = _
  rw [Graph.dfs_nil]
theorem ex13_generic : ex13.genericL [2] = [1] := by
  unfold Graph.genericL Graph.markB
  rw [show (ex13.root.toNat) = 0 from rfl, ex13_d2, ex13_d0]
  decide +kernel
theorem ex13_reach : ex13.reachL = [0, 1, 2] := by
  unfold Graph.reachL
  rw [if_pos ex13_ok]
  exact ex13_d0
theorem ex13_lead : ex13.leadB [1] 0 = true ∧ ex13.leadB [1] 1 = true ∧ ex13.leadB [1] 2 = false := by
  unfold Graph.leadB
  rw [ex13_d0, ex13_d1, ex13_d2]
  decide
theorem ex13_copies : ex13.copiesL [2] = [0, 1] := by
  unfold Graph.copiesL
  rw [ex13_generic, ex13_reach]
  simp only [List.filter_cons, List.filter_nil, ex13_lead.1, ex13_lead.2.1, ex13_lead.2.2]
  rfl
theorem ex13_fresh : (ex13.freshG [2]).ns = ex13.ns ++ [⟨2, arrow13, [4, 2], [], false⟩, v13] ∧ (ex13.freshG [2]).root = 3 := by
  unfold Graph.freshG
  rw [ex13_copies]
  exact ⟨by decide +kernel, by decide +kernel⟩
end Go.Tre
namespace Go.Proofs.YtlkfhbmjemjohaaDoor.gr
open Go.RowKit Go.Shelf Go.Maps Go.Tre lex
theorem row13 {W : World} {b : Nat} {t : TypeId} {cs : Array Value} (h : W.heap[b]? = some (.cells cs t (0, 0))) (sz n : Nat) (hl : cs.toList.length = n * sz) : Row W sz (some ⟨b, 0, none⟩) n cs.toList := row_lit h sz n hl
set_option maxHeartbeats 2000000 in
theorem good_any (a : Option Addr) (ca : Nat) (g : Tre.Graph) (am : Option Addr) (n cm : Nat) (most : Int) (w : World) (wg : g.weight ≤ 8388608) (hg : NodesAt w a g.ns) :
    Calls Tryd.prog 5 #[.agg #[.slice a g.ns.length ca, .int .i64 g.root], .slice am n cm, .int .i64 most] w fun e w' => e = .returned (.bool (decide ((g.great : Int) ≤ most) && decide ((n : Int) ≤ 60))) ∧ Below w.heap.size w w' := by
  have M := (Mem.nil w).allocR #[.slice a g.ns.length ca, .int .i64 g.root] 24
  have HGR := Tre.hid (great.great a ca g _ wg (hg.below M.below))
  have HM0 := Tre.hid M
  clear hg M
  by_cases h1 : (g.great : Int) ≤ most
  · go_enter Tryd.func5, Tryd.ntmps5
    go_wp2_with fail
    refine HGR.out.mono ?_
    rintro e w1 ⟨rfl, b1⟩
    have HM1 := Tre.hid (HM0.out.quiet b1)
    clear b1
    go_wp2_with fail
    go_ret
    exact ⟨ret_bool (by simp [h1]), HM1.out.below⟩
  · go_enter Tryd.func5, Tryd.ntmps5
    go_wp2_with fail
    refine HGR.out.mono ?_
    rintro e w1 ⟨rfl, b1⟩
    have HM1 := Tre.hid (HM0.out.quiet b1)
    clear b1
    go_wp2_with fail
    go_ret
    exact ⟨ret_bool (by rw [show decide ((g.great : Int) ≤ most) = false from decide_eq_false (by omega)]; rfl), HM1.out.below⟩
theorem ints_one {w0 w : World} {rs : List Res} {a : Option Addr} {m : Nat} (M : Mem w0 w (rowR 3 1 (.slice a 1 1) 1 [.int .i64 (m : Int)] :: rs)) : IntsAt w a ([m].map fun k : Nat => (k : Int)) := by
  obtain ⟨_, _, e, _, r⟩ := row_read (M.row 0 rfl)
  cases e
  exact r

set_option maxRecDepth 100000 in
set_option maxHeartbeats 4000000 in
theorem alive13 (w : World) (hm : MaxAt w) : Calls Tryd.prog 4 #[] w fun e w' => e = .returned (.bool true) ∧ Below w.heap.size w w' := by
  have HX := Tre.hid hm
  have M := (((Mem.nil w).allocR #[.int .i64 1, .int .i64 2] 3).allocR #[.int .i64 2, .string arrow13, .slice (some ⟨w.heap.size, 0, none⟩) 2 2, .slice none 0 0, .bool false, .int .i64 1, .string ByteArray.empty, .slice none 0 0, .slice none 0 0, .bool false, .int .i64 1, .string ByteArray.empty, .slice none 0 0, .slice none 0 0, .bool false] 39).allocR #[.slice (some ⟨w.heap.size + 1, 0, none⟩) 3 3, .int .i64 0] 24
  simp only [heapSize_alloc] at M
  have M4 := M.allocRow #[.int .i64 2] 3 1 1 (by unfold maxLen; omega) rfl
  simp only [heapSize_alloc] at M4
  have n3 := M4.heap 2 rfl
  have a0 := M4.heap 3 rfl
  have N0 : NodesAt _ (some ⟨w.heap.size + 1, 0, none⟩) ex13.ns := ⟨fun k n hn => ⟨_, 0, rfl, by
    have hk : k < 3 := lt_len2 hn
    match k, hk with
    | 0, _ => cases hn; exact ⟨_, _, _, _, cell_of_heap n3 rfl, cell_of_heap n3 rfl, cell_of_heap n3 rfl, cell_of_heap n3 rfl, cell_of_heap n3 rfl, row_lit a0 1 2 rfl, row_none _ _, Nat.le_refl _, Nat.le_refl _⟩
    | 1, _ => cases hn; exact ⟨_, _, _, _, cell_of_heap n3 rfl, cell_of_heap n3 rfl, cell_of_heap n3 rfl, cell_of_heap n3 rfl, cell_of_heap n3 rfl, row_none _ _, row_none _ _, Nat.le_refl _, Nat.le_refl _⟩
    | 2, _ => cases hn; exact ⟨_, _, _, _, cell_of_heap n3 rfl, cell_of_heap n3 rfl, cell_of_heap n3 rfl, cell_of_heap n3 rfl, cell_of_heap n3 rfl, row_none _ _, row_none _ _, Nat.le_refl _, Nat.le_refl _⟩⟩⟩
  have R4 := ints_one (m := 2) M4
  have CF := fresh_ok (some ⟨w.heap.size + 1, 0, none⟩) 3 ex13 (some ⟨w.heap.size + 1 + 1 + 1, 0, none⟩) 1 [2] _ N0 ex13_ok (by decide +kernel) R4 (by decide) (by decide) (hm.below M4.below) (by rw [ex13_copies]; decide)
  rw [ex13_fresh.1, ex13_fresh.2] at CF
  have HCF := Tre.hid CF
  have HN0 := Tre.hid N0
  have HM4 := Tre.hid M4
  clear hm M M4 n3 a0 N0 R4 CF
  go_enter Tryd.func4, Tryd.ntmps4
  go_wp2_with fail
  refine HCF.out.mono ?_
  rintro e w1 ⟨vN, ds, rfl, hds, m1⟩
  have M5 := HM4.out.call m1
  have hd3 : ∃ d, ds[3]? = some d ∧ d.n = ⟨2, arrow13, [4, 2], [], false⟩ := by
    have h := congrArg (fun l => l[3]?) hds
    simp only [List.getElem?_map] at h
    cases hd : ds[3]? with
    | none => rw [hd] at h; cases h
    | some d => rw [hd] at h; exact ⟨d, rfl, Option.some.inj h⟩
  obtain ⟨d, hd, hdn⟩ := hd3
  have hdl : ds.length = 5 := by have := congrArg List.length hds; rw [List.length_map] at this; exact this
  have M6 := M5.allocR #[vN, .int .i64 3] 24
  obtain ⟨aN, cN, rfl, _⟩ := M5.val 0 rfl
  rw [hdl] at M6
  obtain ⟨b2, hb2⟩ : ∃ b2 : Nat, w1.heap.size = b2 := ⟨_, rfl⟩
  rw [hb2] at M6
  rw [hdl]
  obtain ⟨w2, hw2⟩ : ∃ w2 : World, w1.alloc (.cells #[.slice aN 5 cN, .int .i64 3] 24) = w2 := ⟨_, rfl⟩
  rw [hw2] at M6
  obtain ⟨g0, g1⟩ := M6.two 4 rfl
  have M7 := M6.allocRow #[.int .i64 2] 3 1 1 (by unfold maxLen; omega) rfl
  have R7 := ints_one (m := 2) M7
  have B7 : Below w.heap.size w (w2.alloc (.cells #[.int .i64 2] 3)) := M7.below
  have BA := m1.below.alloc m1.below.size (.cells #[.slice aN 5 cN, .int .i64 3] 24)
  rw [hw2] at BA
  have BB := BA.alloc BA.size (.cells #[.int .i64 2] 3)
  have CG := generic_ok (some ⟨w.heap.size + 1, 0, none⟩) 3 ex13 (some ⟨w2.heap.size, 0, none⟩) 1 [2] _ (HN0.out.below BB) ex13_ok (by decide +kernel) R7 (by decide) (by decide) (HX.out.below B7)
  rw [ex13_generic] at CG
  have HCG := Tre.hid CG
  have HM7 := Tre.hid M7
  have HDN := Tre.hid hdn
  have HD := Tre.hid hd
  have HDL := Tre.hid hdl
  clear m1 M5 M6 M7 R7 B7 BA BB CG hdn hd hdl hds
  go_wp2_with fail
  refine HCG.out.mono ?_
  rintro e w3 ⟨vg, rfl, m3⟩
  have M8 := HM7.out.call m3
  obtain ⟨ag, cg, rfl, _⟩ := M8.val 0 rfl
  obtain ⟨gg, rfl, _, _, q1⟩ := M8.getRow 0 rfl 0 (u := .int .i64 1) rfl
  obtain ⟨f0, f1⟩ := M8.two 2 rfl
  obtain ⟨gN, rfl, _, _, p2⟩ := M8.getRow 3 (by rw [nodesR_len HDL.out]; rfl) 17 (u := d.va) ((cells_at ds 3 2 d HD.out (by omega)).trans rfl)
  have hrow := (M8.at_ 4 rfl) (rowR 3 1 d.va d.n.args.length (d.n.args.map (Value.int .i64))) (List.mem_flatMap.2 ⟨d, List.mem_of_getElem? HD.out, by simp [kids]⟩)
  rw [HDN.out] at hrow
  obtain ⟨ga, cA, hva⟩ : ∃ g cap, d.va = .slice (some ⟨g, 0, none⟩) 2 cap := ownsRow_succ hrow
  rw [hva] at p2 hrow
  have r0 : w3.cell? ⟨ga, 0, none⟩ = some (.int .i64 4) := World.ownsRow.cellAt hrow 0 (by simp)
  have r1 : w3.cell? ⟨ga, 1, none⟩ = some (.int .i64 2) := World.ownsRow.cellAt hrow 1 (by simp)
  have HM8 := Tre.hid M8
  clear m3 M8 hrow hva g0 g1
  go_wp2_with fail
  go_ret
  exact ⟨rfl, HM8.out.below⟩
end Go.Proofs.YtlkfhbmjemjohaaDoor.gr
namespace Go.Tre
theorem fresh_weight (g : Tre.Graph) (mono : List Nat) : (g.freshG mono).weight ≤ g.weight + g.weight := by
  have e : (g.freshG mono).weight = g.weight + ((g.copiesL mono).map fun i => (g.nd i).weight).sum := by
    unfold Graph.weight Graph.freshG
    simp only [List.map_append, List.sum_append, List.map_map]
    congr 2
    refine List.map_congr_left (fun i _ => ?_)
    simp [copyN, Node.weight]
  have h := sum_le_all (fun i => (g.nd i).weight) (n := g.ns.length) (Graph.copies_nodup (g := g) (mono := mono)) (fun a ha => Graph.copies_lt ha)
  rw [e]
  have h2 := g.weight_range
  omega
theorem copies_len_le (g : Tre.Graph) (mono : List Nat) : (g.copiesL mono).length ≤ g.ns.length := nodup_len Graph.copies_nodup (fun _ ha => Graph.copies_lt ha)
end Go.Tre
namespace Go.Proofs.YtlkfhbmjemjohaaDoor.gr
open Go.RowKit Go.Shelf Go.Maps Go.Tre lex
set_option maxRecDepth 100000 in
set_option maxHeartbeats 2000000 in
theorem fresh_no (a : Option Addr) (ca : Nat) (g : Tre.Graph) (am : Option Addr) (cm : Nat) (mono : List Int) (w : World) (hg : NodesAt w a g.ns) (wg : g.weight ≤ 2097152) (hl : IntsAt w am mono) (hll : mono.length ≤ 2097152) (hx : MaxAt w) (hc : ¬ g.monoC mono = 0) :
    Calls Tryd.prog 6 #[.agg #[.slice a g.ns.length ca, .int .i64 g.root], .slice am mono.length cm] w fun e w' => e = .returned (.tuple #[.agg #[.slice none 0 0, .int .i64 0], .int .i64 (g.monoC mono)]) ∧ Below w.heap.size w w' := by
  have M := ((Mem.nil w).allocR #[.slice a g.ns.length ca, .int .i64 g.root] 24).allocR #[.slice none 0 0, .int .i64 0] 24
  rw [heapSize_alloc] at M
  have HGN := Tre.hid (generic_no a ca g am cm mono _ (hg.below M.below) wg (hl.below M.below) hll (hx.below M.below) hc)
  have HM0 := Tre.hid M
  have u0 := not_zero hc
  clear hg hl hx M hc
  go_enter Tryd.func6, Tryd.ntmps6
  go_wp2_with fail
  refine HGN.out.mono ?_
  rintro e w1 ⟨rfl, b1⟩
  have M1 := HM0.out.quiet b1
  obtain ⟨p0, p1⟩ := M1.two 0 rfl
  have q0f := M1.free 0 rfl 0
  have q1f := M1.free 0 rfl 1
  have HM6 := Tre.hid ((M1.setCell 0 rfl 0 (.slice none 0 0)).setCell 0 rfl 1 (.int .i64 0))
  clear b1 M1
  go_wp2_with fail
  have z0 : ((w1.setCell ⟨w.heap.size + 1, 0, none⟩ (.slice none 0 0)).setCell ⟨w.heap.size + 1, 1, none⟩ (.int .i64 0)).cell? ⟨w.heap.size + 1, 0, none⟩ = some (.slice none 0 0) := HM6.out.cell 0 rfl 0 rfl
  have z1 : ((w1.setCell ⟨w.heap.size + 1, 0, none⟩ (.slice none 0 0)).setCell ⟨w.heap.size + 1, 1, none⟩ (.int .i64 0)).cell? ⟨w.heap.size + 1, 1, none⟩ = some (.int .i64 0) := HM6.out.cell 0 rfl 1 rfl
  exact bodyPost_ret (v := .tuple #[.agg #[.slice none 0 0, .int .i64 0], .int .i64 (g.monoC mono)]) (by simp [results, Tryd.results6, go_sem, z0, z1]) rfl ⟨rfl, HM6.out.below⟩
end Go.Proofs.YtlkfhbmjemjohaaDoor.gr
