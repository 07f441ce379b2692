/- Layer 9, plain: a graph whose closed nodes stand twice has the same least one; a type beside itself or another one. Layer 12, plain: a type without a label; functions of it; with a label more. sub: what a claim leads to, of two graphs; claims as a map's keys. graph.Free. sub.Is, of two types without free nodes. -/
import Derived.Test.YtoieknnnadgfpaaGreatDoorB07
import Derived.Test.YtoieknnnadgfpaaGreatDoorB10
import Derived.Test.YtoieknnnadgfpaaGreatDoorB05
import Derived.Test.YtoieknnnadgfpaaGreatDoorB03
set_option linter.unusedVariables false
namespace Go.Tre
def twArg (g : Tre.Graph) (bit : Nat → Nat → Bool) (k i : Nat) (a : Int) : Int := if freeC (g.nd a.toNat) = false ∧ bit k i = true then a + g.ns.length else a
def twNode (g : Tre.Graph) (bit : Nat → Nat → Bool) (k : Nat) : Tre.Node := { g.nd (k % g.ns.length) with args := (g.nd (k % g.ns.length)).args.mapIdx fun i a => twArg g bit k i a }
def twiceG (g : Tre.Graph) (bit : Nat → Nat → Bool) : Tre.Graph := ⟨(List.range (2 * g.ns.length)).map (twNode g bit), g.root⟩
section
variable {g : Tre.Graph} {bit : Nat → Nat → Bool}
end

/-! a type beside itself; beside another one -/
def pairG (g : Tre.Graph) : Tre.Graph := ⟨g.ns ++ [starN g.root g.root], g.ns.length⟩
def unusB : ByteArray := ⟨#[117, 110, 117, 115, 117, 97, 108]⟩
def unusN (a : Int) : Tre.Node := ⟨3, ByteArray.empty, [a], [unusB], false⟩
def oddG (g : Tre.Graph) : Tre.Graph := ⟨g.ns ++ [unusN g.ns.length, starN g.root g.ns.length], g.ns.length + 1⟩
section
variable {g : Tre.Graph}
theorem outside_in {n : Nat} {a : Int} (h0 : 0 ≤ a) (h1 : a < n) : outside n a = false := by
 unfold outside
 simp only [Bool.or_eq_false_iff, decide_eq_false_iff_not]
 omega
end
end Go.Tre
namespace Go.Tre
theorem rising_iff {l : List ByteArray} : rising l = true ↔ (∀ s ∈ l, isName s = true) ∧ l.Pairwise fun x y => Op.bytesLess x.toList y.toList = true := by
 constructor
 ·intro h
  exact ⟨rising_names h, rising_pw h⟩
 ·rintro ⟨h1, h2⟩
  unfold rising
  rw [List.all_eq_true]
  intro i hi
  rw [List.mem_range] at hi
  unfold labelOk
  rw [Bool.and_eq_true, Bool.or_eq_true]
  constructor
  ·rw [List.getD_eq_getElem?_getD, List.getElem?_eq_getElem hi]
   exact h1 _ (List.getElem_mem hi)
  ·by_cases h0 : i = 0
   ·left; simp [h0]
   ·right
    rw [List.getD_eq_getElem?_getD, List.getD_eq_getElem?_getD, List.getElem?_eq_getElem (by omega), List.getElem?_eq_getElem hi]
    exact List.pairwise_iff_getElem.1 h2 (i - 1) i (by omega) hi (by omega)
theorem rising_sub {l m : List ByteArray} (h : rising m = true) (s : l.Sublist m) : rising l = true := by
 rw [rising_iff] at h ⊢
 exact ⟨fun x hx => h.1 x (s.subset hx), h.2.sublist s⟩
theorem rising_inj {l : List ByteArray} (h : rising l = true) {i j : Nat} {s : ByteArray} (h1 : l[i]? = some s) (h2 : l[j]? = some s) : i = j := by
 have hi := idx_lt h1
 have hj := idx_lt h2
 have e : l.getD i ByteArray.empty = l.getD j ByteArray.empty := by rw [List.getD_eq_getElem?_getD, List.getD_eq_getElem?_getD, h1, h2]
 have e1 := search_found h hi
 have e2 := search_found h hj
 rw [e] at e1
 omega
/-! one node more, behind all: the root -/
def topG (g : Tre.Graph) (x : Tre.Node) : Tre.Graph := ⟨g.ns ++ [x], g.ns.length⟩
section
variable {g h : Tre.Graph} {x : Tre.Node}
theorem top_len : (topG g x).ns.length = g.ns.length + 1 := by simp [topG]
theorem top_nd {a : Nat} (ha : a < g.ns.length) : (topG g x).nd a = g.nd a := by
 rw [Graph.nd_eq ha, Graph.nd_eq (by rw [top_len]; omega)]
 simp only [topG]
 rw [List.getElem_append_left ha]
theorem top_last : (topG g x).nd g.ns.length = x := by
 rw [Graph.nd_eq (by rw [top_len]; omega)]
 simp [topG]
theorem top_root : (topG g x).root.toNat = g.ns.length := by show ((g.ns.length : Nat) : Int).toNat = _; simp
theorem top_ok (c0 : g.checkC = 0) (hx : mayB x (g.ns.length + 1) = true) (hn : g.ns.length + 1 ≤ 1048576) : (topG g x).checkC = 0 := by
 have og := Graph.ok_of c0
 refine check_mk (by rw [top_len]; exact hn) (by show (0 : Int) ≤ (g.ns.length : Int); omega) (by rw [top_len]; show (g.ns.length : Int) < _; omega) (fun n hm => ?_)
 rw [top_len]
 rcases List.mem_append.1 hm with hm | hm
 ·exact mayB_mono (by omega) (og.mays n hm)
 ·rw [List.mem_singleton] at hm; subst hm; exact hx
theorem top_sim (og : g.Ok) : Sim g (topG g x) (fun a b => a = b ∧ a < g.ns.length) := by
 refine ⟨?_, ?_, ?_, ?_, ?_, ?_⟩
 ·rintro a _ ⟨rfl, h⟩; rw [top_len]; exact ⟨h, by omega⟩
 ·rintro a _ ⟨rfl, h⟩; rw [top_nd h]
 ·rintro a _ ⟨rfl, h⟩; rw [top_nd h]
 ·rintro a _ ⟨rfl, h⟩; rw [top_nd h]
 ·rintro a _ ⟨rfl, h⟩; unfold Graph.deg; rw [top_nd h]
 ·rintro a _ i ⟨rfl, h⟩ hi; exact ⟨by unfold Graph.kid; rw [top_nd h], og.kid_lt h hi⟩
theorem top_shut (og : g.Ok) (sg : g.Shut) (hf : freeB x = false) (hk : ∀ b ∈ x.args.map Int.toNat, Rch g g.root.toNat b) : (topG g x).Shut := by
 have key : ∀ a, Rch (topG g x) (topG g x).root.toNat a → a = g.ns.length ∨ Rch g g.root.toNat a := by
  intro a ha
  rw [top_root] at ha
  induction ha with
  | refl => exact .inl rfl
  | @step b c hb hc ih =>
   rcases ih with rfl | ih
   ·unfold Graph.kids at hc
    rw [top_last] at hc
    exact .inr (hk c hc)
   ·refine .inr (ih.step ?_)
    unfold Graph.kids at hc ⊢
    rwa [top_nd (ih.lt og og.root1)] at hc
 intro a ha
 rcases key a ha with rfl | h1
 ·rw [top_last]; exact hf
 ·rw [top_nd (h1.lt og og.root1)]; exact sg a h1
end
theorem sub_sum {l m : List ByteArray} (s : l.Sublist m) : (l.map fun s => s.size + 1).sum ≤ (m.map fun s => s.size + 1).sum := by
 induction s with
 | slnil => exact Nat.le_refl _
 | cons a _ ih => simp only [List.map_cons, List.sum_cons]; omega
 | cons_cons a _ ih => simp only [List.map_cons, List.sum_cons]; omega
/-! without a label -/
def lessN (n : Tre.Node) (i : Nat) : Tre.Node := { n with labels := n.labels.eraseIdx i, args := n.args.eraseIdx i }
def lessTop (g : Tre.Graph) (i : Nat) : Tre.Graph := topG g (lessN (g.nd g.root.toNat) i)
def Graph.lessG (g : Tre.Graph) (i : Nat) : Tre.Graph := (lessTop g i).trim
section
variable {g h k : Tre.Graph} {i : Nat}
theorem less_may (og : g.Ok) (h3 : (g.nd g.root.toNat).kind = 3) (hi : i < (g.nd g.root.toNat).labels.length) : mayB (lessN (g.nd g.root.toNat) i) g.ns.length = true := by
 have h := og.may _ og.root1
 have hd := obj_deg og og.root1 h3
 unfold mayB at *
 rw [if_neg (by rw [h3]; decide), if_neg (by rw [h3]; decide), if_pos h3] at h
 have k3 : (lessN (g.nd g.root.toNat) i).kind = 3 := h3
 rw [if_neg (by rw [k3]; decide), if_neg (by rw [k3]; decide), if_pos k3]
 simp only [Bool.and_eq_true, Bool.not_eq_true', List.any_eq_false, decide_eq_true_iff] at *
 refine ⟨fun x hx => h.1 x (List.mem_of_mem_eraseIdx hx), ⟨h.2.1.1, ?_⟩, rising_sub h.2.2 (List.eraseIdx_sublist ..)⟩
 have e := h.2.1.2
 show (List.eraseIdx _ i).length = (List.eraseIdx _ i).length
 rw [List.length_eraseIdx, List.length_eraseIdx, e]
theorem less_top_ok (c0 : g.checkC = 0) (h3 : (g.nd g.root.toNat).kind = 3) (hi : i < (g.nd g.root.toNat).labels.length) (hn : g.ns.length + 1 ≤ 1048576) : (lessTop g i).checkC = 0 :=
 top_ok c0 (mayB_mono (by omega) (less_may (Graph.ok_of c0) h3 hi)) hn
theorem less_ok (c0 : g.checkC = 0) (h3 : (g.nd g.root.toNat).kind = 3) (hi : i < (g.nd g.root.toNat).labels.length) (hn : g.ns.length + 1 ≤ 1048576) : (g.lessG i).checkC = 0 := trim_ok (less_top_ok c0 h3 hi hn)
theorem less_top_shut (og : g.Ok) (h3 : (g.nd g.root.toNat).kind = 3) (sg : g.Shut) : (lessTop g i).Shut := by
 refine top_shut og sg (by have := sg _ .refl; exact this) (fun b hb => ?_)
 refine Rch.refl.step ?_
 obtain ⟨z, hz, rfl⟩ := List.mem_map.1 hb
 exact List.mem_map.2 ⟨z, List.mem_of_mem_eraseIdx hz, rfl⟩
theorem less_shut (c0 : g.checkC = 0) (h3 : (g.nd g.root.toNat).kind = 3) (hi : i < (g.nd g.root.toNat).labels.length) (hn : g.ns.length + 1 ≤ 1048576) (sg : g.Shut) : (g.lessG i).Shut :=
 shut_same (trim_same (less_top_ok c0 h3 hi hn)) (less_top_shut (Graph.ok_of c0) h3 sg)
theorem erase_at {α : Type} (l : List α) (i j : Nat) : (l.eraseIdx i)[j]? = l[if j < i then j else j + 1]? := by
 rw [List.getElem?_eraseIdx]
 split <;> rfl
theorem less_sub_top (c0 : g.checkC = 0) (h3 : (g.nd g.root.toNat).kind = 3) (hi : i < (g.nd g.root.toNat).labels.length) (hn : g.ns.length + 1 ≤ 1048576) : SubAt g (lessTop g i) g.root.toNat g.ns.length false := by
 have og := Graph.ok_of c0
 have ot := Graph.ok_of (less_top_ok c0 h3 hi hn)
 have hr := (obj_deg og og.root1 h3).2
 have hd := (obj_deg og og.root1 h3).1
 have e : (lessTop g i).nd g.ns.length = lessN (g.nd g.root.toNat) i := top_last
 refine .mk ⟨by rw [e]; rfl, by rw [e]; rfl, fun _ => ⟨by simp, fun _ s hs => ?_⟩⟩ (fun a' b' t' f => ?_)
 ·rw [e] at hs; exact List.mem_of_mem_eraseIdx hs
 ·rcases f with ⟨_, rfl, p, q, s, h1, h2, rfl, rfl⟩ | ⟨h4, _⟩
  ·rw [e] at h2
   have h2' : (g.nd g.root.toNat).labels[if q < i then q else q + 1]? = some s := by rw [← erase_at]; exact h2
   have hpq := rising_inj hr h1 h2'
   have ek : (lessTop g i).kid g.ns.length q = g.kid g.root.toNat p := by
    unfold Graph.kid
    rw [e, List.getD_eq_getElem?_getD, List.getD_eq_getElem?_getD, hpq]
    show (((g.nd g.root.toNat).args.eraseIdx i)[q]?.getD (0 : Int)).toNat = _
    rw [erase_at]
   rw [ek]
   have hl : g.kid g.root.toNat p < g.ns.length := og.kid_lt og.root1 (by rw [← hd]; exact idx_lt h1)
   exact (SubAt.refl og hl).sim og og (Sim.id og) (top_sim og) ⟨rfl, hl⟩ ⟨rfl, hl⟩
  ·exact absurd h3 h4
theorem less_sub (c0 : g.checkC = 0) (h3 : (g.nd g.root.toNat).kind = 3) (hi : i < (g.nd g.root.toNat).labels.length) (hn : g.ns.length + 1 ≤ 1048576) : subB g (g.lessG i) = true := by
 show subB g (lessTop g i).trim = true
 rw [← (sub_same (trim_same (less_top_ok c0 h3 hi hn)) g (Graph.ok_of c0)).2, subB_iff]
 have := less_sub_top c0 h3 hi hn
 rwa [← show (lessTop g i).root.toNat = g.ns.length from top_root] at this
theorem less_top_weight (og : g.Ok) : (lessTop g i).weight ≤ 2 * g.weight := by
 have h1 : (g.nd g.root.toNat).weight ≤ g.weight := by
  rw [Graph.nd_eq og.root1]
  exact node_weight (List.getElem_mem og.root1)
 have h2 : (lessN (g.nd g.root.toNat) i).weight ≤ (g.nd g.root.toNat).weight := by
  unfold Node.weight lessN
  have a1 : ((g.nd g.root.toNat).args.eraseIdx i).length ≤ (g.nd g.root.toNat).args.length := (List.eraseIdx_sublist ..).length_le
  have a2 : (((g.nd g.root.toNat).labels.eraseIdx i).map fun s => s.size + 1).sum ≤ ((g.nd g.root.toNat).labels.map fun s => s.size + 1).sum := sub_sum (List.eraseIdx_sublist ..)
  simp only
  omega
 unfold Graph.weight lessTop topG at *
 simp only [List.map_append, List.sum_append, List.map_cons, List.map_nil, List.sum_cons, List.sum_nil] at *
 omega
theorem less_weight (og : g.Ok) : (g.lessG i).weight ≤ 2 * g.weight := Nat.le_trans (Graph.trim_weight _) (less_top_weight og)
end
end Go.Tre
namespace Go.Tre
theorem kids_getD (g : Tre.Graph) (a i : Nat) : (g.kids a).getD i 0 = g.kid a i := by
 unfold Graph.kids Graph.kid
 rw [List.getD_eq_getElem?_getD, List.getD_eq_getElem?_getD, List.getElem?_map]
 cases (g.nd a).args[i]? <;> rfl
theorem mem_objP {F M : List ByteArray} {fs ms : List Nat} {p : Nat × Nat} (hr : rising M = true) (hall : ∀ s ∈ F, s ∈ M) :
  p ∈ objP F M fs ms ↔ ∃ i j s, F[i]? = some s ∧ M[j]? = some s ∧ p.1 = fs.getD i 0 ∧ p.2 = ms.getD j 0 := by
 unfold objP
 rw [List.mem_map]
 constructor
 ·rintro ⟨i, hi, rfl⟩
  have hi' : i < F.length := List.mem_range.1 hi
  have hs : F[i]? = some F[i] := List.getElem?_eq_getElem hi'
  refine ⟨i, M.idxOf F[i], F[i], hs, idxOf_at (hall _ (List.getElem_mem hi')), rfl, ?_⟩
  show ms.getD (M.idxOf (F.getD i ByteArray.empty)) 0 = _
  rw [List.getD_eq_getElem?_getD (l := F), hs, Option.getD_some]
 ·rintro ⟨i, j, s, h1, h2, h3, h4⟩
  refine ⟨i, List.mem_range.2 (List.getElem?_eq_some_iff.1 h1).1, ?_⟩
  obtain ⟨p1, p2⟩ := p
  have hj : M.idxOf s = j := rising_inj hr (idxOf_at (List.mem_of_getElem? h2)) h2
  rw [List.getD_eq_getElem?_getD (l := F), h1, Option.getD_some, hj]
  show (fs.getD i 0, ms.getD j 0) = (p1, p2)
  rw [← h3, ← h4]
theorem mem_folL {g h : Tre.Graph} {a b : Nat} {t : Bool} (og : g.Ok) (oh : h.Ok) (ha : a < g.ns.length) (hb : b < h.ns.length) (ho : FolOk g h a b t) (c : Claim) :
  c ∈ folL (g.nd a) (h.nd b) (g.kids a) (h.kids b) t ↔ Fol g h a b t c.1 c.2.1 c.2.2 := by
 obtain ⟨c1, c2, c3⟩ := c
 by_cases h3 : (g.nd a).kind = 3
 ·rw [folL_obj h3, List.mem_map]
  have hrx := (obj_deg og ha h3).2
  have hry := (obj_deg oh hb (by rw [← ho.1]; exact h3)).2
  have key : Fol g h a b t c1 c2 c3 ↔ c3 = t ∧ ∃ i j s, (g.nd a).labels[i]? = some s ∧ (h.nd b).labels[j]? = some s ∧ c1 = g.kid a i ∧ c2 = h.kid b j := by
   constructor
   ·rintro (⟨_, h1, h2⟩ | ⟨hn, _⟩)
    ·exact ⟨h1, h2⟩
    ·exact absurd h3 hn
   ·rintro ⟨h1, h2⟩; exact .inl ⟨h3, h1, h2⟩
  show _ ↔ Fol g h a b t c1 c2 c3
  rw [key]
  cases t with
  | true =>
   have hall := (ho.2.2 h3).1 rfl
   constructor
   ·rintro ⟨p, hp, e⟩
    obtain ⟨i, j, s, h1, h2, h4, h5⟩ := (mem_objP hry hall).1 (by simpa using hp)
    simp only [mkC, if_true, Prod.mk.injEq] at e
    rw [kids_getD] at h4 h5
    exact ⟨e.2.2.symm, i, j, s, h1, h2, by rw [← e.1, h4], by rw [← e.2.1, h5]⟩
   ·rintro ⟨rfl, i, j, s, h1, h2, rfl, rfl⟩
    refine ⟨(g.kid a i, h.kid b j), ?_, by simp [mkC]⟩
    rw [if_pos rfl]
    exact (mem_objP hry hall).2 ⟨i, j, s, h1, h2, (kids_getD ..).symm, (kids_getD ..).symm⟩
  | false =>
   have hall := (ho.2.2 h3).2 rfl
   constructor
   ·rintro ⟨p, hp, e⟩
    obtain ⟨i, j, s, h1, h2, h4, h5⟩ := (mem_objP hrx hall).1 (by simpa using hp)
    simp only [mkC] at e
    rw [kids_getD] at h4 h5
    simp at e
    exact ⟨e.2.2, j, i, s, h2, h1, by rw [← e.1, h5], by rw [← e.2.1, h4]⟩
   ·rintro ⟨rfl, i, j, s, h1, h2, rfl, rfl⟩
    refine ⟨(h.kid b j, g.kid a i), ?_, by simp [mkC]⟩
    rw [if_neg (by simp)]
    exact (mem_objP hrx hall).2 ⟨j, i, s, h2, h1, (kids_getD ..).symm, (kids_getD ..).symm⟩
 ·rw [← mem_conL h3, folL_con h3]
  unfold conL
  rw [Graph.kids_len]
  simp only [kids_getD]
theorem folL_len {g h : Tre.Graph} {a b : Nat} {t : Bool} (og : g.Ok) (oh : h.Ok) (ha : a < g.ns.length) (hb : b < h.ns.length) (ho : FolOk g h a b t) : (folL (g.nd a) (h.nd b) (g.kids a) (h.kids b) t).length ≤ g.deg a + h.deg b := by
 by_cases h3 : (g.nd a).kind = 3
 ·rw [folL_obj h3, List.length_map]
  have hrx := (obj_deg og ha h3).1
  have hry := (obj_deg oh hb (by rw [← ho.1]; exact h3)).1
  cases t
  ·rw [if_neg (by simp), objP_len]; omega
  ·rw [if_pos rfl, objP_len]; omega
 ·rw [folL_con h3, List.length_map, List.length_range, Graph.kids_len]; omega
end Go.Tre
namespace Go.Proofs.YtoieknnnadgfpaaGreatDoor.gr
open Go.RowKit Go.Shelf Go.Maps Go.Tre lex
set_option maxRecDepth 100000 in
theorem follows_any (g h : Tre.Graph) (a b : Nat) (t : Bool) (bP b1 o1 cg b2 o2 ch : Nat) (w : World) (p0 : w.cell? ⟨bP, 0, none⟩ = some (.slice (some ⟨b1, o1, none⟩) g.ns.length cg)) (p2 : w.cell? ⟨bP, 2, none⟩ = some (.slice (some ⟨b2, o2, none⟩) h.ns.length ch))
  (hg : NodesAt w (some ⟨b1, o1, none⟩) g.ns) (hh : NodesAt w (some ⟨b2, o2, none⟩) h.ns) (og : g.Ok) (oh : h.Ok) (ha : a < g.ns.length) (hb : b < h.ns.length) (wg : g.weight ≤ 2097152) (wh : h.weight ≤ 2097152) :
  Calls Tryz.prog 37 #[.pointer (some ⟨bP, 0, none⟩), .agg #[.int .i64 (a : Int), .int .i64 (b : Int), .bool t]] w fun e w' =>
   (∃ (v : Value) (l : List Tre.Claim), e = .returned (.tuple #[v, .bool true]) ∧ FolOk g h a b t ∧ (∀ c : Tre.Claim, c ∈ l ↔ Fol g h a b t c.1 c.2.1 c.2.2) ∧ l.length ≤ g.deg a + h.deg b ∧ Mem w w' [rowR 85 3 v l.length (ccells l)]) ∨
   (∃ v, e = .returned (.tuple #[v, .bool false]) ∧ ¬ FolOk g h a b t ∧ Below w.heap.size w w') := by
 obtain ⟨b1', o1', e0, nx⟩ := hg.at_ a (g.nd a) (by rw [Graph.nd_eq ha]; exact List.getElem?_eq_getElem ha)
 cases e0
 obtain ⟨b2', o2', e0, ny⟩ := hh.at_ b (h.nd b) (by rw [Graph.nd_eq hb]; exact List.getElem?_eq_getElem hb)
 cases e0
 obtain ⟨ax, cx, lx, dx, x0, x1, x2, x3, x4, xA, xL, _, _⟩ := nx
 obtain ⟨ay, cy, ly, dy, y0, y1, y2, y3, y4, yA, yL, _, _⟩ := ny
 have hdx := deg_weight g a
 have hdy := deg_weight h b
 refine (follows_node (g.nd a) (h.nd b) ax ay lx ly cx cy dx dy (g.kids a) (h.kids b) t a b g.ns.length h.ns.length bP b1 o1 cg b2 o2 ch w p0 p2 ha hb x0 x1 x2 x3 x4 y0 y1 y2 y3 y4 xA xL yA yL (og.kids_eq ha) (oh.kids_eq hb)
  (fun h3 => obj_deg og ha h3) (fun h3 => obj_deg oh hb h3) (fun hk hn h3 => same_deg og oh ha hb hk hn h3) (fun h3 hn => ?_) (by have : (g.nd a).args.length = g.deg a := rfl; omega) (by have : (h.nd b).args.length = h.deg b := rfl; omega)).mono ?_
 ·rcases node_kind og ha with e | e | e
  ·have := og.may a ha
   unfold mayB at this
   rw [Bool.and_eq_true, if_pos e] at this
   simp only [Bool.and_eq_true, decide_eq_true_iff] at this
   rw [hn] at this
   exact absurd this.2.1.2 (by decide)
  ·have := con_deg og ha e
   rw [hn, show arity arrowB = some 2 by decide] at this
   injection this with this
   unfold Graph.deg at this
   omega
  ·exact absurd e h3
 ·rintro e w' (⟨v, l, rfl, ho, rfl, m⟩ | ⟨v, rfl, ho, m⟩)
  ·exact .inl ⟨v, _, rfl, ho, mem_folL og oh ha hb ho, folL_len og oh ha hb ho, m⟩
  ·exact .inr ⟨v, rfl, ho, m⟩
theorem rowCL : 85 < Tryz.prog.types.size := of_decide_eq_true (by kernel_rfl)
theorem wideCL : (match Tryz.prog.underlying 85 with | some (.array _ _) | some (.struct _) => true | _ => false) = true := by kernel_rfl
set_option maxRecDepth 100000 in
theorem KCL : Keyed Tryz.prog 85 := Keyed.of_law (deep_law_laid laidOut (m := 3) (by omega) rowCL (by kernel_rfl) wideCL)
theorem kcl (c : Tre.Claim) (ha : c.1 ≤ 8388608) (hb : c.2.1 ≤ 8388608) : ∃ l, keyOf Tryz.prog 85 (ec c) = some l := by
 obtain ⟨a, b, t⟩ := c
 have h1 : Tryz.prog.keyType 85 = true := by kernel_rfl
 have h2 : (Value.agg #[.int .i64 a, .int .i64 b, .bool t]).formed Tryz.prog 85 = true := by kernel_rfl
 have c44 : Tryz.prog.cellsOf 85 = 3 := by kernel_rfl
 have c3 : Tryz.prog.cellsOf 3 = 1 := by kernel_rfl
 have c4 : Tryz.prog.cellsOf 4 = 1 := by kernel_rfl
 obtain ⟨m, hm⟩ : ∃ m, Tryz.prog.types.size = m + 1 := Nat.exists_eq_succ_of_ne_zero (by have := rowCL; omega)
 have ha : a ≤ 8388608 := ha
 have hb : b ≤ 8388608 := hb
 have wa : (Lit.int .i64 (a : Int)).wf = true := by simp [Lit.wf, IntKind.min, IntKind.max, IntKind.signed, IntKind.bits]; omega
 have wb : (Lit.int .i64 (b : Int)).wf = true := by simp [Lit.wf, IntKind.min, IntKind.max, IntKind.signed, IntKind.bits]; omega
 have h3 : (Tryz.prog.keyLits (Tryz.prog.types.size + 1) 85 [.int .i64 (a : Int), .int .i64 (b : Int), .bool t]) = some [.int .i64 (a : Int), .int .i64 (b : Int), .bool t] := by
  rw [hm]
  simp [Program.keyLits, Tryz.underlying85, Tryz.underlying3, Tryz.underlying4, c44, c3, c4, wa, wb]
 refine ⟨.string (keyBytes [.int .i64 (a : Int), .int .i64 (b : Int), .bool t]), ?_⟩
 show keyOf Tryz.prog 85 (.agg #[.int .i64 (a : Int), .int .i64 (b : Int), .bool t]) = _
 unfold keyOf
 rw [Tryz.underlying85]
 simp only [h1, h2, Bool.and_self, if_true]
 show Option.map _ (Tryz.prog.keyLits (Tryz.prog.types.size + 1) 85 [.int .i64 (a : Int), .int .i64 (b : Int), .bool t]) = _
 rw [h3]
 rfl
end Go.Proofs.YtoieknnnadgfpaaGreatDoor.gr
namespace Go.Proofs.YtoieknnnadgfpaaGreatDoor.gr
open Go.RowKit Go.Shelf Go.Maps Go.Tre lex

set_option maxRecDepth 100000 in
set_option maxHeartbeats 2000000 in
theorem freeF_any (a : Option Addr) (ca : Nat) (g : Tre.Graph) (w : World) (hg : NodesAt w a g.ns) (wg : g.weight ≤ 2097152) (hm : MaxAt w) :
  Calls Tryz.prog 26 #[.agg #[.slice a g.ns.length ca, .int .i64 g.root]] w fun e w' =>
   ∃ v, e = .returned v ∧ Mem w w' [rowR 3 1 v g.freeL.length (g.freeL.map rk)] := by
 have M0 : Mem w (w.alloc (.cells #[.slice a g.ns.length ca, .int .i64 g.root] 24)) [cellsR w.heap.size 24 #[.slice a g.ns.length ca, .int .i64 g.root]] := (Mem.nil w).allocR _ _
 have HM := Tre.hid hm
 have HG := Tre.hid hg
 have HM0 := Tre.hid M0
 have hrl := g.reach_lt
 have HRL := Tre.hid hrl
 have hln : g.reachL.length ≤ 2097152 := Nat.le_trans g.reach_len wg
 clear hg hm M0 hrl
 go_enter Tryz.func26, Tryz.ntmps26
 go_wp2_with fail
 refine (reach_any a ca g _ (HG.out.below HM0.out.below) wg (HM.out.below HM0.out.below)).mono ?_
 rintro e w1 ⟨vl, rfl, m1⟩
 have M1 := HM0.out.call m1
 obtain ⟨al, cl, rfl, hcl⟩ := M1.val 0 rfl
 have HM1 := Tre.hid M1
 obtain ⟨ii, I1, I2, I3, I4⟩ := info_parts infoI
 have J1 := Tre.hid I1
 have J2 := Tre.hid I2
 have J3 := Tre.hid I3
 have J4 := Tre.hid I4
 clear m1 M1 I1 I2 I3 I4
 generalize hL : g.reachL = L at *
 have HL := Tre.hid hL
 clear hL
 go_wp2_with fail
 go_loopw [2, 8] (fun v2 v8 wr => ∃ k : Nat, k ≤ L.length ∧ v8 = .int .i64 k ∧
   Hid (Mem w wr [rowR 3 1 v2 ((L.take k).filter fun i => freeB (g.nd i)).length (((L.take k).filter fun i => freeB (g.nd i)).map rk), rowR 3 1 (.slice al L.length cl) L.length (L.map rk), cellsR w.heap.size 24 #[.slice a g.ns.length ca, .int .i64 g.root]]))
  (fun _ v8 _ => L.length - (intOf v8).toNat)
 case atStart => exact ⟨0, Nat.zero_le _, rfl, HM1.out.addNil _ _⟩
 case round =>
  obtain ⟨k, hk, rfl, hM⟩ := hrel
  by_cases hlt : k < L.length
  ·obtain ⟨x, hx⟩ : ∃ x, L[k]? = some x := ⟨_, List.getElem?_eq_getElem hlt⟩
   obtain ⟨gl, rfl, hgl, hgl2, hcl⟩ := hM.out.getRow 1 rfl k (u := rk x) (by rw [List.getElem?_map, hx]; rfl)
   have hxl : x < g.ns.length := HRL.out x (List.mem_of_getElem? hx)
   have hft := filter_take (fun i => freeB (g.nd i)) L k x hx
   have HFT := Tre.hid hft
   obtain ⟨b1, o1, rfl, nx⟩ := (HG.out.below hM.out.below).at_ x (g.nd x) (by rw [Graph.nd_eq hxl]; exact List.getElem?_eq_getElem hxl)
   generalize hX : g.nd x = X at *
   have HX := Tre.hid hX
   obtain ⟨ax, cx, lx, dx, x0, x1, x2, x3, x4, xA, xL, _, _⟩ := nx
   have c0 : wr.cell? ⟨w.heap.size, 0, none⟩ = some (.slice (some ⟨b1, o1, none⟩) g.ns.length ca) := hM.out.cell 2 rfl 0 rfl
   have hcl' : wr.cell? ⟨gl, k, none⟩ = some (.int .i64 (x : Int)) := hcl
   clear hX hft hcl hx xA xL
   have hlen : ((L.take k).filter fun i => freeB (g.nd i)).length ≤ 2097152 := Nat.le_trans (List.length_filter_le _ _) (Nat.le_trans (List.length_take_le' _ _) hln)
   generalize hO : (L.take k).filter (fun i => freeB (g.nd i)) = O at *
   have HO := Tre.hid hO
   clear hO
   by_cases hf : freeB X = true
   ·have HF := Tre.hid hf
    clear hf
    go_wp2_with (first
     | (go_at_call 33; refine (free_any X _ _ _ _ _).mono ?_; rintro e w2 ⟨rfl, b2⟩; rw [HF.out]; have hN := (hM.out.quiet b2).alloc (.cells #[.int .i64 (x : Int)] 3); have HN := Tre.hid hN; clear hN b2)
     | (at_builtin; refine wpList_append_own_at _ rfl _ _ 30 rfl 0 3 ii _ 1 8 Tryz.underlying30 J1.out J2.out J3.out J4.out rfl (by omega) u2 O.length (O.map rk) rfl (HN.out.row 0 rfl) ⟨w2.heap.size, 0, none⟩ 1 1 [.int .i64 (x : Int)] rfl rfl (cell_one_new _ _ _) (by simp [Value.oneCell']) (by unfold maxLen; omega) (by omega) (Nat.zero_le _) ?_; intro v' w4 hown4 hgrow4 hnil4 hat4; have M4 := HN.out.grow 0 rfl hgrow4 hown4 hat4; have HM4 := Tre.hid M4; clear M4 hown4 hgrow4 hnil4 hat4))
    go_roundw
    case rel =>
     refine ⟨k + 1, by omega, by go_num, ?_⟩
     have e : (L.take (k + 1)).filter (fun i => freeB (g.nd i)) = O ++ [x] := by rw [HFT.out, HF.out]; rfl
     rw [e, List.length_append, List.length_singleton, List.map_append]
     exact HM4.out
    case measure => simp [intOf]; omega
   ·have hf' : freeB X = false := by simpa using hf
    have HF := Tre.hid hf'
    clear hf hf'
    go_wp2_with (first
     | (go_at_call 33; refine (free_any X _ _ _ _ _).mono ?_; rintro e w2 ⟨rfl, b2⟩; rw [HF.out]; have hN := hM.out.quiet b2; have HN := Tre.hid hN; clear hN b2))
    go_roundw
    case rel =>
     refine ⟨k + 1, by omega, by go_num, ?_⟩
     have e : (L.take (k + 1)).filter (fun i => freeB (g.nd i)) = O := by rw [HFT.out, HF.out]; simp
     rw [e]
     exact HN.out
    case measure => simp [intOf]; omega
  ·have e : L.take k = L := List.take_of_length_le (by omega)
   have hM' := hM.out
   rw [e] at hM'
   have HMM := Tre.hid hM'
   clear e hM' hM
   obtain ⟨ao, co, rfl, _⟩ := HMM.out.val 0 rfl
   go_wp2_with fail
   go_ret
   refine ⟨_, rfl, ?_⟩
   unfold Graph.freeL
   rw [HL.out]
   exact HMM.out.sub (by simp)
end Go.Proofs.YtoieknnnadgfpaaGreatDoor.gr
namespace Go.Proofs.YtoieknnnadgfpaaGreatDoor.gr
open Go.RowKit Go.Shelf Go.Maps Go.Tre lex
def closedB (g : Tre.Graph) : Bool := decide (g.checkC = 0) && decide (g.freeL.length = 0)
theorem closed_any (a : Option Addr) (ca : Nat) (g : Tre.Graph) (w : World) (hg : NodesAt w a g.ns) (wg : g.weight ≤ 2097152) (hm : MaxAt w) :
  Calls Tryz.prog 14 #[.agg #[.slice a g.ns.length ca, .int .i64 g.root]] w fun e w' => e = .returned (.bool (closedB g)) ∧ Below w.heap.size w w' := by
 have HM0 := Tre.hid ((Mem.nil w).allocR #[.slice a g.ns.length ca, .int .i64 g.root] 24)
 have CK := Tre.hid (check_any a ca g _ (hg.below HM0.out.below) (by omega) (hm.below HM0.out.below))
 have HG := Tre.hid hg
 have HX := Tre.hid hm
 clear hg hm
 by_cases c0 : g.checkC = 0
 ·have CK2 := CK.out
  rw [c0] at CK2
  have HCK := Tre.hid CK2
  have HC : Hid (closedB g = decide (g.freeL.length = 0)) := by show _ = _; unfold closedB; rw [decide_eq_true c0, Bool.true_and]
  clear CK CK2 c0
  go_enter Tryz.func14, Tryz.ntmps14
  go_wp2_with fail
  refine HCK.out.mono ?_
  rintro e w1 ⟨rfl, b1⟩
  have HM1 := Tre.hid (HM0.out.quiet b1)
  obtain ⟨g0, g1⟩ := HM1.out.two 0 rfl
  clear b1 HCK
  go_wp2_with fail
  refine (freeF_any a ca g _ (HG.out.below HM1.out.below) wg (HX.out.below HM1.out.below)).mono ?_
  rintro e w2 ⟨v, rfl, mq⟩
  obtain ⟨aF, cF, rfl, _⟩ := mq.val 0 rfl
  have HB := Tre.hid (HM1.out.quiet mq.below).below
  clear mq g0 g1 HM1 HM0 HG HX
  go_wp2_with fail
  go_ret
  exact ⟨ret_bool (by rw [HC.out]; first | rfl | (rw [Bool.eq_iff_iff]; simp) | (rw [Bool.eq_iff_iff]; simp; omega)), HB.out⟩
 ·have HC : Hid (closedB g = false) := by show _ = _; unfold closedB; rw [decide_eq_false c0, Bool.false_and]
  have hc1 : (g.checkC == 0) = false := by simpa using c0
  clear c0
  go_enter Tryz.func14, Tryz.ntmps14
  go_wp2_with fail
  refine CK.out.mono ?_
  rintro e w1 ⟨rfl, b1⟩
  have HB := Tre.hid (HM0.out.quiet b1).below
  clear b1 CK
  go_wp2_with fail
  go_ret
  exact ⟨ret_bool HC.out.symm, HB.out⟩

end Go.Proofs.YtoieknnnadgfpaaGreatDoor.gr
