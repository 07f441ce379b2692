/- Layer 13: the laws, plain. Layer 9, plain: how nodes look; classes, refined; what a class that is refined no more tells. -/
import Derived.Test.YtaleodkbghogfaaGreatDoorB17
import Derived.Test.YtaleodkbghogfaaGreatDoorB07
import Derived.Lib.ItoaMem
set_option linter.unusedVariables false
namespace Go.Tre
section
variable {g : Tre.Graph} {mono : List Nat}
/-! with more monos -/
theorem generic_more (h : g.checkC = 0) {more : Nat} (hm : more < g.ns.length) (hl : ∀ a ∈ mono, a < g.ns.length) : ∀ i ∈ g.genericL (more :: mono), i ∈ g.genericL mono := by
 have og := Graph.ok_of h
 intro i hi
 rw [Graph.mem_generic og (fun a ha => by rcases List.mem_cons.1 ha with rfl | ha; exact hm; exact hl a ha)] at hi
 rw [Graph.mem_generic og hl]
 exact ⟨hi.1, fun ⟨m, h1, h2⟩ => hi.2.1 ⟨m, by simp [h1], h2⟩, hi.2.2⟩
theorem fixed_more (h : g.checkC = 0) {more : Nat} (hm : more < g.ns.length) (hl : ∀ a ∈ mono, a < g.ns.length) : ∀ i ∈ g.fixedL mono, i ∈ g.fixedL (mono ++ [more]) := by
 have og := Graph.ok_of h
 intro i hi
 rw [Graph.mem_fixed og hl] at hi
 rw [Graph.mem_fixed og (fun a ha => by rcases List.mem_append.1 ha with ha | ha; exact hl a ha; simp at ha; rw [ha]; exact hm)]
 obtain ⟨h1, h2, m, h3, h4⟩ := hi
 exact ⟨h1, h2, m, by simp [h3], h4⟩
theorem fixed_twice (h : g.checkC = 0) (hl : ∀ a ∈ mono, a < g.ns.length) : g.fixedL (mono ++ mono) = g.fixedL mono := by
 have og := Graph.ok_of h
 unfold Graph.fixedL
 congr 1
 funext i
 congr 1
 rw [Bool.eq_iff_iff, Graph.markB_iff og hl, Graph.markB_iff og (fun a ha => by rcases List.mem_append.1 ha with ha | ha <;> exact hl a ha)]
 exact ⟨fun ⟨m, h1, h2⟩ => ⟨m, by simpa using h1, h2⟩, fun ⟨m, h1, h2⟩ => ⟨m, by simp [h1], h2⟩⟩
/-! without monos; with the root -/
theorem free_of_reach (h : g.checkC = 0) {i : Nat} : i ∈ g.freeL ↔ Rch g g.root.toNat i ∧ freeB (g.nd i) = true := by
 unfold Graph.freeL
 rw [List.mem_filter, Graph.mem_reach h]
theorem fresh_same (h : g.checkC = 0) (hs : g.ns.length + (g.copiesL []).length ≤ 1048576) : SameG (g.freshG []) g := by
 have og := Graph.ok_of h
 have hl : ∀ a ∈ ([] : List Nat), a < g.ns.length := by simp
 have all : ∀ a b, RP (g.freshG []) g a b → Rch g g.root.toNat b ∧ a = nowF g.ns.length (g.copiesL []) b := fun a b r => by
  induction r with
  | root => exact ⟨.refl, Graph.fresh_root⟩
  | @kid a b i _ h1 h2 ih =>
   obtain ⟨hb, rfl⟩ := ih
   have hbl := hb.lt og og.root1
   have e1 : (g.freshG []).kid (nowF g.ns.length (g.copiesL []) b) i = ((g.freshG []).kids (nowF g.ns.length (g.copiesL []) b)).getD i 0 := by
    unfold Graph.kid Graph.kids; rw [List.getD_eq_getElem?_getD, List.getD_eq_getElem?_getD, List.getElem?_map]
    cases ((g.freshG []).nd (nowF g.ns.length (g.copiesL []) b)).args[i]? <;> rfl
   have e2 : g.kid b i = (g.kids b).getD i 0 := by
    unfold Graph.kid Graph.kids; rw [List.getD_eq_getElem?_getD, List.getD_eq_getElem?_getD, List.getElem?_map]
    cases (g.nd b).args[i]? <;> rfl
   have hi : i < (g.kids b).length := by rw [g.kids_len]; exact h2
   have hm : (g.kids b)[i] ∈ g.kids b := List.getElem_mem hi
   rw [e1, e2, Graph.now_kids og h hl hb, List.getD_eq_getElem?_getD, List.getD_eq_getElem?_getD, List.getElem?_map, List.getElem?_eq_getElem hi]
   exact ⟨hb.step hm, rfl⟩
 refine ⟨Graph.fresh_check h hs, h, fun a b r => ?_, fun a b a' b' r r' _ => ?_⟩
 ·obtain ⟨hb, rfl⟩ := all a b r
  rw [Graph.now_nd og h hl hb]
  simp [alikeB, copyN]
 ·obtain ⟨hb, rfl⟩ := all a b r
  obtain ⟨hb', rfl⟩ := all a' b' r'
  exact ⟨fun e => nowF_inj (hb.lt og og.root1) (hb'.lt og og.root1) e, fun e => by rw [e]⟩
theorem fresh_free (h : g.checkC = 0) (hs : g.ns.length + (g.copiesL []).length ≤ 1048576) : ∀ i ∈ (g.freshG []).freeL, g.ns.length ≤ i := by
 have og := Graph.ok_of h
 have hl : ∀ a ∈ ([] : List Nat), a < g.ns.length := by simp
 intro i hi
 rw [free_of_reach (Graph.fresh_check h hs), Graph.fresh_reach h hl] at hi
 obtain ⟨⟨x, hx, rfl⟩, hf⟩ := hi
 rw [Graph.now_nd og h hl hx, freeB_copy] at hf
 have : x ∈ g.copiesL [] := (Graph.mem_copies h hl).2 ⟨hx, x, .refl, hf, by simp⟩
 unfold nowF
 rw [if_pos this]
 omega
theorem copies_root (h : g.checkC = 0) : g.copiesL [g.root.toNat] = [] := by
 have og := Graph.ok_of h
 cases hc : g.copiesL [g.root.toNat] with
 | nil => rfl
 | cons x r =>
  have hx : x ∈ g.copiesL [g.root.toNat] := by rw [hc]; simp
  rw [Graph.mem_copies h (fun a ha => by simp at ha; rw [ha]; exact og.root1)] at hx
  obtain ⟨h1, k, r1, _, h3⟩ := hx
  exact absurd ⟨g.root.toNat, by simp, h1.trans r1⟩ h3
theorem fresh_root_same (h : g.checkC = 0) : g.freshG [g.root.toNat] = g := by
 have og := Graph.ok_of h
 unfold Graph.freshG
 rw [copies_root h]
 have e : ((nowF g.ns.length [] g.root.toNat : Nat) : Int) = g.root := by unfold nowF; have := og.root0; simp; omega
 rw [e]
 simp
theorem copies_nil (h : g.checkC = 0) : g.copiesL [] = [] ↔ g.freeL = [] := by
 have hl : ∀ a ∈ ([] : List Nat), a < g.ns.length := by simp
 rw [List.eq_nil_iff_forall_not_mem, List.eq_nil_iff_forall_not_mem]
 constructor
 ·intro hc i hi
  rw [free_of_reach h] at hi
  exact hc i ((Graph.mem_copies h hl).2 ⟨hi.1, i, .refl, hi.2, by simp⟩)
 ·intro hf i hi
  obtain ⟨h1, k, r, h2, _⟩ := (Graph.mem_copies h hl).1 hi
  exact hf k ((free_of_reach h).2 ⟨h1.trans r, h2⟩)
/-! a type beside its copy -/
def besideG (g f : Tre.Graph) : Tre.Graph := ⟨f.ns ++ [starN g.root f.root], f.ns.length⟩
theorem len_of_mem {l k : List Nat} (h1 : l.Nodup) (h2 : k.Nodup) (h : ∀ a, a ∈ l ↔ a ∈ k) : l.length = k.length :=
 ((List.perm_ext_iff_of_nodup h1 h2).2 h).length_eq
theorem beside_free (h : g.checkC = 0) (hl : ∀ a ∈ mono, a < g.ns.length) (hs : g.ns.length + (g.copiesL mono).length < 1048576) : (besideG g (g.freshG mono)).checkC = 0 ∧ (besideG g (g.freshG mono)).freeL.length = g.freeL.length + (g.genericL mono).length := by
 have og := Graph.ok_of h
 have cf := Graph.fresh_check (mono := mono) h (by omega)
 have ofr := Graph.ok_of cf
 have hfl : (g.freshG mono).ns.length = g.ns.length + (g.copiesL mono).length := Graph.fresh_len
 have hbl : (besideG g (g.freshG mono)).ns.length = (g.freshG mono).ns.length + 1 := by simp [besideG]
 have fr0 := ofr.root0
 have fr1 := ofr.root1
 have gr0 := og.root0
 have gr1 := og.root1
 have cb : (besideG g (g.freshG mono)).checkC = 0 := by
  refine check_mk (by rw [hbl]; omega) (by show (0 : Int) ≤ ((_ : Nat) : Int); omega) (by rw [hbl]; show ((_ : Nat) : Int) < _; omega) (fun n hn => ?_)
  rw [hbl]
  unfold besideG at hn
  rcases List.mem_append.1 hn with hn | hn
  ·exact mayB_mono (by omega) (ofr.mays n hn)
  ·simp at hn; subst hn
   exact mayB_star gr0 (by omega) fr0 (by omega)
 refine ⟨cb, ?_⟩
 have ob := Graph.ok_of cb
 have ndo : ∀ i, i < (g.freshG mono).ns.length → (besideG g (g.freshG mono)).nd i = (g.freshG mono).nd i := fun i hi => by
  rw [Graph.nd_eq (by rw [hbl]; omega), Graph.nd_eq hi]
  exact List.getElem_append_left hi
 have ndl : (besideG g (g.freshG mono)).nd (g.freshG mono).ns.length = starN g.root (g.freshG mono).root := by
  have := nd_app (g.freshG mono).ns ((g.freshG mono).ns.length : Int) [starN g.root (g.freshG mono).root] 0
  rw [Nat.add_zero] at this
  exact this
 have kdo : ∀ i, i < (g.freshG mono).ns.length → (besideG g (g.freshG mono)).kids i = (g.freshG mono).kids i := fun i hi => by unfold Graph.kids; rw [ndo i hi]
 have kdl : (besideG g (g.freshG mono)).kids (g.freshG mono).ns.length = [g.root.toNat, (g.freshG mono).root.toNat] := by unfold Graph.kids; rw [ndl]; rfl
 have rt : (besideG g (g.freshG mono)).root.toNat = (g.freshG mono).ns.length := by show ((_ : Nat) : Int).toNat = _; simp
 have rch : ∀ z, Rch (besideG g (g.freshG mono)) (g.freshG mono).ns.length z ↔ z = (g.freshG mono).ns.length ∨ Rch g g.root.toNat z ∨ Rch (g.freshG mono) (g.freshG mono).root.toNat z := fun z => by
  constructor
  ·intro r
   induction r with
   | refl => exact .inl rfl
   | step _ hc ih =>
    rcases ih with rfl | ih | ih
    ·rw [kdl] at hc
     simp at hc
     rcases hc with rfl | rfl
     ·exact .inr (.inl .refl)
     ·exact .inr (.inr .refl)
    ·have hlt := ih.lt og gr1
     rw [kdo _ (by omega), Graph.old_kids hlt] at hc
     exact .inr (.inl (ih.step hc))
    ·have hlt := ih.lt ofr fr1
     rw [kdo _ hlt] at hc
     exact .inr (.inr (ih.step hc))
  ·rintro (rfl | r | r)
   ·exact .refl
   ·induction r with
    | refl => exact .head (by rw [kdl]; simp) .refl
    | step hb hc ih =>
     have hlt := hb.lt og gr1
     exact ih.step (by rw [kdo _ (by omega), Graph.old_kids hlt]; exact hc)
   ·induction r with
    | refl => exact .head (by rw [kdl]; simp) .refl
    | step hb hc ih =>
     have hlt := hb.lt ofr fr1
     exact ih.step (by rw [kdo _ hlt]; exact hc)
 have gen_copy : ∀ i, i ∈ g.genericL mono → i ∈ g.copiesL mono := fun i hi => by
  rw [Graph.mem_generic og hl] at hi
  exact (Graph.mem_copies h hl).2 ⟨hi.2.2, i, .refl, hi.1, hi.2.1⟩
 have e : (besideG g (g.freshG mono)).freeL.length = (g.freeL ++ (g.genericL mono).map (nowF g.ns.length (g.copiesL mono))).length := by
  refine len_of_mem (List.Nodup.sublist List.filter_sublist (Graph.reach_nodup _)) ?_ (fun z => ?_)
  ·refine List.nodup_append.2 ⟨List.Nodup.sublist List.filter_sublist (Graph.reach_nodup _), ?_, fun x hx y hy e => ?_⟩
   ·refine List.Pairwise.map _ (fun a b (hab : a ∈ g.genericL mono ∧ b ∈ g.genericL mono ∧ a ≠ b) => ?_) ((List.pairwise_iff_forall_sublist.2 ?_ : List.Pairwise (fun a b => a ∈ g.genericL mono ∧ b ∈ g.genericL mono ∧ a ≠ b) (g.genericL mono)))
    ·intro e
     exact hab.2.2 (nowF_inj (Graph.copies_lt (gen_copy _ hab.1)) (Graph.copies_lt (gen_copy _ hab.2.1)) e)
    ·intro a b hs
     have hn : (g.genericL mono).Nodup := List.Nodup.sublist List.filter_sublist List.nodup_range
     refine ⟨hs.subset (by simp), hs.subset (by simp), ?_⟩
     have := hn.sublist hs
     simp at this
     exact this
   ·obtain ⟨i, hi, rfl⟩ := List.mem_map.1 hy
    have hx' := ((free_of_reach h).1 hx).1.lt og gr1
    rw [e] at hx'
    unfold nowF at hx'
    rw [if_pos (gen_copy i hi)] at hx'
    omega
  ·rw [free_of_reach cb, rt, rch, List.mem_append, free_of_reach h]
   constructor
   ·rintro ⟨rfl | r | r, hf⟩
    ·rw [ndl] at hf
     exact absurd hf (by simp [freeB, starN])
    ·have hlt := r.lt og gr1
     rw [ndo z (by omega), Graph.fresh_old hlt] at hf
     exact .inl ⟨r, hf⟩
    ·have hlt := r.lt ofr fr1
     rw [ndo z hlt] at hf
     rw [Graph.fresh_reach h hl] at r
     obtain ⟨x, hx, rfl⟩ := r
     rw [Graph.now_nd og h hl hx, freeB_copy] at hf
     by_cases hc : x ∈ g.copiesL mono
     ·right
      refine List.mem_map.2 ⟨x, (Graph.mem_generic og hl).2 ⟨hf, fun ⟨m, hm, rm⟩ => ?_, hx⟩, rfl⟩
      obtain ⟨_, k, rk, _, hn⟩ := (Graph.mem_copies h hl).1 hc
      exact hn ⟨m, hm, rm.trans rk⟩
     ·left
      have e : nowF g.ns.length (g.copiesL mono) x = x := by unfold nowF; rw [if_neg hc]
      rw [e]
      exact ⟨hx, hf⟩
   ·rintro (⟨r, hf⟩ | hz)
    ·have hlt := r.lt og gr1
     refine ⟨.inr (.inl r), ?_⟩
     rw [ndo z (by omega), Graph.fresh_old hlt]
     exact hf
    ·obtain ⟨i, hi, rfl⟩ := List.mem_map.1 hz
     have hi' := (Graph.mem_generic og hl).1 hi
     have hr := (Graph.fresh_reach h hl).2 ⟨i, hi'.2.2, rfl⟩
     refine ⟨.inr (.inr hr), ?_⟩
     rw [ndo _ (hr.lt ofr fr1), Graph.now_nd og h hl hi'.2.2, freeB_copy]
     exact hi'.1
 rw [e, List.length_append, List.length_map]
end
end Go.Tre
namespace Go.Tre
open Go.Lib (decDigits itoa)

/-! numerals -/
def digit (c : UInt8) : Prop := 48 ≤ c.toNat ∧ c.toNat ≤ 57
def valD (l : List UInt8) : Nat := l.foldl (fun a c => 10 * a + (c.toNat - 48)) 0
theorem dec_digit (u : Nat) : ∀ c ∈ decDigits u, digit c := by
 induction u using Nat.strongRecOn with
 | _ u ih =>
  rw [decDigits]
  split
  ·intro c hc
   rw [List.mem_singleton] at hc; subst hc
   have : (UInt8.ofNat (48 + u)).toNat = 48 + u := by rw [UInt8.toNat_ofNat']; omega
   unfold digit; omega
  ·intro c hc
   rcases List.mem_append.1 hc with hc | hc
   ·exact ih (u / 10) (by omega) c hc
   ·rw [List.mem_singleton] at hc; subst hc
    have : (UInt8.ofNat (48 + u % 10)).toNat = 48 + u % 10 := by rw [UInt8.toNat_ofNat']; omega
    unfold digit; omega
theorem dec_val (u : Nat) : valD (decDigits u) = u := by
 induction u using Nat.strongRecOn with
 | _ u ih =>
  rw [decDigits]
  split
  ·have : (UInt8.ofNat (48 + u)).toNat = 48 + u := by rw [UInt8.toNat_ofNat']; omega
   show 10 * 0 + ((UInt8.ofNat (48 + u)).toNat - 48) = u
   omega
  ·have : (UInt8.ofNat (48 + u % 10)).toNat = 48 + u % 10 := by rw [UInt8.toNat_ofNat']; omega
   have h := ih (u / 10) (by omega)
   unfold valD at h ⊢
   rw [List.foldl_append, h]
   show 10 * (u / 10) + ((UInt8.ofNat (48 + u % 10)).toNat - 48) = u
   omega
theorem dec_inj {a b : Nat} (h : decDigits a = decDigits b) : a = b := by rw [← dec_val a, ← dec_val b, h]
theorem dec_ne (u : Nat) : decDigits u ≠ [] := by
 rw [decDigits]
 split
 ·simp
 ·simp

/-! two texts that are the same have the same beginnings, up to a byte that ends them -/
def begins (p : UInt8 → Prop) (l : List UInt8) : Prop := ∀ c, l.head? = some c → p c
theorem begins_nil (p : UInt8 → Prop) : begins p [] := fun _ h => by cases h
theorem begins_cons {p : UInt8 → Prop} {c : UInt8} {l : List UInt8} (h : p c) : begins p (c :: l) := fun d hd => by cases hd; exact h
theorem app_split {p : UInt8 → Prop} : ∀ {xs ys r s : List UInt8}, (∀ c ∈ xs, ¬ p c) → (∀ c ∈ ys, ¬ p c) → begins p r → begins p s → xs ++ r = ys ++ s → xs = ys ∧ r = s
 | [], [], _, _, _, _, _, _, h => ⟨rfl, h⟩
 | [], y :: ys, r, s, _, h2, h3, _, h => by
  cases r with
  | nil => cases h
  | cons c r => cases h; exact absurd (h3 _ rfl) (h2 _ (by simp))
 | x :: xs, [], r, s, h1, _, _, h4, h => by
  cases s with
  | nil => cases h
  | cons c s => cases h; exact absurd (h4 _ rfl) (h1 _ (by simp))
 | x :: xs, y :: ys, r, s, h1, h2, h3, h4, h => by
  rw [List.cons_append, List.cons_append, List.cons.injEq] at h
  obtain ⟨e1, e2⟩ := app_split (fun c hc => h1 c (by simp [hc])) (fun c hc => h2 c (by simp [hc])) h3 h4 h.2
  exact ⟨by rw [h.1, e1], e2⟩
theorem flat_split {p : UInt8 → Prop} {x : UInt8} (hx : ¬ p x) : ∀ {ls ms : List (List UInt8)} {r s : List UInt8}, (∀ l ∈ ls, ∀ c ∈ l, ¬ p c ∧ c ≠ x) → (∀ l ∈ ms, ∀ c ∈ l, ¬ p c ∧ c ≠ x) → begins p r → begins p s →
  ls.flatMap (fun l => x :: l) ++ r = ms.flatMap (fun l => x :: l) ++ s → ls = ms ∧ r = s
 | [], [], _, _, _, _, _, _, h => ⟨rfl, h⟩
 | [], m :: ms, r, s, _, _, h3, _, h => by
  cases r with
  | nil => cases h
  | cons c r => cases h; exact absurd (h3 _ rfl) hx
 | l :: ls, [], r, s, _, _, _, h4, h => by
  cases s with
  | nil => cases h
  | cons c s => cases h; exact absurd (h4 _ rfl) hx
 | l :: ls, m :: ms, r, s, h1, h2, h3, h4, h => by
  simp only [List.flatMap_cons, List.append_assoc, List.cons_append, List.cons.injEq, true_and] at h
  have tail : ∀ (q : List (List UInt8)) (t : List UInt8), begins p t → begins (fun c => p c ∨ c = x) (q.flatMap (fun l => x :: l) ++ t) := fun q t ht => by
   cases q with
   | nil => exact fun c hc => .inl (ht c hc)
   | cons a q => exact begins_cons (.inr rfl)
  obtain ⟨e1, e2⟩ := app_split (p := fun c => p c ∨ c = x) (fun c hc => fun e => e.elim (h1 l (by simp) c hc).1 (h1 l (by simp) c hc).2) (fun c hc => fun e => e.elim (h2 m (by simp) c hc).1 (h2 m (by simp) c hc).2) (tail ls r h3) (tail ms s h4) h
  obtain ⟨e3, e4⟩ := flat_split hx (fun l hl => h1 l (by simp [hl])) (fun l hl => h2 l (by simp [hl])) h3 h4 e2
  exact ⟨by rw [e1, e3], e4⟩

/-! how nodes look -/
def freeC (n : Tre.Node) : Bool := decide (n.kind = 1) || n.isOpen
def lookL (n : Tre.Node) (cl : Nat → Nat) : List UInt8 :=
 itoa n.kind ++ n.name.data.toList ++ (n.labels.map fun l => l.data.toList).flatMap (fun l => 32 :: l) ++ (n.args.map fun a => decDigits (cl a.toNat)).flatMap (fun l => 44 :: l)
def Graph.keyL (g : Tre.Graph) (cl : Nat → Nat) (i : Nat) : List UInt8 :=
 decDigits (cl i) ++ 58 :: ((if freeC (g.nd i) then 35 :: decDigits i else []) ++ lookL (g.nd i) cl)

theorem word_bytes : ∀ (l : List UInt8) (b : Bool), wordFrom b l = l.length → ∀ c ∈ l, c ≠ 32 ∧ c ≠ 44
 | [], _, _ => by simp
 | x :: r, b, h => by
  unfold wordFrom at h
  by_cases hg : goesB x.toNat b = true
  ·rw [if_pos hg] at h
   have ih := word_bytes r false (by simp at h; omega)
   intro c hc
   rcases List.mem_cons.1 hc with rfl | hc
   ·constructor <;> (rintro rfl; revert hg; cases b <;> decide)
   ·exact ih c hc
  ·rw [if_neg hg] at h; simp at h
theorem name_bytes {s : ByteArray} (h : isName s = true) : ∀ c ∈ s.data.toList, c ≠ 32 ∧ c ≠ 44 := by
 unfold isName at h
 simp only [Bool.and_eq_true, decide_eq_true_iff] at h
 have hw := h.1.2
 unfold wordLen at hw
 exact word_bytes _ true (by rw [hw]; simp)
theorem arity_bytes {s : ByteArray} {k : Int} (h : arity s = some k) : ∀ c ∈ s.data.toList, c ≠ 32 ∧ c ≠ 44 := by
 unfold arity upd at h
 split at h
 ·subst s; decide
 split at h
 ·subst s; decide
 split at h
 ·subst s; decide
 split at h
 ·subst s; decide
 split at h
 ·subst s; decide
 split at h
 ·subst s; decide
 ·cases h
theorem rising_names {l : List ByteArray} (h : rising l = true) : ∀ s ∈ l, isName s = true := by
 intro s hs
 obtain ⟨i, hi, rfl⟩ := List.getElem_of_mem hs
 unfold rising at h
 have := (List.all_eq_true.1 h) i (List.mem_range.2 hi)
 unfold labelOk at this
 rw [Bool.and_eq_true] at this
 have h1 := this.1
 rwa [List.getD_eq_getElem?_getD, List.getElem?_eq_getElem hi] at h1
structure Words (n : Tre.Node) : Prop where
 kind : n.kind = 1 ∨ n.kind = 2 ∨ n.kind = 3
 name : ∀ c ∈ n.name.data.toList, c ≠ 32 ∧ c ≠ 44
 labels : ∀ l ∈ n.labels, ∀ c ∈ l.data.toList, c ≠ 32 ∧ c ≠ 44
 free : freeC n = true → n.name.data.toList = []
 openOf : freeC n = freeB n
theorem words_of {n : Tre.Node} {size : Nat} (h : mayB n size = true) : Words n := by
 unfold mayB at h
 rw [Bool.and_eq_true] at h
 have h := h.2
 by_cases k1 : n.kind = 1
 ·rw [if_pos k1] at h
  simp only [Bool.and_eq_true, decide_eq_true_iff, Bool.not_eq_true'] at h
  have hn : n.name.data.toList = [] := List.eq_nil_of_length_eq_zero (by simpa using h.1.2)
  have hl : n.labels = [] := List.eq_nil_of_length_eq_zero h.1.1.1
  exact ⟨.inl k1, by rw [hn]; simp, by rw [hl]; simp, fun _ => hn, by simp [freeC, freeB, k1]⟩
 rw [if_neg k1] at h
 by_cases k2 : n.kind = 2
 ·rw [if_pos k2] at h
  simp only [Bool.and_eq_true, decide_eq_true_iff, Bool.not_eq_true'] at h
  have hl : n.labels = [] := List.eq_nil_of_length_eq_zero h.1.1
  refine ⟨.inr (.inl k2), ?_, by rw [hl]; simp, fun e => ?_, by simp [freeC, freeB, k2, h.1.2]⟩
  ·cases ha : arity n.name with
   | none => rw [ha] at h; simp at h
   | some k => exact arity_bytes ha
  ·unfold freeC at e
   rw [h.1.2, k2] at e
   simp at e
 rw [if_neg k2] at h
 by_cases k3 : n.kind = 3
 ·rw [if_pos k3] at h
  simp only [Bool.and_eq_true, decide_eq_true_iff] at h
  have hn : n.name.data.toList = [] := List.eq_nil_of_length_eq_zero (by simpa using h.1.1)
  exact ⟨.inr (.inr k3), by rw [hn]; simp, fun l hl => name_bytes (rising_names h.2 l hl), fun _ => hn, by simp [freeC, freeB, k3]⟩
 ·rw [if_neg k3] at h; cases h
theorem itoa_kind {k : Int} (h : k = 1 ∨ k = 2 ∨ k = 3) : itoa k = [UInt8.ofNat (48 + k.toNat)] := by
 rcases h with rfl | rfl | rfl
 ·exact Go.Lib.decDigits_one (i := 1) (by decide)
 ·exact Go.Lib.decDigits_one (i := 2) (by decide)
 ·exact Go.Lib.decDigits_one (i := 3) (by decide)
theorem digit_ne {c : UInt8} (h : digit c) : c ≠ 32 ∧ c ≠ 44 ∧ c ≠ 58 ∧ c ≠ 35 := by
 unfold digit at h
 refine ⟨?_, ?_, ?_, ?_⟩ <;> (rintro rfl; revert h; decide)
theorem kind_digit {k : Int} (h : k = 1 ∨ k = 2 ∨ k = 3) : digit (UInt8.ofNat (48 + k.toNat)) := by
 rcases h with rfl | rfl | rfl <;> exact ⟨by decide, by decide⟩
theorem kind_inj {k m : Int} (h : k = 1 ∨ k = 2 ∨ k = 3) (h' : m = 1 ∨ m = 2 ∨ m = 3) (e : UInt8.ofNat (48 + k.toNat) = UInt8.ofNat (48 + m.toNat)) : k = m := by
 rcases h with rfl | rfl | rfl <;> rcases h' with rfl | rfl | rfl <;> first | rfl | (revert e; decide)

def endB (c : UInt8) : Prop := c = 32 ∨ c = 44
def tailL (n : Tre.Node) (cl : Nat → Nat) : List UInt8 := (n.labels.map fun l => l.data.toList).flatMap (fun l => 32 :: l) ++ (n.args.map fun a => decDigits (cl a.toNat)).flatMap (fun l => 44 :: l)
theorem tail_begins (n : Tre.Node) (cl : Nat → Nat) : begins endB (tailL n cl) := by
 unfold tailL
 cases n.labels with
 | nil =>
  cases n.args with
  | nil => exact begins_nil _
  | cons a q => exact begins_cons (.inr rfl)
 | cons l q => exact begins_cons (.inl rfl)
theorem data_inj {a b : ByteArray} (h : a.data.toList = b.data.toList) : a = b := by
 cases a; cases b
 simp only [ByteArray.mk.injEq]
 exact Array.toList_inj.1 h
theorem map_inj {α β : Type} {f : α → β} (hf : ∀ a b, f a = f b → a = b) : ∀ {l m : List α}, l.map f = m.map f → l = m
 | [], [], _ => rfl
 | [], _ :: _, h => by cases h
 | _ :: _, [], h => by cases h
 | a :: l, b :: m, h => by
  rw [List.map_cons, List.map_cons, List.cons.injEq] at h
  rw [hf _ _ h.1, map_inj hf h.2]
theorem tail_inj {n m : Tre.Node} {cl : Nat → Nat} (hn : Words n) (hm : Words m) (h : tailL n cl = tailL m cl) : n.labels = m.labels ∧ n.args.map (fun a => cl a.toNat) = m.args.map (fun a => cl a.toNat) := by
 have hb : ∀ q : List Int, begins (fun c => c = 44) ((q.map fun a => decDigits (cl a.toNat)).flatMap (fun l => 44 :: l)) := fun q => by
  cases q with
  | nil => exact begins_nil _
  | cons a q => exact begins_cons rfl
 have hs : ∀ k : Tre.Node, Words k → ∀ l ∈ k.labels.map (fun l => l.data.toList), ∀ c ∈ l, ¬ c = 44 ∧ c ≠ 32 := fun k hk l hl c hc => by
  obtain ⟨s, h1, rfl⟩ := List.mem_map.1 hl
  have := hk.labels s h1 c hc
  exact ⟨this.2, this.1⟩
 obtain ⟨e1, e2⟩ := flat_split (p := fun c => c = 44) (x := 32) (by decide) (hs n hn) (hs m hm) (hb n.args) (hb m.args) h
 have hd : ∀ q : List Int, ∀ l ∈ q.map (fun a => decDigits (cl a.toNat)), ∀ c ∈ l, ¬ False ∧ c ≠ 44 := fun q l hl c hc => by
  obtain ⟨s, _, rfl⟩ := List.mem_map.1 hl
  exact ⟨not_false, (digit_ne (dec_digit _ c hc)).2.1⟩
 obtain ⟨e3, _⟩ := flat_split (p := fun _ => False) (x := 44) (r := []) (s := []) not_false (hd n.args) (hd m.args) (begins_nil _) (begins_nil _) (by rw [List.append_nil, List.append_nil]; exact e2)
 refine ⟨map_inj (fun _ _ => data_inj) e1, ?_⟩
 have e4 : (n.args.map (fun a => cl a.toNat)).map decDigits = (m.args.map (fun a => cl a.toNat)).map decDigits := by rw [List.map_map, List.map_map]; exact e3
 exact map_inj (fun _ _ => dec_inj) e4
theorem key_class {g : Tre.Graph} {cl : Nat → Nat} {i j : Nat} (h : g.keyL cl i = g.keyL cl j) : cl i = cl j ∧ (if freeC (g.nd i) then 35 :: decDigits i else []) ++ lookL (g.nd i) cl = (if freeC (g.nd j) then 35 :: decDigits j else []) ++ lookL (g.nd j) cl := by
 unfold Graph.keyL at h
 obtain ⟨e1, e2⟩ := app_split (p := fun c => c = 58) (fun c hc => (digit_ne (dec_digit _ c hc)).2.2.1) (fun c hc => (digit_ne (dec_digit _ c hc)).2.2.1) (begins_cons rfl) (begins_cons rfl) h
 exact ⟨dec_inj e1, by rw [List.cons.injEq] at e2; exact e2.2⟩
theorem look_tail (n : Tre.Node) (cl : Nat → Nat) (h : n.kind = 1 ∨ n.kind = 2 ∨ n.kind = 3) : lookL n cl = (UInt8.ofNat (48 + n.kind.toNat) :: n.name.data.toList) ++ tailL n cl := by
 unfold lookL tailL
 rw [itoa_kind h]
 simp [List.append_assoc]
theorem key_inj {g : Tre.Graph} (og : g.Ok) {cl : Nat → Nat} {i j : Nat} (hi : i < g.ns.length) (hj : j < g.ns.length) (h : g.keyL cl i = g.keyL cl j) :
  cl i = cl j ∧ (i = j ∨ (freeC (g.nd i) = false ∧ freeC (g.nd j) = false ∧ (g.nd i).kind = (g.nd j).kind ∧ (g.nd i).name = (g.nd j).name ∧ (g.nd i).labels = (g.nd j).labels ∧ (g.nd i).args.map (fun a => cl a.toNat) = (g.nd j).args.map (fun a => cl a.toNat))) := by
 obtain ⟨h1, h2⟩ := key_class h
 refine ⟨h1, ?_⟩
 have wi := words_of (og.may i hi)
 have wj := words_of (og.may j hj)
 rw [look_tail _ _ wi.kind, look_tail _ _ wj.kind] at h2
 have nodig : ∀ k : Nat, ∀ c ∈ decDigits k, ¬ endB c := fun k c hc e => e.elim (digit_ne (dec_digit _ c hc)).1 (digit_ne (dec_digit _ c hc)).2.1
 have nokind : ∀ n : Tre.Node, Words n → ∀ c ∈ UInt8.ofNat (48 + n.kind.toNat) :: n.name.data.toList, ¬ endB c := fun n hn c hc e => by
  rcases List.mem_cons.1 hc with rfl | hc
  ·exact e.elim (digit_ne (kind_digit hn.kind)).1 (digit_ne (kind_digit hn.kind)).2.1
  ·exact e.elim (hn.name c hc).1 (hn.name c hc).2
 cases fi : freeC (g.nd i)
 ·cases fj : freeC (g.nd j)
  ·right
   rw [fi, fj] at h2
   simp only [Bool.false_eq_true, if_false, List.nil_append] at h2
   obtain ⟨e1, e2⟩ := app_split (nokind _ wi) (nokind _ wj) (tail_begins _ _) (tail_begins _ _) h2
   rw [List.cons.injEq] at e1
   obtain ⟨e3, e4⟩ := tail_inj wi wj e2
   exact ⟨rfl, rfl, kind_inj wi.kind wj.kind e1.1, data_inj e1.2, e3, e4⟩
  ·rw [fi, fj] at h2
   simp only [Bool.false_eq_true, if_false, if_true, List.nil_append, List.cons_append, List.cons.injEq] at h2
   exact absurd h2.1 (digit_ne (kind_digit wi.kind)).2.2.2
 ·cases fj : freeC (g.nd j)
  ·rw [fi, fj] at h2
   simp only [Bool.false_eq_true, if_false, if_true, List.nil_append, List.cons_append, List.cons.injEq] at h2
   exact absurd h2.1.symm (digit_ne (kind_digit wj.kind)).2.2.2
  ·left
   rw [fi, fj, wi.free fi, wj.free fj] at h2
   simp only [if_true, List.cons_append, List.cons.injEq, true_and] at h2
   have e : ∀ (k : Nat) (c : UInt8) (t : List UInt8), decDigits k ++ c :: ([] ++ t) = (decDigits k ++ [c]) ++ t := fun k c t => by simp
   rw [e, e] at h2
   obtain ⟨e1, _⟩ := app_split (p := endB) (fun c hc => by
     rcases List.mem_append.1 hc with hc | hc
     ·exact nodig _ c hc
     ·exact nokind _ wi c (by simp at hc; rw [hc]; simp)) (fun c hc => by
     rcases List.mem_append.1 hc with hc | hc
     ·exact nodig _ c hc
     ·exact nokind _ wj c (by simp at hc; rw [hc]; simp)) (tail_begins _ _) (tail_begins _ _) h2
   exact dec_inj (List.append_inj' e1 rfl).1

/-! classes, refined -/
def Graph.refineC (g : Tre.Graph) (cl : Nat → Nat) (i : Nat) : Nat := ((List.range i).map (g.keyL cl)).idxOf (g.keyL cl i)
section
variable {g : Tre.Graph} {cl : Nat → Nat} {i j : Nat}
theorem refine_le : g.refineC cl i ≤ i := by
 unfold Graph.refineC
 have := List.idxOf_le_length (a := g.keyL cl i) (l := (List.range i).map (g.keyL cl))
 simpa using this
theorem refine_key : g.keyL cl (g.refineC cl i) = g.keyL cl i := by
 by_cases h : g.refineC cl i = i
 ·rw [h]
 ·have hl : g.refineC cl i < i := by have := refine_le (g := g) (cl := cl) (i := i); omega
  have h2 := List.getElem_idxOf (x := g.keyL cl i) (xs := (List.range i).map (g.keyL cl)) (by rw [List.length_map, List.length_range]; exact hl)
  rw [List.getElem_map, List.getElem_range] at h2
  exact h2
theorem refine_first (h : j < g.refineC cl i) : g.keyL cl j ≠ g.keyL cl i := by
 intro e
 have hle := refine_le (g := g) (cl := cl) (i := i)
 have h1 : ((List.range i).map (g.keyL cl))[j]'(by simp; omega) = g.keyL cl i := by rw [List.getElem_map, List.getElem_range]; exact e
 have h2 := List.not_of_lt_findIdx (p := (· == g.keyL cl i)) (xs := (List.range i).map (g.keyL cl)) (i := j) (by unfold Graph.refineC List.idxOf at h; exact h)
 rw [h1] at h2
 simp at h2
theorem refine_iff : g.refineC cl i = g.refineC cl j ↔ g.keyL cl i = g.keyL cl j := by
 constructor
 ·intro h
  rw [← refine_key (i := i), ← refine_key (i := j), h]
 ·intro h
  by_cases h1 : g.refineC cl i < g.refineC cl j
  ·exact absurd (refine_key.trans h) (refine_first h1)
  ·by_cases h2 : g.refineC cl j < g.refineC cl i
   ·exact absurd (refine_key.trans h.symm) (refine_first h2)
   ·omega
end
def Graph.refineL (g : Tre.Graph) (L : List Nat) : List Nat := (List.range g.ns.length).map (g.refineC fun a => L.getD a 0)
def Graph.iterL (g : Tre.Graph) : Nat → List Nat
 | 0 => List.replicate g.ns.length 0
 | k + 1 => g.refineL (g.iterL k)
def Graph.classesL (g : Tre.Graph) : List Nat := g.iterL (g.ns.length * g.ns.length)
section
variable {g : Tre.Graph}
theorem refineL_len (L : List Nat) : (g.refineL L).length = g.ns.length := by simp [Graph.refineL]
theorem iter_len (k : Nat) : (g.iterL k).length = g.ns.length := by
 cases k with
 | zero => simp [Graph.iterL]
 | succ k => exact refineL_len _
theorem refineL_at (L : List Nat) {i : Nat} (h : i < g.ns.length) : (g.refineL L).getD i 0 = g.refineC (fun a => L.getD a 0) i := by
 unfold Graph.refineL
 rw [List.getD_eq_getElem?_getD, List.getElem?_map, List.getElem?_range h]; rfl
theorem iter_low (k : Nat) : ∀ i, i < g.ns.length → (g.iterL k).getD i 0 ≤ i := by
 intro i hi
 cases k with
 | zero => simp [Graph.iterL, List.getD_eq_getElem?_getD, hi]
 | succ k => show (g.refineL _).getD i 0 ≤ i; rw [refineL_at _ hi]; exact refine_le
theorem iter_up (k : Nat) : ∀ i, i < g.ns.length → (g.iterL k).getD i 0 ≤ (g.iterL (k + 1)).getD i 0 := by
 intro i hi
 show _ ≤ (g.refineL _).getD i 0
 rw [refineL_at _ hi]
 have h1 := (key_class (refine_key (g := g) (cl := fun a => (g.iterL k).getD a 0) (i := i))).1
 have h2 := refine_le (g := g) (cl := fun a => (g.iterL k).getD a 0) (i := i)
 have h3 := iter_low (g := g) k (g.refineC (fun a => (g.iterL k).getD a 0) i) (by omega)
 omega
theorem sum_pw : ∀ {L M : List Nat}, L.length = M.length → (∀ i, i < L.length → L.getD i 0 ≤ M.getD i 0) → L.sum ≤ M.sum ∧ (L ≠ M → L.sum < M.sum)
 | [], [], _, _ => ⟨Nat.le_refl _, fun h => absurd rfl h⟩
 | [], _ :: _, h, _ => by cases h
 | _ :: _, [], h, _ => by cases h
 | a :: L, b :: M, h, hp => by
  have h0 : a ≤ b := hp 0 (by simp)
  obtain ⟨i1, i2⟩ := sum_pw (L := L) (M := M) (by simpa using h) (fun i hi => hp (i + 1) (by simp; omega))
  simp only [List.sum_cons]
  refine ⟨by omega, fun hne => ?_⟩
  by_cases e : L = M
  ·have : a ≠ b := fun e' => hne (by rw [e, e'])
   omega
  ·have := i2 e; omega
theorem sum_bound {n : Nat} : ∀ {L : List Nat}, (∀ x ∈ L, x < n) → L.sum + L.length ≤ L.length * n
 | [], _ => by simp
 | a :: L, h => by
  have h0 := h a (by simp)
  have ih := sum_bound (L := L) (fun x hx => h x (by simp [hx]))
  simp only [List.sum_cons, List.length_cons, Nat.succ_mul]
  omega
theorem iter_bound (k : Nat) : (g.iterL k).sum + g.ns.length ≤ g.ns.length * g.ns.length := by
 have := sum_bound (n := g.ns.length) (L := g.iterL k) (fun x hx => by
  obtain ⟨i, hi, rfl⟩ := List.getElem_of_mem hx
  have hi' := hi
  rw [iter_len] at hi'
  have := iter_low k i hi'
  rw [List.getD_eq_getElem?_getD, List.getElem?_eq_getElem hi] at this
  simp at this; omega)
 rwa [iter_len] at this
theorem iter_more {k : Nat} (h : g.refineL (g.iterL k) ≠ g.iterL k) : (g.iterL k).sum < (g.iterL (k + 1)).sum :=
 (sum_pw (by rw [iter_len, iter_len]) (fun i hi => iter_up k i (by rwa [iter_len] at hi))).2 (fun e => h e.symm)
theorem iter_stop {k : Nat} (h : g.refineL (g.iterL k) = g.iterL k) : ∀ m, g.iterL (k + m) = g.iterL k
 | 0 => rfl
 | m + 1 => by show g.refineL (g.iterL (k + m)) = _; rw [iter_stop h m, h]
theorem iter_far : ∀ k, (∀ j, j < k → g.refineL (g.iterL j) ≠ g.iterL j) → k ≤ (g.iterL k).sum
 | 0, _ => Nat.zero_le _
 | k + 1, h => by
  have := iter_far k (fun j hj => h j (by omega))
  have := iter_more (h k (by omega))
  omega
theorem classes_len : g.classesL.length = g.ns.length := iter_len _
theorem iter_classes {k : Nat} (h : g.refineL (g.iterL k) = g.iterL k) : g.iterL k = g.classesL := by
 unfold Graph.classesL
 by_cases hk : k ≤ g.ns.length * g.ns.length
 ·obtain ⟨m, hm⟩ := Nat.exists_eq_add_of_le hk
  rw [hm, iter_stop h m]
 ·by_cases hex : ∃ j, j < g.ns.length * g.ns.length ∧ g.refineL (g.iterL j) = g.iterL j
  ·obtain ⟨j, hj, he⟩ := hex
   obtain ⟨m, hm⟩ := Nat.exists_eq_add_of_le (Nat.le_of_lt hj)
   obtain ⟨m', hm'⟩ := Nat.exists_eq_add_of_le (show j ≤ k by omega)
   rw [hm, hm', iter_stop he m, iter_stop he m']
  ·have h1 := iter_far (g := g) (g.ns.length * g.ns.length) (fun j hj e => hex ⟨j, hj, e⟩)
   have h2 := iter_bound (g := g) (g.ns.length * g.ns.length)
   have h0 : g.ns.length = 0 := by omega
   have e : ∀ m, g.iterL m = [] := fun m => List.eq_nil_of_length_eq_zero (by rw [iter_len, h0])
   rw [e, e]
theorem classes_stable : g.refineL g.classesL = g.classesL := by
 by_cases hex : ∃ j, g.refineL (g.iterL j) = g.iterL j
 ·obtain ⟨j, he⟩ := hex
  rw [← iter_classes he]; exact he
 ·have h1 := iter_far (g := g) (g.ns.length * g.ns.length + 1) (fun j hj e => hex ⟨j, e⟩)
  have h2 := iter_bound (g := g) (g.ns.length * g.ns.length + 1)
  omega
def Graph.cls (g : Tre.Graph) (a : Nat) : Nat := g.classesL.getD a 0
theorem cls_eq {i : Nat} (h : i < g.ns.length) : g.cls i = g.refineC g.cls i := by
 have := refineL_at (g := g) g.classesL h
 rw [classes_stable] at this
 exact this
theorem cls_le {i : Nat} (h : i < g.ns.length) : g.cls i ≤ i := by rw [cls_eq h]; exact refine_le
theorem cls_key {i : Nat} (h : i < g.ns.length) : g.keyL g.cls (g.cls i) = g.keyL g.cls i := by
 have := refine_key (g := g) (cl := g.cls) (i := i)
 rwa [← cls_eq h] at this
theorem cls_iff {i j : Nat} (hi : i < g.ns.length) (hj : j < g.ns.length) : g.cls i = g.cls j ↔ g.keyL g.cls i = g.keyL g.cls j := by
 rw [cls_eq hi, cls_eq hj]; exact refine_iff
end
end Go.Tre
