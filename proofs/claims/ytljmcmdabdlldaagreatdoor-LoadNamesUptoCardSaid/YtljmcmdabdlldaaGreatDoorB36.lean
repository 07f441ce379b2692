/- LoadNames, plain: with other names a type is loaded as the same; bound by a name that isn't there, too. A type in memory whose labels are another one's: resources for trefoillaw07.rename. -/
import Derived.Test.YtljmcmdabdlldaaGreatDoorB35
import Derived.Test.YtljmcmdabdlldaaGreatDoorB33
import Derived.Test.YtljmcmdabdlldaaGreatDoorB26
import Derived.Test.YtljmcmdabdlldaaGreatDoorB19
set_option linter.unusedVariables false
namespace Go.Tre
mutual
def renT (z : List UInt8) : Ty → Ty
 | .mk k s args labels o => .mk k (if k = 1 ∨ k = 4 then s ++ z else s) (renTs z args) labels o
def renTs (z : List UInt8) : List Ty → List Ty
 | [] => []
 | t :: r => renT z t :: renTs z r
end
mutual
theorem renT_count (z : List UInt8) : ∀ t : Ty, (renT z t).count = t.count
 | .mk k s args labels o => by unfold renT Ty.count; rw [renTs_count z args]
theorem renTs_count (z : List UInt8) : ∀ l : List Ty, counts (renTs z l) = counts l
 | [] => by unfold renTs; rfl
 | t :: r => by unfold renTs counts; rw [renT_count z t, renTs_count z r]
end
theorem idxs_ren (z : List UInt8) : ∀ (l : List Ty) (b : Nat), idxs (renTs z l) b = idxs l b
 | [], b => by unfold renTs; rfl
 | t :: r, b => by unfold renTs idxs; rw [renT_count, idxs_ren z r]
def renE (z : List UInt8) (e : Ent) : Ent := { e with s := if e.kind = 1 ∨ e.kind = 4 then e.s ++ z else e.s }
mutual
theorem flat_ren (z : List UInt8) : ∀ (t : Ty) (b : Nat), flat (renT z t) b = (flat t b).map (renE z)
 | .mk k s args labels o, b => by
  unfold renT flat
  rw [List.map_cons, flats_ren z args (b + 1), idxs_ren]
  rfl
theorem flats_ren (z : List UInt8) : ∀ (l : List Ty) (b : Nat), flats (renTs z l) b = (flats l b).map (renE z)
 | [], b => by unfold renTs flats; rfl
 | t :: r, b => by
  unfold renTs flats
  rw [List.map_append, flat_ren z t b, flats_ren z r _, renT_count]
end
mutual
theorem renT_weight (z : List UInt8) : ∀ t : Ty, (renT z t).weight ≤ t.weight + z.length * t.count
 | .mk k s args labels o => by
  have := renTs_weight z args
  unfold renT Ty.weight Ty.count
  rw [Nat.mul_add, Nat.mul_one]
  split
  ·rw [List.length_append]; omega
  ·omega
theorem renTs_weight (z : List UInt8) : ∀ l : List Ty, weights (renTs z l) ≤ weights l + z.length * counts l
 | [] => by unfold renTs weights; omega
 | t :: r => by
  have h1 := renT_weight z t
  have h2 := renTs_weight z r
  unfold renTs weights counts
  rw [Nat.mul_add]; omega
end
theorem ren_sim (z : List UInt8) (t : Ty) : Sim (flat t 0) (flat (renT z t) 0) id (· ++ z) :=
 ⟨fun i e he => ⟨renE z e, by rw [flat_ren, id, List.getElem?_map, he]; rfl, rfl, by simp [renE], rfl, rfl, rfl⟩, fun _ _ h => h, fun _ _ h => List.append_cancel_right h⟩
theorem load_ren {z : List UInt8} {t : Ty} {g h : Tre.Graph} (hg : LoadsAs t g) (hh : LoadsAs (renT z t) h) : h = g := by
 obtain ⟨bd, a, st, hb, _, hn, rfl⟩ := hg
 obtain ⟨bd', a', st', hb', _, hn', rfl⟩ := hh
 rw [renT_count] at hb' hn'
 have S := ren_sim z t
 obtain ⟨b1, k1, k2, k3⟩ := sim_bind S 0 _ 0 _ _ (fun _ => none, 0) hb (fun _ _ _ _ => rfl) rfl
 rw [id, hb'] at k1
 cases k1
 obtain ⟨s1, m1, m2⟩ := sim_node S k2 (by omega) _ 0 _ _ ⟨fun _ => none, fun _ => none, []⟩ _ hn ⟨rfl, fun _ _ _ _ => rfl, fun _ => rfl⟩
 rw [id, hn'] at m1
 cases m1
 rw [m2.ns]
def zzzS : List UInt8 := [122, 122, 122]
def wrapT (t : Ty) : Ty := .mk 4 zzzS [t] [] false
theorem flat_wrap (t : Ty) : flat (wrapT t) 0 = ⟨4, zzzS, [1], [], false⟩ :: (flat t 0).map (shiftE 1) := by
 unfold wrapT
 rw [← flat_from t 1]
 simp [flat, flats, idxs]
theorem wrap_count (t : Ty) : (wrapT t).count = t.count + 1 := by
 unfold wrapT
 simp [Ty.count, counts]; omega
theorem wrap_sim (t : Ty) : Sim (flat t 0) (flat (wrapT t) 0) (· + 1) id :=
 ⟨fun i e he => ⟨shiftE 1 e, by rw [flat_wrap]; simp [he], rfl, rfl, rfl, rfl, by simp [shiftE]⟩, fun _ _ h => Nat.succ.inj h, fun _ _ h => h⟩
theorem wrap_bind {t : Ty} {bd : Bd} (hno : ∀ e ∈ flat t 0, (e.kind = 1 ∨ e.kind = 4) → e.s ≠ zzzS) (hb : bind1 (flat t 0) (t.count + 1) 0 (fun _ => none, 0) = some bd) :
  ∃ b1 : Bd, bind1 (flat (wrapT t) 0) ((wrapT t).count + 1) 0 (fun _ => none, 0) = some b1 ∧ BRel (flat t 0) (· + 1) id bd.1 b1.1 ∧ b1.2 = bd.2 + 1 := by
 obtain ⟨b1, k1, k2, k3⟩ := sim_bind (wrap_sim t) 1 _ 0 _ _ (upd (fun _ => none) ⟨zzzS.toArray⟩ 0, 1) hb (fun i e he hk => by
  have := hno e (List.mem_of_getElem? he) hk
  have hq : (⟨e.s.toArray⟩ : ByteArray) ≠ ⟨zzzS.toArray⟩ := fun h => this (arr_inj h)
  show upd (fun _ : ByteArray => (none : Option Nat)) (⟨zzzS.toArray⟩ : ByteArray) 0 (⟨e.s.toArray⟩ : ByteArray) = none
  rw [upd_ne _ _ hq]) rfl
 refine ⟨b1, ?_, k2, k3⟩
 rw [wrap_count, bind1, flat_wrap, zqc, Option.bind_some, ← flat_wrap]
 have hs : stepB ⟨4, zzzS, [1], [], false⟩ 0 ((fun _ => none, 0) : Bd) = some (upd (fun _ => none) ⟨zzzS.toArray⟩ 0, 1) := rfl
 rw [hs, Option.bind_some]
 simp only [List.foldlM_cons, List.foldlM_nil]
 show (bind1 _ _ (0 + 1) _).bind _ = _
 rw [k1]; rfl
theorem wrap_follow {t : Ty} {bd b1 : Bd} (hb : bind1 (flat t 0) (t.count + 1) 0 (fun _ => none, 0) = some bd) (hf : ∀ s x, bd.1 s = some x → ∃ r, follow1 (flat t 0) bd.1 (2 * bd.2 + 2) x = some r)
  (hr : BRel (flat t 0) (· + 1) id bd.1 b1.1) (hn : b1.2 = bd.2 + 1) : ∃ r, follow1 (flat (wrapT t) 0) b1.1 (2 * b1.2 + 1) 1 = some r := by
 have k := bd_of hb
 obtain ⟨r, h⟩ := follow_all k.1 (Nat.le_of_eq k.2.1.symm) k.2.2 hf 0 (by rw [flat_len]; exact t.count_pos)
 exact ⟨_, follow_mono (by omega) (sim_follow (wrap_sim t) hr h)⟩
theorem load_wrap {t : Ty} {g k : Tre.Graph} (hno : ∀ e ∈ flat t 0, (e.kind = 1 ∨ e.kind = 4) → e.s ≠ zzzS) (hg : LoadsAs t g) (hk : LoadsAs (wrapT t) k) : k = g := by
 obtain ⟨bd, a, st, hb, hf, hn, rfl⟩ := hg
 obtain ⟨bd', a', st', hb', _, hn', rfl⟩ := hk
 obtain ⟨b1, k1, k2, k3⟩ := wrap_bind hno hb
 rw [hb'] at k1
 cases k1
 obtain ⟨s1, m1, m2⟩ := sim_node (wrap_sim t) k2 (by omega) _ 0 _ _ ⟨fun _ => none, fun _ => none, []⟩ _ hn ⟨rfl, fun _ _ _ _ => rfl, fun _ => rfl⟩
 obtain ⟨r, hr⟩ := wrap_follow hb hf k2 k3
 have h1 : follow1 (flat (wrapT t) 0) bd'.1 (2 * bd'.2 + 2) (0 + 1) = some r := follow_mono (by omega) hr
 have h0 : follow1 (flat (wrapT t) 0) bd'.1 (2 * bd'.2 + 2) 0 = some r := by
  rw [follow1, flat_wrap, zqc, Option.bind_some, if_pos rfl, ← flat_wrap]
  exact hr
 have m3 := node1_more _ _ _ _ _ m1
 rw [wrap_count] at hn'
 rw [node1, h0] at hn'
 rw [node1, h1] at m3
 rw [hn'] at m3
 cases m3
 rw [m2.ns]
theorem wrap_loads {t : Ty} {g : Tre.Graph} (hno : ∀ e ∈ flat t 0, (e.kind = 1 ∨ e.kind = 4) → e.s ≠ zzzS) (hg : LoadsAs t g) : ¬ LoadFails (wrapT t) := by
 obtain ⟨bd, a, st, hb, hf, hn, rfl⟩ := hg
 obtain ⟨b1, k1, k2, k3⟩ := wrap_bind hno hb
 have kt := bd_of hb
 rintro (h | ⟨b2, s, x, h, hs, hx⟩)
 ·rw [k1] at h; cases h
 ·rw [k1] at h
  cases h
  obtain ⟨e, he, h4, rfl⟩ := (bd_of k1).1 s x hs
  cases x with
  | zero =>
   obtain ⟨r, hr⟩ := wrap_follow hb hf k2 k3
   rw [follow1, flat_wrap, zqc, Option.bind_some, if_pos rfl, ← flat_wrap] at hx
   have : follow1 (flat (wrapT t) 0) b1.1 (2 * b1.2 + 1) 1 = none := hx
   rw [hr] at this
   cases this
  | succ x =>
   rw [flat_wrap, zqb, List.getElem?_map] at he
   obtain ⟨e0, he0, rfl⟩ := Option.map_eq_some_iff.1 he
   obtain ⟨r, hr⟩ := hf _ x (kt.2.2 x e0 he0 h4)
   have := follow_mono (m' := 2 * b1.2 + 2) (by omega) (sim_follow (wrap_sim t) k2 hr)
   rw [this] at hx
   cases hx
theorem wrap_no {t : Ty} {g k : Tre.Graph} (hg : LoadsAs t g) (hk : LoadsAs (wrapT t) k) (hn : zzzS ∉ namesL t) : ∀ e ∈ flat t 0, (e.kind = 1 ∨ e.kind = 4) → e.s ≠ zzzS := by
 obtain ⟨bd, _, _, hb, _, _, rfl⟩ := hg
 obtain ⟨bd', _, _, hb', _, _, rfl⟩ := hk
 have k' := bd_of hb'
 have h4 : ∀ e ∈ flat t 0, e.kind = 4 → e.s ≠ zzzS := fun e he h4 hs => by
  obtain ⟨i, hi⟩ := List.getElem?_of_mem he
  have p1 := k'.2.2 0 ⟨4, zzzS, [1], [], false⟩ (by rw [flat_wrap]; rfl) rfl
  have p2 := k'.2.2 (i + 1) (shiftE 1 e) (by rw [flat_wrap]; simp [hi]) h4
  have e1 : (shiftE 1 e).s = zzzS := hs
  rw [e1, p1] at p2
  cases p2
 intro e he hk hs
 rcases hk with h1 | h1
 ·refine hn (mem_names.2 ⟨?_, ?_⟩)
  ·obtain ⟨i, hi⟩ := List.getElem?_of_mem he
   have := pre_entry hi
   rw [h1, hs] at this
   exact this
  ·cases hq : boundB (pre t) ⟨zzzS.toArray⟩ with
   | false => rfl
   | true =>
    obtain ⟨x, hx⟩ := (bound_iff hb _).1 hq
    obtain ⟨f, hf, f4, fs⟩ := (bd_of hb).1 _ _ hx
    exact absurd (arr_inj fs).symm (h4 f (List.mem_of_getElem? hf) f4)
 ·exact h4 e he h1 hs
theorem wrap_verdict {t : Ty} (h : verdictI (walkT t) = 0) : verdictI (walkT (wrapT t)) = 0 ∨ verdictI (walkT (wrapT t)) = 4 := by
 have h0 := verdict_ok h
 have hw : ownT 4 zzzS 1 [] false = true := by decide
 have : walkT (wrapT t) = walkT t + 1 := by
  have h1 : walkTs [t] 0 = walkT t := by
   rw [walkTs, if_neg (by omega), walkTs]; omega
  unfold wrapT
  rw [walkT, show ([t] : List Ty).length = 1 from rfl, hw, if_pos rfl]
  simp only [h1]
  rw [if_neg (by omega)]
 rw [this]
 unfold verdictI
 rw [if_neg (by omega)]
 split
 ·exact .inr rfl
 ·exact .inl rfl
/-! texts of a type out of parts -/
theorem ofP_rest_mem : ∀ (K : Nat) (l : List Prt), ∀ p ∈ (ofP K l).2, p ∈ l := by
 intro K
 induction K with
 | zero => intro l p hp; rw [ofP] at hp; simp at hp
 | succ K ih =>
  intro l p hp
  cases l with
  | nil => rw [ofP] at hp; simp at hp
  | cons q l =>
   rw [ofP] at hp
   have key : ∀ (n : Nat) (l : List Prt), ∀ p ∈ (ofsF (ofP K) n l).2, p ∈ l := by
    intro n
    induction n with
    | zero => intro l p hp; exact hp
    | succ n ihn => intro l p hp; rw [ofsF] at hp; exact ih l p (ihn _ p hp)
   exact List.mem_cons_of_mem _ (key _ _ p hp)
theorem ofP_texts : ∀ (K : Nat) (l : List Prt) (b : Nat), ∀ e ∈ flat (ofP K l).1 b, e.s = [105, 110, 116] ∨ ∃ p ∈ l, p.s = e.s := by
 intro K
 induction K with
 | zero => intro l b e he; rw [ofP] at he; simp [tyI, flat, flats] at he; exact .inl (by rw [he])
 | succ K ih =>
  intro l b e he
  cases l with
  | nil => rw [ofP] at he; simp [tyI, flat, flats] at he; exact .inl (by rw [he])
  | cons q l =>
   rw [ofP, flat] at he
   rcases List.mem_cons.1 he with rfl | he
   ·exact .inr ⟨q, by simp, rfl⟩
   ·have key : ∀ (n : Nat) (l : List Prt) (b : Nat), ∀ e ∈ flats (ofsF (ofP K) n l).1 b, e.s = [105, 110, 116] ∨ ∃ p ∈ l, p.s = e.s := by
     intro n
     induction n with
     | zero => intro l b e he; rw [ofsF, flats] at he; simp at he
     | succ n ihn =>
      intro l b e he
      rw [ofsF, flats] at he
      rcases List.mem_append.1 he with he | he
      ·exact ih l _ e he
      ·rcases ihn _ _ e he with h | ⟨p, hp, hs⟩
       ·exact .inl h
       ·exact .inr ⟨p, ofP_rest_mem K l p hp, hs⟩
    rcases key _ _ _ e he with h | ⟨p, hp, hs⟩
    ·exact .inl h
    ·exact .inr ⟨p, List.mem_cons_of_mem _ hp, hs⟩
theorem wrap_there {l : List Prt} {g : Tre.Graph} (hg : LoadsAs (ofTy l) g) (hf : LoadFails (wrapT (ofTy l))) : ∃ p ∈ l, p.s = zzzS := by
 refine Classical.byContradiction fun hn => wrap_loads (fun e he _ hs => ?_) hg hf
 rcases ofP_texts _ l 0 e he with h | ⟨p, hp, h⟩
 ·rw [hs] at h; revert h; decide
 ·exact hn ⟨p, hp, h.trans hs⟩
end Go.Tre
namespace Go.Tre
open Go.RowKit
def sepR (l : List Res) : Res where
 own b := ∃ r ∈ l, r.own b
 P w := (∀ r ∈ l, r.P w) ∧ l.Pairwise fun (r s : Res) => ∀ b : Nat, r.own b → ¬ s.own b
 stable w w' h hs := ⟨fun r hr => r.stable _ _ (h.1 r hr) (fun b hb => hs b ⟨r, hr, hb⟩), h.2⟩
 has w h b hb := by obtain ⟨r, hr, hb⟩ := hb; exact r.has w (h.1 r hr) b hb
section
variable {w0 w : World} {rs : List Res}
theorem Mem.sepNil (h : Mem w0 w rs) : Mem w0 w (sepR [] :: rs) :=
 ⟨h.below, fun s hs => by
  rcases List.mem_cons.1 hs with rfl | hs
  ·exact ⟨⟨fun r hr => by simp at hr, List.Pairwise.nil⟩, fun b hb => by obtain ⟨r, hr, _⟩ := hb; simp at hr⟩
  ·exact h.all s hs, List.pairwise_cons.2 ⟨fun _ _ _ hb _ => by obtain ⟨r, hr, _⟩ := hb; simp at hr, h.sep⟩⟩
theorem Mem.sepInto {r : Res} {l : List Res} (h : Mem w0 w (r :: sepR l :: rs)) : Mem w0 w (sepR (l ++ [r]) :: rs) := by
 have hd := (List.pairwise_cons.1 h.sep).1 (sepR l) (by simp)
 have hj := h.join
 exact hj.as_ 0 rfl (sepR (l ++ [r])) (fun hp => ⟨fun s hs => by
  rcases List.mem_append.1 hs with hs | hs
  ·exact hp.2.1 s hs
  ·simp at hs; subst hs; exact hp.1, by
  rw [List.pairwise_append]
  refine ⟨hp.2.2, by simp, fun s hs u hu b hb hub => ?_⟩
  simp at hu
  subst hu
  exact hd b hub ⟨s, hs, hb⟩⟩) (fun b hb => by
  obtain ⟨s, hs, hb⟩ := hb
  rcases List.mem_append.1 hs with hs | hs
  ·exact .inr ⟨s, hs, hb⟩
  ·simp at hs; subst hs; exact .inl hb)
end
def renR (wb : World) (old own : Nat → Prop) (t : Ty) (v : Value) : Res where
 own := own
 P w := (∃ W : World, TyIn W (fun b => own b ∨ old b) t v ∧ (∀ b, old b → W.heap[b]? = wb.heap[b]?) ∧ ∀ b, own b → W.heap[b]? = w.heap[b]?) ∧ ∀ b, own b → b < w.heap.size
 stable w w' h hs := by
  obtain ⟨⟨W, h1, h2, h3⟩, h4⟩ := h
  refine ⟨⟨W, h1, h2, fun b hb => (h3 b hb).trans (hs b hb).symm⟩, fun b hb => ?_⟩
  have k1 := h4 b hb
  have k2 := hs b hb
  rw [Array.getElem?_eq_getElem k1] at k2
  exact (Array.getElem?_eq_some_iff.1 k2).1
 has w h b hb := h.2 b hb
theorem ren_in {wb w : World} {old own : Nat → Prop} {t : Ty} {v : Value} (h : (renR wb old own t v).P w) (ho : ∀ b, old b → b < wb.heap.size) (hb : Below wb.heap.size wb w) : TyIn w (fun b => own b ∨ old b) t v := by
 obtain ⟨⟨W, h1, h2, h3⟩, _⟩ := h
 refine h1.keep fun b hbo => ?_
 rcases hbo with k | k
 ·exact (h3 b k).symm
 ·rw [h2 b k]; exact hb.block b (ho b k)
structure RKid where
 t : Ty
 V : Array Value
 own : Nat → Prop
abbrev rkidR (wb : World) (OO : Nat → Nat → Prop) (i : Nat) (k : RKid) : Res := renR wb (OO i) k.own k.t (.agg k.V)
def rkidCells (l : List RKid) : List Value := l.flatMap fun k => k.V.toList
theorem rkid_at : ∀ {l : List RKid} (i j : Nat) (k : RKid) (u : Value), (∀ k ∈ l, k.V.size = 5) → l[i]? = some k → k.V[j]? = some u → (rkidCells l)[i * 5 + j]? = some u := by
 intro l
 induction l with
 | nil => intro i j k u _ h; simp at h
 | cons x r ih =>
  intro i j k u h5 h hu
  have h0 := h5 x (by simp)
  unfold rkidCells
  rw [List.flatMap_cons]
  cases i with
  | zero =>
   simp at h
   subst h
   have hj := (Array.getElem?_eq_some_iff.1 hu).1
   rw [Nat.zero_mul, Nat.zero_add, List.getElem?_append_left (by rw [Array.length_toList]; exact hj), Array.getElem?_toList, hu]
  | succ i =>
   simp at h
   rw [List.getElem?_append_right (by rw [Array.length_toList]; omega), Array.length_toList, h0, show (i + 1) * 5 + j - 5 = i * 5 + j by omega]
   exact ih i j k u (fun y hy => h5 y (by simp [hy])) h hu
def rkidsFrom (wb : World) (OO : Nat → Nat → Prop) : Nat → List RKid → List Res
 | _, [] => []
 | i, k :: r => rkidR wb OO i k :: rkidsFrom wb OO (i + 1) r
theorem rkids_at {wb : World} {OO : Nat → Nat → Prop} : ∀ (l : List RKid) (n i : Nat), (rkidsFrom wb OO n l)[i]? = (l[i]?).map (rkidR wb OO (n + i))
 | [], n, i => by unfold rkidsFrom; simp
 | k :: r, n, 0 => by unfold rkidsFrom; rfl
 | k :: r, n, i + 1 => by
  unfold rkidsFrom
  rw [zqb, zqb, rkids_at r (n + 1) i, show n + 1 + i = n + (i + 1) by omega]
theorem rkids_snoc {wb : World} {OO : Nat → Nat → Prop} : ∀ (l : List RKid) (n : Nat) (k : RKid), rkidsFrom wb OO n (l ++ [k]) = rkidsFrom wb OO n l ++ [rkidR wb OO (n + l.length) k]
 | [], n, k => by unfold rkidsFrom; rfl
 | x :: l, n, k => by
  rw [List.cons_append, rkidsFrom, rkidsFrom, rkids_snoc l (n + 1) k, List.cons_append, List.length_cons, show n + 1 + l.length = n + (l.length + 1) by omega]
theorem Mem.renMake {wb w0 w : World} {rs : List Res} {T : TypeId} {aa al : Option Addr} {ca cl : Nat} {kids : List RKid} {labels : List (List UInt8)} (k : Nat) (s : List UInt8) (o : Bool) {O : Nat → Prop} {OO : Nat → Nat → Prop}
  (h : Mem w0 w (rowR T 5 (.slice aa kids.length ca) kids.length (rkidCells kids) :: sepR (rkidsFrom wb OO 0 kids) :: rs)) (hbw : Below wb.heap.size wb w0)
  (hO : ∀ b, O b → b < wb.heap.size) (hl : labels.length ≤ cl) (hlab : ∀ (i : Nat) (x : List UInt8), labels[i]? = some x → ∃ b off, al = some ⟨b, off, none⟩ ∧ O b ∧ wb.cell? ⟨b, off + i, none⟩ = some (.string ⟨x.toArray⟩))
  (hsub : ∀ i b, OO i b → O b) (hdis : ∀ i j b, OO i b → OO j b → i = j) :
  ∃ own, Mem w0 w (renR wb O own (.mk k s (kids.map RKid.t) labels o) (.agg #[.int .i64 k, .string ⟨s.toArray⟩, .slice aa kids.length ca, .slice al labels.length cl, .bool o]) :: rs) := by
 have hbe : Below wb.heap.size wb w := hbw.trans (h.below.mono hbw.size)
 have hsz := hbw.size
 have hra := h.row 0 rfl
 have hkp := h.at_ 1 rfl
 have hsep := (List.pairwise_cons.1 h.sep).1 (sepR (rkidsFrom wb OO 0 kids)) (by simp)
 have hlo0 := h.lo 0 rfl
 have hlo1 := h.lo 1 rfl
 have hk : ∀ (i : Nat) (x : RKid), kids[i]? = some x → (rkidR wb OO i x).P w := fun i x hx => by
  have := hkp.1 (rkidR wb OO i x) (List.mem_of_getElem? (i := i) (by rw [rkids_at, hx, Nat.zero_add]; rfl))
  exact this
 have hkt : ∀ (i : Nat) (x : RKid), kids[i]? = some x → TyIn w (fun b => x.own b ∨ OO i b) x.t (.agg x.V) := fun i x hx => ren_in (hk i x hx) (fun b hb => hO b (hsub i b hb)) hbe
 have h5 : ∀ x ∈ kids, x.V.size = 5 := fun x hx => by
  obtain ⟨i, hi⟩ := List.getElem?_of_mem hx
  exact (hkt i x hi).five
 have hown : ∀ (i : Nat) (x : RKid), kids[i]? = some x → ∀ b, x.own b → (sepR (rkidsFrom wb OO 0 kids)).own b := fun i x hx b hb => ⟨_, List.mem_of_getElem? (i := i) (by rw [rkids_at, hx, Nat.zero_add]; rfl), hb⟩
 have hpw : ∀ (i j : Nat) (x y : RKid), kids[i]? = some x → kids[j]? = some y → i ≠ j → ∀ b, x.own b → ¬ y.own b := by
  intro i j x y hx hy hne b hb hb'
  have hp := hkp.2
  rw [List.pairwise_iff_getElem] at hp
  have gi : (rkidsFrom wb OO 0 kids)[i]? = some (rkidR wb OO i x) := by rw [rkids_at, hx, Nat.zero_add]; rfl
  have gj : (rkidsFrom wb OO 0 kids)[j]? = some (rkidR wb OO j y) := by rw [rkids_at, hy, Nat.zero_add]; rfl
  obtain ⟨hi, ei⟩ := List.getElem?_eq_some_iff.1 gi
  obtain ⟨hj, ej⟩ := List.getElem?_eq_some_iff.1 gj
  rcases Nat.lt_or_gt_of_ne hne with h1 | h1
  ·exact hp i j hi hj h1 b (by rw [ei]; exact hb) (by rw [ej]; exact hb')
  ·exact hp j i hj hi h1 b (by rw [ej]; exact hb') (by rw [ei]; exact hb)
 refine ⟨fun b => (Value.slice aa kids.length ca).ownBlock = some b ∨ ∃ x ∈ kids, x.own b, ?_⟩
 have h' : Mem w0 w ([rowR T 5 (.slice aa kids.length ca) kids.length (rkidCells kids), sepR (rkidsFrom wb OO 0 kids)] ++ rs) := h
 obtain ⟨ra, rca, ea, hca⟩ := h.val 0 rfl
 cases ea
 refine h'.fold ⟨⟨w, ?_, fun b hb => hbe.block b (hO b hb), fun _ _ => rfl⟩, ?_⟩ ?_
 ·have key : TyIn w (fun b => ((Value.slice aa kids.length ca).ownBlock = some b ∨ ∃ x ∈ kids, x.own b) ∨ O b) (.mk k s (kids.map RKid.t) labels o) (.agg #[.int .i64 k, .string ⟨s.toArray⟩, .slice aa (kids.map RKid.t).length ca, .slice al labels.length cl, .bool o]) := by
   refine .mk (fun i => (kids[i]?.map RKid.V).getD #[]) (fun i b => (∃ x, kids[i]? = some x ∧ x.own b) ∨ ((∃ x, kids[i]? = some x) ∧ OO i b)) (by simpa using hca) hl (fun i x hx => ?_) (fun i hi => ?_) (fun i b hb => ?_) (fun i j b hb hb' => ?_) (fun i t ht => ?_)
   ·obtain ⟨b, off, e, ho, hc⟩ := hlab i x hx
    exact ⟨b, off, e, .inr ho, cell_below hbe hc⟩
   ·have hi' : i < kids.length := by simpa using hi
    have hki : kids[i]? = some kids[i] := List.getElem?_eq_getElem hi'
    have h5i := h5 _ (List.getElem_mem hi')
    have hfirst : (rkidCells kids)[i * 5 + 0]? = some (kids[i].V[0]'(by omega)) := rkid_at i 0 kids[i] _ h5 hki (Array.getElem?_eq_getElem (by omega))
    obtain ⟨g, rfl, hg, _, _⟩ := h.getRow 0 rfl _ hfirst
    have hpl : ∃ cs T, w.heap[g]? = some (.cells cs T (0, 0)) := by
     rcases (h.row 0 rfl).2 with ⟨e1, _⟩ | ⟨g', cap, cur, e1, _, hg, _⟩
     ·cases e1
     ·cases e1; exact ⟨_, _, hg⟩
    refine ⟨g, 0, rfl, .inl (.inl rfl), hpl, fun j hj => ?_, by rw [hki]; exact h5i, fun j u hu => ?_⟩
    ·rcases hj with ⟨x, hx, hxo⟩ | ⟨_, hjo⟩
     ·exact hsep g rfl (hown j x hx g hxo)
     ·have := hO g (hsub j g hjo); omega
    ·rw [hki] at hu
     rw [Nat.zero_add]
     exact h.cellAt 0 rfl _ (rkid_at i j kids[i] u h5 hki hu)
   ·rcases hb with ⟨x, hx, hxo⟩ | ⟨_, hjo⟩
    ·exact .inl (.inr ⟨x, List.mem_of_getElem? hx, hxo⟩)
    ·exact .inr (hsub i b hjo)
   ·rcases hb with ⟨x, hx, hxo⟩ | ⟨_, hxo⟩ <;> rcases hb' with ⟨y, hy, hyo⟩ | ⟨_, hyo⟩
    ·exact Classical.byContradiction fun hne => hpw i j x y hx hy hne b hxo hyo
    ·have h1 := hlo1 b (hown i x hx b hxo)
     have h2 := hO b (hsub j b hyo)
     omega
    ·have h1 := hlo1 b (hown j y hy b hyo)
     have h2 := hO b (hsub i b hxo)
     omega
    ·exact hdis i j b hxo hyo
   ·rw [List.getElem?_map] at ht
    obtain ⟨x, hx, rfl⟩ := Option.map_eq_some_iff.1 ht
    simp only [hx, zqd, Option.getD_some]
    refine (hkt i x hx).wide (fun b hb => ?_)
    rcases hb with hb | hb
    ·exact .inl ⟨x, rfl, hb⟩
    ·exact .inr ⟨⟨x, rfl⟩, hb⟩
  rw [List.length_map] at key
  exact key
 ·rintro b (hb | ⟨x, hx, hb⟩)
  ·exact (rowR T 5 (.slice aa kids.length ca) kids.length (rkidCells kids)).has w hra b hb
  ·obtain ⟨i, hi⟩ := List.getElem?_of_mem hx
   exact (rkidR wb OO i x).has w (hk i x hi) b hb
 ·rintro b (hb | ⟨x, hx, hb⟩)
  ·exact ⟨_, List.mem_cons_self .., hb⟩
  ·obtain ⟨i, hi⟩ := List.getElem?_of_mem hx
   exact ⟨_, List.mem_cons_of_mem _ (List.mem_cons_self ..), hown i x hi b hb⟩
end Go.Tre
