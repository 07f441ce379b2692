/- Layer 7: what stays while a graph is made; a node's parts are put in. load: (*loader).bind. load: (*loader).follow, where it comes to an end. Small words on rows and worlds. -/
import Derived.Test.YtljmcmdabdlldaaGreatDoorB20
import Derived.Test.YtljmcmdabdlldaaGreatDoorB06
import Derived.Test.YtljmcmdabdlldaaGreatDoorB07
import Derived.Test.YtljmcmdabdlldaaGreatDoorB01
import Derived.Test.YtljmcmdabdlldaaGreatDoorB03
set_option linter.unusedVariables false
namespace Go.Tre
def Keeps (a b : List Tre.Node) : Prop := a.length ≤ b.length ∧ ∀ j, j < a.length → b[j]? = a[j]?
theorem Keeps.refl (a : List Tre.Node) : Keeps a a := ⟨Nat.le_refl _, fun _ _ => rfl⟩
theorem Keeps.trans {a b c : List Tre.Node} (h : Keeps a b) (k : Keeps b c) : Keeps a c := ⟨Nat.le_trans h.1 k.1, fun j hj => (k.2 j (Nat.lt_of_lt_of_le hj h.1)).trans (h.2 j hj)⟩
theorem Keeps.app (a l : List Tre.Node) : Keeps a (a ++ l) := ⟨by simp, fun j hj => List.getElem?_append_left hj⟩
theorem Keeps.setAt {a b : List Tre.Node} (h : Keeps a b) (n : Tre.Node) : Keeps a (b.set a.length n) := ⟨by rw [List.length_set]; exact h.1, fun j hj => by rw [List.getElem?_set_ne (by omega)]; exact h.2 j hj⟩
theorem kids_keep {f : Nat → LSt → Option (Nat × LSt)} (hf : ∀ i st a st', f i st = some (a, st') → Keeps st.ns st'.ns) : ∀ (js l : List Nat) (st : LSt) (l' : List Nat) (st' : LSt), kidsF f js l st = some (l', st') → Keeps st.ns st'.ns
 | [], l, st, l', st', h => by rw [kidsF] at h; cases h; exact Keeps.refl _
 | j :: r, l, st, l', st', h => by
  rw [kidsF] at h
  obtain ⟨⟨a, s1⟩, h1, h2⟩ := Option.bind_eq_some_iff.1 h
  exact (hf _ _ _ _ h1).trans (kids_keep hf r _ _ _ _ h2)
theorem node_keep (T : List Ent) (bd : Bd) : ∀ (k i : Nat) (st : LSt) (a : Nat) (st' : LSt), node1 T bd k i st = some (a, st') → Keeps st.ns st'.ns
 | 0, i, st, a, st', h => by rw [node1] at h; cases h
 | k + 1, i, st, a, st', h => by
  rw [node1] at h
  obtain ⟨x, _, h⟩ := Option.bind_eq_some_iff.1 h
  obtain ⟨e, _, h⟩ := Option.bind_eq_some_iff.1 h
  split at h
  ·split at h
   ·cases h; exact Keeps.refl _
   ·cases h; exact Keeps.app _ _
  ·split at h
   ·cases h; exact Keeps.refl _
   ·obtain ⟨⟨l, s2⟩, h1, h2⟩ := Option.map_eq_some_iff.1 h
    cases h2
    have h3 := kids_keep (node_keep T bd k) _ _ _ _ _ h1
    exact ((Keeps.app st.ns [nodeOf e]).trans h3).setAt _
def MadeIs (T : List Ent) (ad : Nat → Addr) (M : Addr → Option Nat) (m : Nat → Option Nat) : Prop := ∀ i, i < T.length → M (ad i) = m i
theorem MadeIs.upd {T : List Ent} {ad : Nat → Addr} {M : Addr → Option Nat} {m : Nat → Option Nat} (h : MadeIs T ad M m) (inj : ∀ i j, i < T.length → j < T.length → ad i = ad j → i = j) {x : Nat} (hx : x < T.length) (v : Nat) : MadeIs T ad (Tre.upd M (ad x) v) (Tre.upd m x v) := by
 intro i hi
 unfold Tre.upd
 by_cases e : i = x
 ·subst e; rw [if_pos rfl, if_pos rfl]
 ·rw [if_neg e, if_neg (fun e2 => e (inj i x hi hx e2))]; exact h i hi
open Go.RowKit in
theorem Mem.swallow {w0 w : World} {rs old new : List Res} {R : Res} (h : Mem w0 w (R :: manyR old :: rs)) (hs : ∀ r ∈ new, r = R ∨ r ∈ old) : Mem w0 w (manyR new :: rs) := by
 have hj := h.join
 refine hj.as_ 0 rfl (manyR new) (fun hp r hr => ?_) (fun b hb => ?_)
 ·rcases hs r hr with rfl | hr
  ·exact hp.1
  ·exact hp.2 r hr
 ·obtain ⟨r, hr, hb⟩ := hb
  rcases hs r hr with rfl | hr
  ·exact .inl hb
  ·exact .inr ⟨r, hr, hb⟩
end Go.Tre
namespace Go.Proofs.YtljmcmdabdlldaaGreatDoor.load
open Go.RowKit Go.Maps Go.Tre lex gr
theorem cells_set (ds : List NodeV) (k : Nat) (d d' : NodeV) (hd : ds[k]? = some d) (hc : d'.cells = d.cells.set 2 d'.va) : (ds.flatMap NodeV.cells).set (k * 5 + 2) d'.va = (ds.set k d').flatMap NodeV.cells := by
 induction ds generalizing k with
 | nil => simp at hd
 | cons x r ih =>
  have hl : x.cells.length = 5 := rfl
  cases k with
  | zero =>
   simp at hd; subst hd
   rw [zqg, List.flatMap_cons, List.flatMap_cons, Nat.zero_mul, Nat.zero_add, List.set_append_left _ _ (by rw [hl]; omega), hc]
  | succ k =>
   simp at hd
   rw [zqh, List.flatMap_cons, List.flatMap_cons, List.set_append_right _ _ (by rw [hl]; omega), hl, show (k + 1) * 5 + 2 - 5 = k * 5 + 2 by omega, ih k hd]
theorem putArgs {w0 w : World} {rs : List Res} {g c : Nat} {ds : List NodeV} {k : Nat} {d : NodeV} {xs : List Int} {va : Value} (hd : ds[k]? = some d)
  (h : Mem w0 w (rowR 3 1 va xs.length (xs.map (Value.int .i64)) :: nodesR (.slice (some ⟨g, 0, none⟩) ds.length c) ds :: kidsR ds :: rs)) :
  Mem w0 (w.setCell ⟨g, k * 5 + 2, none⟩ va) (nodesR (.slice (some ⟨g, 0, none⟩) ds.length c) (ds.set k ⟨{ d.n with args := xs }, va, d.vl⟩) :: kidsR (ds.set k ⟨{ d.n with args := xs }, va, d.vl⟩) :: rs) := by
 have h1 : Mem w0 (w.setCell ⟨g, k * 5 + 2, none⟩ va) (rowR 3 1 va xs.length (xs.map (Value.int .i64)) :: nodesR (.slice (some ⟨g, 0, none⟩) ds.length c) (ds.set k ⟨{ d.n with args := xs }, va, d.vl⟩) :: kidsR ds :: rs) := by
  have h2 := h.setRow 1 rfl (k * 5 + 2) va
  have e := cells_set ds k d ⟨{ d.n with args := xs }, va, d.vl⟩ hd rfl
  show Mem _ _ (_ :: rowR _ _ _ _ _ :: _)
  rw [List.length_set, ← e]
  exact h2
 have h3 := h1.front 1 rfl
 have h4 : Mem w0 (w.setCell ⟨g, k * 5 + 2, none⟩ va) (rowR 3 1 va xs.length (xs.map (Value.int .i64)) :: manyR (ds.flatMap kids) :: nodesR (.slice (some ⟨g, 0, none⟩) ds.length c) (ds.set k ⟨{ d.n with args := xs }, va, d.vl⟩) :: rs) := (h3.front 2 rfl).front 2 rfl
 refine (h4.swallow (new := (ds.set k ⟨{ d.n with args := xs }, va, d.vl⟩).flatMap kids) (fun r hr => ?_)).front 1 rfl
 obtain ⟨d', hd', hr⟩ := List.mem_flatMap.1 hr
 rcases List.mem_or_eq_of_mem_set hd' with hm | rfl
 ·exact .inr (List.mem_flatMap.2 ⟨d', hm, hr⟩)
 ·simp only [kids, List.mem_cons, List.not_mem_nil, or_false] at hr
  rcases hr with rfl | rfl
  ·exact .inl rfl
  ·exact .inr (List.mem_flatMap.2 ⟨d, List.mem_of_getElem? hd, by simp [kids]⟩)
end Go.Proofs.YtljmcmdabdlldaaGreatDoor.load
namespace Go.Proofs.YtljmcmdabdlldaaGreatDoor.load
open Go.RowKit Go.Maps Go.Tre lex gr
theorem KS : Keyed Tryz.prog 9 := string_keyed Tryz.underlying9
theorem injS (a b : ByteArray) (h : Value.string a = Value.string b) : a = b := by injection h
theorem kyS (s : List UInt8) (h : s.length ≤ 4194304) : keyOf Tryz.prog 9 (.string ⟨s.toArray⟩) = some (.string s) := by
 have h' : (⟨s.toArray⟩ : ByteArray).size ≤ maxLen := by show s.toArray.size ≤ _; unfold maxLen; simp; omega
 simp [keyOf, Tryz.underlying9, mapKey, h']
theorem zp (w : World) : (zeroValue 61).run Tryz.prog w = .ok (.pointer none) w := by kernel_rfl
theorem look_bound {w : World} {ad : Nat → Addr} {mb n : Nat} {m : ByteArray → Option Nat} (h : MapIs Tryz.prog 9 Value.string (pv ad) w mb n m) (s : List UInt8) (hs : s.length ≤ 4194304) :
  (Instr.lookup 67 (.map (some mb)) (.string ⟨s.toArray⟩) false).run Tryz.prog w = .ok (match m ⟨s.toArray⟩ with | some i => .pointer (some (ad i)) | none => .pointer none) w := by
 have h1 := h.run_look KS injS Tryz.underlying67 (zp w) (kyS s hs)
 rw [h1]
 cases m ⟨s.toArray⟩ <;> rfl
set_option maxRecDepth 100000 in
set_option maxHeartbeats 8000000 in
theorem bind_any (w0 : World) (T : List Ent) (ad : Nat → Addr) (hE : EntsAt w0 T ad) (hS : SmallT T) (lb mb mv mm : Nat) (vN : Value) (K : Nat) : ∀ (i : Nat) (bd bd' : Bd) (rs : List Res) (w : World), bind1 T K i bd = some bd' →
  Mem w0 w (mapR Tryz.prog 9 Value.string (pv ad) mb bd.2 bd.1 :: cellsR lb 71 #[.map (some mb), .map (some mv), .map (some mm), vN, .int .i64 0] :: rs) →
  Calls Tryz.prog 44 #[.pointer (some ⟨lb, 0, none⟩), .pointer (some (ad i))] w fun e w' => e = .returned .nilIface ∧ Mem w0 w' (mapR Tryz.prog 9 Value.string (pv ad) mb bd'.2 bd'.1 :: cellsR lb 71 #[.map (some mb), .map (some mv), .map (some mm), vN, .int .i64 0] :: rs) := by
 induction K with
 | zero => intro i bd bd' rs w h; rw [bind1] at h; cases h
 | succ k ih =>
  intro i bd0 bd' rs w h hM
  rw [bind1] at h
  obtain ⟨e, he, h⟩ := Option.bind_eq_some_iff.1 h
  obtain ⟨bd1, hst, hfo⟩ := Option.bind_eq_some_iff.1 h
  obtain ⟨bd, n⟩ := bd0
  obtain ⟨b, off, aa, ca, al, cl, hadi, h0, h1, h2, h3, h4, h5, hpl, h6⟩ := hE.at_ i e he
  have IH : Hid (∀ (i : Nat) (bd bd' : Bd) (rs : List Res) (w : World), bind1 T k i bd = some bd' → Mem w0 w (mapR Tryz.prog 9 Value.string (pv ad) mb bd.2 bd.1 :: cellsR lb 71 #[.map (some mb), .map (some mv), .map (some mm), vN, .int .i64 0] :: rs) → Calls Tryz.prog 44 #[.pointer (some ⟨lb, 0, none⟩), .pointer (some (ad i))] w fun e w' => e = .returned .nilIface ∧ Mem w0 w' (mapR Tryz.prog 9 Value.string (pv ad) mb bd'.2 bd'.1 :: cellsR lb 71 #[.map (some mb), .map (some mv), .map (some mm), vN, .int .i64 0] :: rs)) := ih
  have HSL : Hid (e.s.length ≤ 4194304) := hS.s i e he
  have HAL : Hid (e.args.length ≤ 4194304) := hS.args i e he
  have HM := Tre.hid hM
  have HAR := Tre.hid h6
  have HFO := Tre.hid hfo
  have H2c := Tre.hid h2
  have H1c := Tre.hid h1
  have hb := hM.below
  have c0 := cell_below hb h0
  have c1 := cell_below hb h1
  have c2 := cell_below hb h2
  have l0 : w.cell? ⟨lb, 0, none⟩ = some (.map (some mb)) := hM.cell 1 rfl 0 rfl
  have hal : e.args.length ≤ 4194304 := HAL.out
  clear ih h hE hS hM h6 hfo h0 h1 h2 h3 h4 h5 hpl hb he
  rw [hadi]
  by_cases hk : e.kind = 4
  ·have ek : ((e.kind : Int) == 4) = true := by rw [hk]; rfl
   unfold stepB at hst
   rw [if_pos hk] at hst
   have hno : bd ⟨e.s.toArray⟩ = none := by
    cases hb : bd ⟨e.s.toArray⟩ with
    | none => rfl
    | some x => simp only [hb] at hst; cases hst
   simp only [hno] at hst
   cases hst
   have HNONE : Hid ((if (bd ⟨e.s.toArray⟩).isSome then n else n + 1) = n + 1) := by show _ = _; rw [hno]; rfl
   have HLK : Hid (∀ W, MapIs Tryz.prog 9 Value.string (pv ad) W mb n bd → (Instr.lookup 67 (.map (some mb)) (.string ⟨e.s.toArray⟩) false).run Tryz.prog W = .ok (.pointer none) W) := fun W hW => by
    have h := look_bound hW e.s HSL.out
    rw [hno] at h
    exact h
   clear hk hno
   go_enter Tryz.func44, Tryz.ntmps44
   go_wp2_with fail
   have cS : Cond (fun w' => w'.cell? ⟨lb, 0, none⟩ = some (.map (some mb)) ∧ w'.cell? ⟨b, off + 1, none⟩ = some (.string ⟨e.s.toArray⟩) ∧ (Instr.lookup 67 (.map (some mb)) (.string ⟨e.s.toArray⟩) false).run Tryz.prog w' = .ok (.pointer none) w') := ⟨⟩
   refine cS.keep [] ?_ (fun hH0 => ?_)
   ·exact ⟨l0, c1, HLK.out _ (HM.out.drew.map 0 rfl)⟩
   have HC1 : Hid (w0.cell? ⟨b, off + 1, none⟩ = some (.string ⟨e.s.toArray⟩)) := H1c
   have H0 := Tre.hid HM.out.drew
   generalize hq : w.drew = wq0 at H0 hH0 ⊢
   clear hq l0 c0 c1 c2 HM HLK
   refine lPq 0 (some 12) (v := ?_) rfl ?_ (keep_of hH0) ?_
   rotate_left
   ·intro w; go_simp <;> with_reducible rfl
   try simp only [Act.put, zqf, zqg, zqh]
   refine lPq 1 (some 13) (v := ?_) rfl ?_ (keep_of hH0) ?_
   rotate_left
   ·intro w; go_simp <;> with_reducible rfl
   try simp only [Act.put, zqf, zqg, zqh]
   refine lPq 2 (some 14) (v := ?_) rfl ?_ (keep_of hH0) ?_
   rotate_left
   ·intro w; go_simp <;> with_reducible rfl
   try simp only [Act.put, zqf, zqg, zqh]
   refine lPq 4 (some 16) (v := ?_) rfl ?_ (keep_of hH0) ?_
   rotate_left
   ·intro w; go_simp <;> with_reducible rfl
   try simp only [Act.put, zqf, zqg, zqh]
   refine lPq 5 (some 17) (v := ?_) rfl ?_ (keep_of hH0) ?_
   rotate_left
   ·intro w; go_simp <;> with_reducible rfl
   try simp only [Act.put, zqf, zqg, zqh]
   refine lPq 6 (some 18) (v := ?_) rfl ?_ (keep_of hH0) ?_
   rotate_left
   ·intro w; go_simp <;> with_reducible rfl
   try simp only [Act.put, zqf, zqg, zqh]
   refine lTq 3 (some 15) (v := ?_) rfl ?_ hH0 ?_
   rotate_left
   ·intro w hSw; (try dsimp only at hSw); go_simp <;> with_reducible rfl
   try simp only [Act.put, zqf, zqg, zqh]
   refine lTq 7 (some 19) (v := ?_) rfl ?_ hH0 ?_
   rotate_left
   ·intro w hSw; (try dsimp only at hSw); go_simp <;> with_reducible rfl
   try simp only [Act.put, zqf, zqg, zqh]
   refine lTq 8 (some 20) (v := ?_) rfl ?_ hH0 ?_
   rotate_left
   ·intro w hSw; (try dsimp only at hSw); go_simp <;> with_reducible rfl
   try simp only [Act.put, zqf, zqg, zqh]
   refine lPq 9 (some 21) (v := ?_) rfl ?_ (keep_of hH0) ?_
   rotate_left
   ·intro w; go_simp <;> with_reducible rfl
   try simp only [Act.put, zqf, zqg, zqh]
   refine lDone (by kernel_rfl) ?_
   clear hH0
   have hZ0 := H0
   go_wp2_with fail
   have cS : Cond (fun w' => w'.cell? ⟨lb, 0, none⟩ = some (.map (some mb)) ∧ w'.cell? ⟨b, off + 1, none⟩ = some (.string ⟨e.s.toArray⟩)) := ⟨⟩
   refine cS.keep [9] ?_ (fun hH0 => ?_)
   ·exact ⟨H0.out.drew.cell 1 rfl 0 rfl, cell_below H0.out.drew.below HC1.out⟩
   have HZ := Tre.hid H0.out.drew
   generalize hq : World.drew _ = wq1 at HZ hH0 ⊢
   clear hq H0 hZ0
   have H0 := HZ
   clear HZ
   generalize wq1 = wq0 at *
   refine lPq 0 (some 31) (v := ?_) rfl ?_ (keep_of hH0) ?_
   rotate_left
   ·intro w; go_simp <;> with_reducible rfl
   try simp only [Act.put, zqf, zqg, zqh]
   refine lPq 1 (some 32) (v := ?_) rfl ?_ (keep_of hH0) ?_
   rotate_left
   ·intro w; go_simp <;> with_reducible rfl
   try simp only [Act.put, zqf, zqg, zqh]
   refine lPq 2 (some 33) (v := ?_) rfl ?_ (keep_of hH0) ?_
   rotate_left
   ·intro w; go_simp <;> with_reducible rfl
   try simp only [Act.put, zqf, zqg, zqh]
   refine lPq 4 (some 35) (v := ?_) rfl ?_ (keep_of hH0) ?_
   rotate_left
   ·intro w; go_simp <;> with_reducible rfl
   try simp only [Act.put, zqf, zqg, zqh]
   refine lPq 5 (some 36) (v := ?_) rfl ?_ (keep_of hH0) ?_
   rotate_left
   ·intro w; go_simp <;> with_reducible rfl
   try simp only [Act.put, zqf, zqg, zqh]
   refine lPq 6 (some 37) (v := ?_) rfl ?_ (keep_of hH0) ?_
   rotate_left
   ·intro w; go_simp <;> with_reducible rfl
   try simp only [Act.put, zqf, zqg, zqh]
   refine lPq 8 (some 39) (v := ?_) rfl ?_ (keep_of hH0) ?_
   rotate_left
   ·intro w; go_simp <;> with_reducible rfl
   try simp only [Act.put, zqf, zqg, zqh]
   refine lTq 3 (some 34) (v := ?_) rfl ?_ hH0 ?_
   rotate_left
   ·intro w hSw; (try dsimp only at hSw); go_simp <;> with_reducible rfl
   try simp only [Act.put, zqf, zqg, zqh]
   refine lTq 7 (some 38) (v := ?_) rfl ?_ hH0 ?_
   rotate_left
   ·intro w hSw; (try dsimp only at hSw); go_simp <;> with_reducible rfl
   try simp only [Act.put, zqf, zqg, zqh]
   refine lOne 9 (by kernel_rfl) (LFall.op (by kernel_rfl) (fun K hK => ?_))
   obtain ⟨W2, hrun, hm2, hg2⟩ := (H0.out.map 0 rfl).run_store KS injS Tryz.underlying67 (kyS e.s HSL.out) i
   have hrun' : (Instr.mapUpdate 67 (.map (some mb)) (.string ⟨e.s.toArray⟩) (.pointer (some ⟨b, off, none⟩))).run Tryz.prog wq0 = .ok () W2 := by rw [← hadi]; exact hrun
   go_simp
   rw [HNONE.out] at hm2
   have H9 := H0.out.put 0 rfl hg2 hm2
   have HMB : Hid (Mem w0 W2 (mapR Tryz.prog 9 Value.string (pv ad) mb (n + 1) (upd bd ⟨e.s.toArray⟩ i) :: cellsR lb 71 #[.map (some mb), .map (some mv), .map (some mm), vN, .int .i64 0] :: rs)) := Tre.hid H9
   clear hm2 hg2 hrun hrun' H9
   refine hK.out _ _ ?_
   clear hK K hH0
   try simp only [Act.put, zqf, zqg, zqh]
   refine lDone (by kernel_rfl) ?_
   have c2' : W2.cell? ⟨b, off + 2, none⟩ = some (.slice aa e.args.length ca) := cell_below HMB.out.below H2c.out
   go_wp2_with fail
   go_loopw [45] (fun v45 wr => ∃ (q : Nat) (bdq : Bd), q ≤ e.args.length ∧ v45 = .int .i64 q ∧ Hid ((e.args.drop q).foldlM (fun bd j => bind1 T k j bd) bdq = some bd') ∧ Hid (Mem w0 wr (mapR Tryz.prog 9 Value.string (pv ad) mb bdq.2 bdq.1 :: cellsR lb 71 #[.map (some mb), .map (some mv), .map (some mm), vN, .int .i64 0] :: rs))) (fun v45 _ => e.args.length - (intOf v45).toNat)
   case atStart => exact ⟨0, (upd bd ⟨e.s.toArray⟩ i, n + 1), Nat.zero_le _, rfl, by show _ = _; rw [List.drop_zero]; exact HFO.out, HMB.out⟩
   case round =>
    obtain ⟨q, bdq, hq, rfl, HF, HM⟩ := hrel
    clear HMB c2'
    by_cases hlt : q < e.args.length
    ·obtain ⟨x, hx⟩ : ∃ x, e.args[q]? = some x := ⟨_, List.getElem?_eq_getElem hlt⟩
     obtain ⟨b', off', rfl, hadx⟩ := HAR.out q x hx
     have hf := HF.out
     rw [show e.args.drop q = x :: e.args.drop (q + 1) by obtain ⟨h1, h2⟩ := List.getElem?_eq_some_iff.1 hx; rw [List.drop_eq_getElem_cons h1, h2], List.foldlM_cons] at hf
     obtain ⟨bdx, hb1, hb2⟩ := Option.bind_eq_some_iff.1 hf
     have HC := Tre.hid (IH.out x bdq bdx _ _ hb1 HM.out)
     rw [hadx] at HC
     have HF2 := Tre.hid hb2
     have c2 : wr.cell? ⟨b, off + 2, none⟩ = some (.slice (some ⟨b', off', none⟩) e.args.length ca) := cell_below HM.out.below H2c.out
     clear hf hb1 hb2 hx hadx HF
     go_wp2_with fail
     refine HC.out.mono ?_
     rintro e' w3 ⟨rfl, M3⟩
     have HM3 := Tre.hid M3
     clear M3 c2 HC
     go_wp2_with fail
     go_roundw
     case rel => exact ⟨q + 1, bdx, by omega, by go_num, HF2.out, HM3.out⟩
     case measure => simp [intOf]; omega
    ·have hf := HF.out
     rw [List.drop_eq_nil_of_le (by omega), List.foldlM_nil] at hf
     cases hf
     go_wp2_with fail
     go_ret
     exact ⟨rfl, HM.out⟩
  ·have ek : ((e.kind : Int) == 4) = false := beq_eq_false_iff_ne.2 (by omega)
   unfold stepB at hst
   rw [if_neg hk] at hst
   cases hst
   clear hk
   have HMB := HM
   go_enter Tryz.func44, Tryz.ntmps44
   go_wp2_with fail
   go_loopw [45] (fun v45 wr => ∃ (q : Nat) (bdq : Bd), q ≤ e.args.length ∧ v45 = .int .i64 q ∧ Hid ((e.args.drop q).foldlM (fun bd j => bind1 T k j bd) bdq = some bd') ∧ Hid (Mem w0 wr (mapR Tryz.prog 9 Value.string (pv ad) mb bdq.2 bdq.1 :: cellsR lb 71 #[.map (some mb), .map (some mv), .map (some mm), vN, .int .i64 0] :: rs))) (fun v45 _ => e.args.length - (intOf v45).toNat)
   case atStart => exact ⟨0, (bd, n), Nat.zero_le _, rfl, by show _ = _; rw [List.drop_zero]; exact HFO.out, HMB.out⟩
   case round =>
    obtain ⟨q, bdq, hq, rfl, HF, HM⟩ := hrel
    clear HMB c0 c1 c2 l0
    by_cases hlt : q < e.args.length
    ·obtain ⟨x, hx⟩ : ∃ x, e.args[q]? = some x := ⟨_, List.getElem?_eq_getElem hlt⟩
     obtain ⟨b', off', rfl, hadx⟩ := HAR.out q x hx
     have hf := HF.out
     rw [show e.args.drop q = x :: e.args.drop (q + 1) by obtain ⟨h1, h2⟩ := List.getElem?_eq_some_iff.1 hx; rw [List.drop_eq_getElem_cons h1, h2], List.foldlM_cons] at hf
     obtain ⟨bdx, hb1, hb2⟩ := Option.bind_eq_some_iff.1 hf
     have HC := Tre.hid (IH.out x bdq bdx _ _ hb1 HM.out)
     rw [hadx] at HC
     have HF2 := Tre.hid hb2
     have c2 : wr.cell? ⟨b, off + 2, none⟩ = some (.slice (some ⟨b', off', none⟩) e.args.length ca) := cell_below HM.out.below H2c.out
     clear hf hb1 hb2 hx hadx HF
     go_wp2_with fail
     refine HC.out.mono ?_
     rintro e' w3 ⟨rfl, M3⟩
     have HM3 := Tre.hid M3
     clear M3 c2 HC
     go_wp2_with fail
     go_roundw
     case rel => exact ⟨q + 1, bdx, by omega, by go_num, HF2.out, HM3.out⟩
     case measure => simp [intOf]; omega
    ·have hf := HF.out
     rw [List.drop_eq_nil_of_le (by omega), List.foldlM_nil] at hf
     cases hf
     go_wp2_with fail
     go_ret
     exact ⟨rfl, HM.out⟩

end Go.Proofs.YtljmcmdabdlldaaGreatDoor.load
namespace Go.Tre
open Go.RowKit Go.Maps
theorem MapIs.run_len {α β : Type} {P : Program} {k : TypeId} {ek : α → Value} {ev : β → Value} {w : World} {b n : Nat} {m : α → Option β} {t e : TypeId} (h : MapIs P k ek ev w b n m) (ht : P.underlying t = some (.map k e)) (ty : TypeId) :
  (Builtin.len_ #[t] ty #[.map (some b)]).run P w = .ok (.int .i64 n) w := by
 obtain ⟨es, clock, hb, hn, _⟩ := h
 simp [Builtin.len_, run_underlying ht, MapKept.run_getObj_map hb, hn, goInt]
end Go.Tre
namespace Go.Proofs.YtljmcmdabdlldaaGreatDoor.load
open Go.RowKit Go.Maps Go.Tre lex gr
set_option maxRecDepth 100000 in
set_option maxHeartbeats 8000000 in
theorem follow_any (w0 : World) (T : List Ent) (ad : Nat → Addr) (hE : EntsAt w0 T ad) (hS : SmallT T) (lb mb mv mm : Nat) (vN : Value) (bd : ByteArray → Option Nat) (n : Nat) (hn : n ≤ 4194304) (rs : List Res) (i r : Nat) (w : World) (h : follow1 T bd (2 * n + 2) i = some r)
  (hM : Mem w0 w (cellsR lb 71 #[.map (some mb), .map (some mv), .map (some mm), vN, .int .i64 0] :: mapR Tryz.prog 9 Value.string (pv ad) mb n bd :: rs)) :
  Calls Tryz.prog 45 #[.pointer (some ⟨lb, 0, none⟩), .pointer (some (ad i))] w fun e w' => e = .returned (.tuple #[.pointer (some (ad r)), .nilIface]) ∧ Below w.heap.size w w' := by
 have HM := Tre.hid hM
 have l0 : w.cell? ⟨lb, 0, none⟩ = some (.map (some mb)) := hM.cell 0 rfl 0 rfl
 have hlen := (hM.map 1 rfl).run_len Tryz.underlying67 3
 have ew1 : IntKind.i64.wrap (2 * (n : Int)) = 2 * (n : Int) := IntWalk.i64_in _ (by omega)
 have ew2 : IntKind.i64.wrap (2 * (n : Int) + 2) = 2 * (n : Int) + 2 := IntWalk.i64_in _ (by omega)
 have HE := Tre.hid hE
 have HS := Tre.hid hS
 have HF := Tre.hid h
 clear hM hE hS h
 go_enter Tryz.func45, Tryz.ntmps45
 go_wp2_with fail
 clear l0 hlen ew1 ew2
 go_loopw [1, 14] (fun p v wr => ∃ (q x : Nat) (a : Addr), v = .int .i64 q ∧ p = .pointer (some a) ∧ Hid (ad x = a) ∧ Hid (follow1 T bd (2 * n + 2 - q) x = some r) ∧ q ≤ 2 * n + 2 ∧ Hid (Below w.heap.size w wr) ∧ Hid (Mem w0 wr (cellsR lb 71 #[.map (some mb), .map (some mv), .map (some mm), vN, .int .i64 0] :: mapR Tryz.prog 9 Value.string (pv ad) mb n bd :: rs))) (fun _ v _ => 2 * n + 2 - (intOf v).toNat)
 case atStart => exact ⟨0, i, ad i, rfl, rfl, rfl, HF.out, Nat.zero_le _, Below.refl _ _, HM.out⟩
 case round =>
  clear HM HF
  obtain ⟨q, x, a, rfl, rfl, hax, HF, hq, HB, HM⟩ := hrel
  obtain ⟨m, hm⟩ : ∃ m, 2 * n + 2 - q = m + 1 := by
   cases hz : 2 * n + 2 - q with
   | zero => have h := HF.out; rw [hz, follow1] at h; cases h
   | succ m => exact ⟨m, rfl⟩
  have hm' : 2 * n + 2 - (q + 1) = m := by omega
  have hql : (q : Int) < 2 * (n : Int) + 2 := by omega
  have hz0 := HF.out
  rw [hm, follow1] at hz0
  obtain ⟨e, he, h⟩ := Option.bind_eq_some_iff.1 hz0
  clear hz0
  obtain ⟨b, off, aa, ca, al, cl, hadx0, h0, h1, h2, h3, h4, h5, hpl, h6⟩ := HE.out.at_ x e he
  have : a = ⟨b, off, none⟩ := hax.out.symm.trans hadx0
  subst this
  have hb := HM.out.below
  have c0 := cell_below hb h0
  have c1 := cell_below hb h1
  have c2 := cell_below hb h2
  have l0 : wr.cell? ⟨lb, 0, none⟩ = some (.map (some mb)) := HM.out.cell 0 rfl 0 rfl
  have HSL : Hid (e.s.length ≤ 4194304) := HS.out.s x e he
  have HAR := Tre.hid h6
  have HMM := Tre.hid hm'
  clear HF hm hm' h0 h1 h2 h3 h4 h5 h6 hpl hadx0 hb he
  by_cases h4 : e.kind = 4
  ·have ek : ((e.kind : Int) == 4) = true := by rw [h4]; rfl
   rw [if_pos h4] at h
   obtain ⟨x', hx', hz1⟩ := Option.bind_eq_some_iff.1 h
   obtain ⟨b', off', rfl, hadx⟩ := HAR.out 0 x' hx'
   have hl0 : 0 < e.args.length := (List.getElem?_eq_some_iff.1 hx').1
   have hl1 : (0 : Int) < e.args.length := by omega
   have HF2 : Hid (follow1 T bd (2 * n + 2 - (q + 1)) x' = some r) := by show _ = _; rw [HMM.out]; exact hz1
   have hadx' : ad x' = ⟨b', off', none⟩ := by rw [hadx]; simp
   have HAD := Tre.hid hadx'
   clear h hz1 h4 hx' hadx hadx'
   go_wp2_with fail
   go_roundw
   case rel => exact ⟨q + 1, x', ⟨b', off', none⟩, by go_num, rfl, HAD.out, HF2.out, by omega, HB.out, HM.out⟩
   case measure => simp [intOf]; omega
  ·have ek : ((e.kind : Int) == 4) = false := beq_eq_false_iff_ne.2 (by omega)
   rw [if_neg h4] at h
   by_cases h1 : e.kind = 1
   ·have ek1 : ((e.kind : Int) == 1) = true := by rw [h1]; rfl
    rw [if_pos h1] at h
    cases hbd : bd ⟨e.s.toArray⟩ with
    | some x' =>
     rw [hbd] at h
     have HLK : Hid (∀ W, MapIs Tryz.prog 9 Value.string (pv ad) W mb n bd → (Instr.lookup 67 (.map (some mb)) (.string ⟨e.s.toArray⟩) false).run Tryz.prog W = .ok (.pointer (some (ad x'))) W) := fun W hW => by
      have h := look_bound hW e.s HSL.out
      rw [hbd] at h
      exact h
     have HF2 : Hid (follow1 T bd (2 * n + 2 - (q + 1)) x' = some r) := by show _ = _; rw [HMM.out]; exact h
     clear h h4 h1 hbd
     go_wp2_with fail
     have cS : Cond (fun w' => w'.cell? ⟨lb, 0, none⟩ = some (.map (some mb)) ∧ w'.cell? ⟨b, off + 1, none⟩ = some (.string ⟨e.s.toArray⟩) ∧ (Instr.lookup 67 (.map (some mb)) (.string ⟨e.s.toArray⟩) false).run Tryz.prog w' = .ok (.pointer (some (ad x'))) w') := ⟨⟩
     refine cS.keep [] ?_ (fun hH0 => ?_)
     ·exact ⟨l0, c1, HLK.out _ (HM.out.drew.map 1 rfl)⟩
     have H0 := Tre.hid HM.out.drew
     have B0 := Tre.hid (HB.out.drew)
     generalize hq : wr.drew = wq0 at H0 B0 hH0 ⊢
     clear hq l0 c0 c1 c2 HM HLK
     refine lPq 0 (some 29) (v := ?_) rfl ?_ (keep_of hH0) ?_
     rotate_left
     ·intro w; go_simp <;> with_reducible rfl
     try simp only [Act.put, zqf, zqg, zqh]
     refine lPq 1 (some 30) (v := ?_) rfl ?_ (keep_of hH0) ?_
     rotate_left
     ·intro w; go_simp <;> with_reducible rfl
     try simp only [Act.put, zqf, zqg, zqh]
     refine lPq 2 (some 31) (v := ?_) rfl ?_ (keep_of hH0) ?_
     rotate_left
     ·intro w; go_simp <;> with_reducible rfl
     try simp only [Act.put, zqf, zqg, zqh]
     refine lPq 4 (some 33) (v := ?_) rfl ?_ (keep_of hH0) ?_
     rotate_left
     ·intro w; go_simp <;> with_reducible rfl
     try simp only [Act.put, zqf, zqg, zqh]
     refine lPq 5 (some 34) (v := ?_) rfl ?_ (keep_of hH0) ?_
     rotate_left
     ·intro w; go_simp <;> with_reducible rfl
     try simp only [Act.put, zqf, zqg, zqh]
     refine lPq 6 (some 35) (v := ?_) rfl ?_ (keep_of hH0) ?_
     rotate_left
     ·intro w; go_simp <;> with_reducible rfl
     try simp only [Act.put, zqf, zqg, zqh]
     refine lTq 3 (some 32) (v := ?_) rfl ?_ hH0 ?_
     rotate_left
     ·intro w hSw; (try dsimp only at hSw); go_simp <;> with_reducible rfl
     try simp only [Act.put, zqf, zqg, zqh]
     refine lTq 7 (some 36) (v := ?_) rfl ?_ hH0 ?_
     rotate_left
     ·intro w hSw; (try dsimp only at hSw); go_simp <;> with_reducible rfl
     try simp only [Act.put, zqf, zqg, zqh]
     refine lTq 8 (some 37) (v := ?_) rfl ?_ hH0 ?_
     rotate_left
     ·intro w hSw; (try dsimp only at hSw); go_simp <;> with_reducible rfl
     try simp only [Act.put, zqf, zqg, zqh]
     refine lPq 9 (some 6) (v := ?_) rfl ?_ (keep_of hH0) ?_
     rotate_left
     ·intro w; go_simp <;> with_reducible rfl
     try simp only [Act.put, zqf, zqg, zqh]
     refine lDone (by kernel_rfl) ?_
     clear hH0
     go_wp2_with fail
     go_roundw
     case rel => exact ⟨q + 1, x', ad x', by go_num, rfl, rfl, HF2.out, by omega, B0.out, H0.out⟩
     case measure => simp [intOf]; omega

    | none =>
     rw [hbd] at h
     have HLK : Hid (∀ W, MapIs Tryz.prog 9 Value.string (pv ad) W mb n bd → (Instr.lookup 67 (.map (some mb)) (.string ⟨e.s.toArray⟩) false).run Tryz.prog W = .ok (.pointer none) W) := fun W hW => by
      have h := look_bound hW e.s HSL.out
      rw [hbd] at h
      exact h
     obtain rfl : x = r := by injection h
     clear h h4 h1 hbd
     go_wp2_with fail
     have cS : Cond (fun w' => w'.cell? ⟨lb, 0, none⟩ = some (.map (some mb)) ∧ w'.cell? ⟨b, off + 1, none⟩ = some (.string ⟨e.s.toArray⟩) ∧ (Instr.lookup 67 (.map (some mb)) (.string ⟨e.s.toArray⟩) false).run Tryz.prog w' = .ok (.pointer none) w') := ⟨⟩
     refine cS.keep [] ?_ (fun hH0 => ?_)
     ·exact ⟨l0, c1, HLK.out _ (HM.out.drew.map 1 rfl)⟩
     have H0 := Tre.hid HM.out.drew
     have B0 := Tre.hid (HB.out.drew)
     generalize hq : wr.drew = wq0 at H0 B0 hH0 ⊢
     clear hq l0 c0 c1 c2 HM HLK
     refine lPq 0 (some 29) (v := ?_) rfl ?_ (keep_of hH0) ?_
     rotate_left
     ·intro w; go_simp <;> with_reducible rfl
     try simp only [Act.put, zqf, zqg, zqh]
     refine lPq 1 (some 30) (v := ?_) rfl ?_ (keep_of hH0) ?_
     rotate_left
     ·intro w; go_simp <;> with_reducible rfl
     try simp only [Act.put, zqf, zqg, zqh]
     refine lPq 2 (some 31) (v := ?_) rfl ?_ (keep_of hH0) ?_
     rotate_left
     ·intro w; go_simp <;> with_reducible rfl
     try simp only [Act.put, zqf, zqg, zqh]
     refine lPq 4 (some 33) (v := ?_) rfl ?_ (keep_of hH0) ?_
     rotate_left
     ·intro w; go_simp <;> with_reducible rfl
     try simp only [Act.put, zqf, zqg, zqh]
     refine lPq 5 (some 34) (v := ?_) rfl ?_ (keep_of hH0) ?_
     rotate_left
     ·intro w; go_simp <;> with_reducible rfl
     try simp only [Act.put, zqf, zqg, zqh]
     refine lPq 6 (some 35) (v := ?_) rfl ?_ (keep_of hH0) ?_
     rotate_left
     ·intro w; go_simp <;> with_reducible rfl
     try simp only [Act.put, zqf, zqg, zqh]
     refine lTq 3 (some 32) (v := ?_) rfl ?_ hH0 ?_
     rotate_left
     ·intro w hSw; (try dsimp only at hSw); go_simp <;> with_reducible rfl
     try simp only [Act.put, zqf, zqg, zqh]
     refine lTq 7 (some 36) (v := ?_) rfl ?_ hH0 ?_
     rotate_left
     ·intro w hSw; (try dsimp only at hSw); go_simp <;> with_reducible rfl
     try simp only [Act.put, zqf, zqg, zqh]
     refine lTq 8 (some 37) (v := ?_) rfl ?_ hH0 ?_
     rotate_left
     ·intro w hSw; (try dsimp only at hSw); go_simp <;> with_reducible rfl
     try simp only [Act.put, zqf, zqg, zqh]
     refine lPq 9 (some 6) (v := ?_) rfl ?_ (keep_of hH0) ?_
     rotate_left
     ·intro w; go_simp <;> with_reducible rfl
     try simp only [Act.put, zqf, zqg, zqh]
     refine lDone (by kernel_rfl) ?_
     clear hH0
     go_wp2_with fail
     go_ret2
     exact ⟨by rw [hax.out]; rfl, B0.out⟩

   ·have ek1 : ((e.kind : Int) == 1) = false := beq_eq_false_iff_ne.2 (by omega)
    rw [if_neg h1] at h
    obtain rfl : x = r := by injection h
    clear h h4 h1
    go_wp2_with fail
    go_ret2
    exact ⟨by rw [hax.out]; rfl, HB.out⟩
end Go.Proofs.YtljmcmdabdlldaaGreatDoor.load
namespace Go.Tre
open Go.RowKit
theorem sameB_true {g h : Tre.Graph} (s : SameG g h) : sameB g h = true := by unfold sameB; simp [s]
end Go.Tre
namespace Go.Proofs.YtljmcmdabdlldaaGreatDoor.gr
open Go.RowKit Go.Shelf Go.Maps Go.Tre lex
theorem infoN : (Tryz.prog.info? 39).map (fun i => (i.zero, i.size, i.bytes)) = some (some (.agg #[.int .i64 0, .string ByteArray.empty, .slice none 0 0, .slice none 0 0, .bool false]), 5, 80) := by kernel_rfl
theorem five {w0 w : World} {rs : List Res} {b : Nat} {t : TypeId} {x0 x1 x2 x3 x4 : Value} (h : Mem w0 w rs) (i : Nat) (hi : rs[i]? = some (cellsR b t #[x0, x1, x2, x3, x4])) :
  w.cell? ⟨b, 0, none⟩ = some x0 ∧ w.cell? ⟨b, 1, none⟩ = some x1 ∧ w.cell? ⟨b, 2, none⟩ = some x2 ∧ w.cell? ⟨b, 3, none⟩ = some x3 ∧ w.cell? ⟨b, 4, none⟩ = some x4 :=
 ⟨h.cell i hi 0 rfl, h.cell i hi 1 rfl, h.cell i hi 2 rfl, h.cell i hi 3 rfl, h.cell i hi 4 rfl⟩
end Go.Proofs.YtljmcmdabdlldaaGreatDoor.gr
