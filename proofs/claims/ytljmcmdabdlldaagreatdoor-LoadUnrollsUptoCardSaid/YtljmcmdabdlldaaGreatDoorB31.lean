/- load: (*loader).bind, whatever it comes to. load: (*loader).follow, where it comes to no end. Ranging over a map that a call holds, one of whose entries ends it: that one is met. -/
import Derived.Test.YtljmcmdabdlldaaGreatDoorB21
import Derived.Test.YtljmcmdabdlldaaGreatDoorB30
import Derived.Test.YtljmcmdabdlldaaGreatDoorB09
import Derived.Test.YtljmcmdabdlldaaGreatDoorB24
set_option linter.unusedVariables false
namespace Go.Proofs.YtljmcmdabdlldaaGreatDoor.load
open Go.RowKit Go.Maps Go.Tre lex gr
theorem neq_nil (t : TypeId) (v : Value) (w : World) : (binOp .neq 58 (.iface t v) .nilIface).run Tryz.prog w = .ok (.bool true) w := by
 have h : ∀ d : Nat, (Op.equalIn (d + 1) 58 (.iface t v) .nilIface).run Tryz.prog w = .ok false w := fun d => by
  simp [Op.equalIn, run_underlying Tryz.underlying58]
 simp only [binOp]
 simp [Op.equal, Op.maxDepth, h 9999]
set_option maxRecDepth 100000 in
theorem new_error (s : ByteArray) (w : World) : Calls Tryz.prog 63 #[.string s] w fun e w' => e = .returned (.iface 174 (.pointer (some ⟨w.heap.size, 0, none⟩))) ∧ w' = w.alloc (.cells #[.string s] 176) := by
 go_enter Tryz.func63, Tryz.ntmps63
 go_wp2_with fail
 go_ret
 exact ⟨rfl, rfl⟩
def BadAt (w0 w : World) (v2 e : Value) (rs : List Res) : Prop := ∃ (q r c : Nat) (p : Value), e = .iface 171 (.pointer (some ⟨q, 0, none⟩)) ∧
 Mem w0 w (cellsR q 173 #[.slice (some ⟨r, 0, none⟩) 2 c] :: rowR 58 1 (.slice (some ⟨r, 0, none⟩) 2 c) 2 [.iface 174 p, v2] :: rs)
theorem bad_join {w0 w w3 : World} {rs : List Res} {v2 vj : Value} {q z y : Nat} {t1 t2 : TypeId} {cs1 cs2 : Array Value} {p : Value} (h : Mem w0 w (cellsR z t2 cs2 :: cellsR y t1 cs1 :: rs)) (m3 : Mem w w3 [cellsR q 173 #[vj], rowR 58 1 vj 2 [.iface 174 p, v2]]) :
  BadAt w0 w3 v2 (.iface 171 (.pointer (some ⟨q, 0, none⟩))) rs := by
 obtain ⟨r, c, rfl, _, _⟩ := m3.pos 1 rfl
 exact ⟨q, r, c, p, rfl, (((h.call m3).del 2).del 2)⟩
def BindPost (w0 : World) (ad : Nat → Addr) (lb mb mv mm : Nat) (vN : Value) (rs : List Res) (o : Option Bd) (e : Ending) (w' : World) : Prop :=
 match o with
 | some bd' => e = .returned .nilIface ∧ Mem w0 w' (mapR Tryz.prog 9 Value.string (pv ad) mb bd'.2 bd'.1 :: cellsR lb 71 #[.map (some mb), .map (some mv), .map (some mm), vN, .int .i64 0] :: rs)
 | none => ∃ (v : Value) (bd' : Bd), e = .returned v ∧ BadAt w0 w' errs.vTwo v (mapR Tryz.prog 9 Value.string (pv ad) mb bd'.2 bd'.1 :: cellsR lb 71 #[.map (some mb), .map (some mv), .map (some mm), vN, .int .i64 0] :: rs)
set_option maxRecDepth 100000 in
set_option maxHeartbeats 8000000 in
theorem bind_all (w0 : World) (T : List Ent) (ad : Nat → Addr) (hE : EntsAt w0 T ad) (hS : SmallT T) (hR : Rises T) (lb mb mv mm : Nat) (vN : Value) (K : Nat) : ∀ (i : Nat) (bd : Bd) (o : Option Bd) (rs : List Res) (w : World), i < T.length → T.length ≤ K + i → bind1 T K i bd = o →
  Mem w0 w (mapR Tryz.prog 9 Value.string (pv ad) mb bd.2 bd.1 :: cellsR lb 71 #[.map (some mb), .map (some mv), .map (some mm), vN, .int .i64 0] :: rs) →
  Calls Tryz.prog 44 #[.pointer (some ⟨lb, 0, none⟩), .pointer (some (ad i))] w (BindPost w0 ad lb mb mv mm vN rs o) := by
 induction K with
 | zero => intro i bd o rs w h1 h2; omega
 | succ k ih =>
  intro i bd0 o rs w hil hkl h hM
  rw [bind1] at h
  obtain ⟨e, he⟩ : ∃ e, T[i]? = some e := ⟨_, List.getElem?_eq_getElem hil⟩
  rw [he, Option.bind_some] at h
  obtain ⟨bd, n⟩ := bd0
  obtain ⟨b, off, aa, ca, al, cl, hadi, h0, h1, h2, h3, h4, h5, hpl, h6⟩ := hE.at_ i e he
  have IH : Hid (∀ (i : Nat) (bd : Bd) (o : Option Bd) (rs : List Res) (w : World), i < T.length → T.length ≤ k + i → bind1 T k i bd = o → Mem w0 w (mapR Tryz.prog 9 Value.string (pv ad) mb bd.2 bd.1 :: cellsR lb 71 #[.map (some mb), .map (some mv), .map (some mm), vN, .int .i64 0] :: rs) → Calls Tryz.prog 44 #[.pointer (some ⟨lb, 0, none⟩), .pointer (some (ad i))] w (BindPost w0 ad lb mb mv mm vN rs o)) := ih
  have HUP : Hid (∀ j ∈ e.args, j < T.length ∧ T.length ≤ k + j) := fun j hj => by have := hR i e he j hj; omega
  have HSL : Hid (e.s.length ≤ 4194304) := hS.s i e he
  have HAL : Hid (e.args.length ≤ 4194304) := hS.args i e he
  have HM := Tre.hid hM
  have HAR := Tre.hid h6
  have H2c := Tre.hid h2
  have H1c := Tre.hid h1
  have hb := hM.below
  have c0 := cell_below hb h0
  have c1 := cell_below hb h1
  have c2 := cell_below hb h2
  have l0 : w.cell? ⟨lb, 0, none⟩ = some (.map (some mb)) := hM.cell 1 rfl 0 rfl
  have hal : e.args.length ≤ 4194304 := HAL.out
  have HNN := Tre.hid neq_nil
  clear ih hE hS hR hM h6 h0 h1 h2 h3 h4 h5 hpl hb he hil hkl
  rw [hadi]
  by_cases hk : e.kind = 4
  ·have ek : ((e.kind : Int) == 4) = true := by rw [hk]; rfl
   unfold stepB at h
   rw [if_pos hk] at h
   clear hk
   cases hno : bd ⟨e.s.toArray⟩ with
   | some x0 =>
    simp only [hno, Option.isSome_some, if_true, Option.bind_none] at h
    subst h
    have HLK : Hid (∀ W, MapIs Tryz.prog 9 Value.string (pv ad) W mb n bd → (Instr.lookup 67 (.map (some mb)) (.string ⟨e.s.toArray⟩) false).run Tryz.prog W = .ok (.pointer (some (ad x0))) W) := fun W hW => by
     have h := look_bound hW e.s HSL.out
     rw [hno] at h
     exact h
    clear hno
    go_enter Tryz.func44, Tryz.ntmps44
    go_wp2_with fail
    have cS : Cond (fun w' => w'.cell? ⟨lb, 0, none⟩ = some (.map (some mb)) ∧ w'.cell? ⟨b, off + 1, none⟩ = some (.string ⟨e.s.toArray⟩) ∧ (Instr.lookup 67 (.map (some mb)) (.string ⟨e.s.toArray⟩) false).run Tryz.prog w' = .ok (.pointer (some (ad x0))) w') := ⟨⟩
    refine cS.keep [] ?_ (fun hH0 => ?_)
    ·exact ⟨l0, c1, HLK.out _ (HM.out.drew.map 0 rfl)⟩
    have HC1 : Hid (w0.cell? ⟨b, off + 1, none⟩ = some (.string ⟨e.s.toArray⟩)) := H1c
    have H0 := Tre.hid HM.out.drew
    generalize hq : w.drew = wq0 at H0 hH0 ⊢
    clear hq l0 c0 c1 c2 HM HLK
    refine lPq 0 (some 12) (v := ?_) rfl ?_ (keep_of hH0) ?_
    rotate_left
    ·intro w; go_simp <;> with_reducible rfl
    try simp only [Act.put, zqf, zqg, zqh]
    refine lPq 1 (some 13) (v := ?_) rfl ?_ (keep_of hH0) ?_
    rotate_left
    ·intro w; go_simp <;> with_reducible rfl
    try simp only [Act.put, zqf, zqg, zqh]
    refine lPq 2 (some 14) (v := ?_) rfl ?_ (keep_of hH0) ?_
    rotate_left
    ·intro w; go_simp <;> with_reducible rfl
    try simp only [Act.put, zqf, zqg, zqh]
    refine lPq 4 (some 16) (v := ?_) rfl ?_ (keep_of hH0) ?_
    rotate_left
    ·intro w; go_simp <;> with_reducible rfl
    try simp only [Act.put, zqf, zqg, zqh]
    refine lPq 5 (some 17) (v := ?_) rfl ?_ (keep_of hH0) ?_
    rotate_left
    ·intro w; go_simp <;> with_reducible rfl
    try simp only [Act.put, zqf, zqg, zqh]
    refine lPq 6 (some 18) (v := ?_) rfl ?_ (keep_of hH0) ?_
    rotate_left
    ·intro w; go_simp <;> with_reducible rfl
    try simp only [Act.put, zqf, zqg, zqh]
    refine lTq 3 (some 15) (v := ?_) rfl ?_ hH0 ?_
    rotate_left
    ·intro w hSw; (try dsimp only at hSw); go_simp <;> with_reducible rfl
    try simp only [Act.put, zqf, zqg, zqh]
    refine lTq 7 (some 19) (v := ?_) rfl ?_ hH0 ?_
    rotate_left
    ·intro w hSw; (try dsimp only at hSw); go_simp <;> with_reducible rfl
    try simp only [Act.put, zqf, zqg, zqh]
    refine lTq 8 (some 20) (v := ?_) rfl ?_ hH0 ?_
    rotate_left
    ·intro w hSw; (try dsimp only at hSw); go_simp <;> with_reducible rfl
    try simp only [Act.put, zqf, zqg, zqh]
    refine lPq 9 (some 21) (v := ?_) rfl ?_ (keep_of hH0) ?_
    rotate_left
    ·intro w; go_simp <;> with_reducible rfl
    try simp only [Act.put, zqf, zqg, zqh]
    refine lDone (by kernel_rfl) ?_
    have c1' : wq0.cell? ⟨b, off + 1, none⟩ = some (.string ⟨e.s.toArray⟩) := cell_below H0.out.below HC1.out
    clear hH0
    go_wp2_with fail
    refine (new_error _ _).mono ?_
    rintro e' w1 ⟨rfl, rfl⟩
    have M2 := (H0.out.allocR #[.string ⟨e.s.toArray⟩] 176).allocR #[.iface 174 (.pointer (some ⟨wq0.heap.size, 0, none⟩)), errs.vTwo] 58
    rw [World.size_alloc] at M2
    have q0 := M2.cell 0 rfl 0 rfl
    have q1 := M2.cell 0 rfl 1 rfl
    have HM2 := Tre.hid M2
    have HQ0 := Tre.hid q0
    have HQ1 := Tre.hid q1
    clear c1' M2 q0 q1
    go_wp2_with fail
    refine (errs.join2 _ 0 2 _ _ _ _ _ HQ0.out HQ1.out (by omega)).mono ?_
    rintro e' w3 ⟨q, vj, rfl, m3⟩
    have HB := Tre.hid (bad_join HM2.out m3)
    clear m3 HQ0 HQ1 HM2
    go_wp2_with fail
    go_ret
    exact ⟨_, (bd, n), rfl, HB.out⟩
   | none =>
    simp only [hno, Option.isSome_none, Bool.false_eq_true, if_false, Option.bind_some] at h
    have HFO := Tre.hid h
    clear h
    have HNONE : Hid ((if (bd ⟨e.s.toArray⟩).isSome then n else n + 1) = n + 1) := by show _ = _; rw [hno]; rfl
    have HLK : Hid (∀ W, MapIs Tryz.prog 9 Value.string (pv ad) W mb n bd → (Instr.lookup 67 (.map (some mb)) (.string ⟨e.s.toArray⟩) false).run Tryz.prog W = .ok (.pointer none) W) := fun W hW => by
     have h := look_bound hW e.s HSL.out
     rw [hno] at h
     exact h
    clear hno
    go_enter Tryz.func44, Tryz.ntmps44
    go_wp2_with fail
    have cS : Cond (fun w' => w'.cell? ⟨lb, 0, none⟩ = some (.map (some mb)) ∧ w'.cell? ⟨b, off + 1, none⟩ = some (.string ⟨e.s.toArray⟩) ∧ (Instr.lookup 67 (.map (some mb)) (.string ⟨e.s.toArray⟩) false).run Tryz.prog w' = .ok (.pointer none) w') := ⟨⟩
    refine cS.keep [] ?_ (fun hH0 => ?_)
    ·exact ⟨l0, c1, HLK.out _ (HM.out.drew.map 0 rfl)⟩
    have HC1 : Hid (w0.cell? ⟨b, off + 1, none⟩ = some (.string ⟨e.s.toArray⟩)) := H1c
    have H0 := Tre.hid HM.out.drew
    generalize hq : w.drew = wq0 at H0 hH0 ⊢
    clear hq l0 c0 c1 c2 HM HLK
    refine lPq 0 (some 12) (v := ?_) rfl ?_ (keep_of hH0) ?_
    rotate_left
    ·intro w; go_simp <;> with_reducible rfl
    try simp only [Act.put, zqf, zqg, zqh]
    refine lPq 1 (some 13) (v := ?_) rfl ?_ (keep_of hH0) ?_
    rotate_left
    ·intro w; go_simp <;> with_reducible rfl
    try simp only [Act.put, zqf, zqg, zqh]
    refine lPq 2 (some 14) (v := ?_) rfl ?_ (keep_of hH0) ?_
    rotate_left
    ·intro w; go_simp <;> with_reducible rfl
    try simp only [Act.put, zqf, zqg, zqh]
    refine lPq 4 (some 16) (v := ?_) rfl ?_ (keep_of hH0) ?_
    rotate_left
    ·intro w; go_simp <;> with_reducible rfl
    try simp only [Act.put, zqf, zqg, zqh]
    refine lPq 5 (some 17) (v := ?_) rfl ?_ (keep_of hH0) ?_
    rotate_left
    ·intro w; go_simp <;> with_reducible rfl
    try simp only [Act.put, zqf, zqg, zqh]
    refine lPq 6 (some 18) (v := ?_) rfl ?_ (keep_of hH0) ?_
    rotate_left
    ·intro w; go_simp <;> with_reducible rfl
    try simp only [Act.put, zqf, zqg, zqh]
    refine lTq 3 (some 15) (v := ?_) rfl ?_ hH0 ?_
    rotate_left
    ·intro w hSw; (try dsimp only at hSw); go_simp <;> with_reducible rfl
    try simp only [Act.put, zqf, zqg, zqh]
    refine lTq 7 (some 19) (v := ?_) rfl ?_ hH0 ?_
    rotate_left
    ·intro w hSw; (try dsimp only at hSw); go_simp <;> with_reducible rfl
    try simp only [Act.put, zqf, zqg, zqh]
    refine lTq 8 (some 20) (v := ?_) rfl ?_ hH0 ?_
    rotate_left
    ·intro w hSw; (try dsimp only at hSw); go_simp <;> with_reducible rfl
    try simp only [Act.put, zqf, zqg, zqh]
    refine lPq 9 (some 21) (v := ?_) rfl ?_ (keep_of hH0) ?_
    rotate_left
    ·intro w; go_simp <;> with_reducible rfl
    try simp only [Act.put, zqf, zqg, zqh]
    refine lDone (by kernel_rfl) ?_
    clear hH0
    have hZ0 := H0
    go_wp2_with fail
    have cS : Cond (fun w' => w'.cell? ⟨lb, 0, none⟩ = some (.map (some mb)) ∧ w'.cell? ⟨b, off + 1, none⟩ = some (.string ⟨e.s.toArray⟩)) := ⟨⟩
    refine cS.keep [9] ?_ (fun hH0 => ?_)
    ·exact ⟨H0.out.drew.cell 1 rfl 0 rfl, cell_below H0.out.drew.below HC1.out⟩
    have HZ := Tre.hid H0.out.drew
    generalize hq : World.drew _ = wq1 at HZ hH0 ⊢
    clear hq H0 hZ0
    have H0 := HZ
    clear HZ
    generalize wq1 = wq0 at *
    refine lPq 0 (some 31) (v := ?_) rfl ?_ (keep_of hH0) ?_
    rotate_left
    ·intro w; go_simp <;> with_reducible rfl
    try simp only [Act.put, zqf, zqg, zqh]
    refine lPq 1 (some 32) (v := ?_) rfl ?_ (keep_of hH0) ?_
    rotate_left
    ·intro w; go_simp <;> with_reducible rfl
    try simp only [Act.put, zqf, zqg, zqh]
    refine lPq 2 (some 33) (v := ?_) rfl ?_ (keep_of hH0) ?_
    rotate_left
    ·intro w; go_simp <;> with_reducible rfl
    try simp only [Act.put, zqf, zqg, zqh]
    refine lPq 4 (some 35) (v := ?_) rfl ?_ (keep_of hH0) ?_
    rotate_left
    ·intro w; go_simp <;> with_reducible rfl
    try simp only [Act.put, zqf, zqg, zqh]
    refine lPq 5 (some 36) (v := ?_) rfl ?_ (keep_of hH0) ?_
    rotate_left
    ·intro w; go_simp <;> with_reducible rfl
    try simp only [Act.put, zqf, zqg, zqh]
    refine lPq 6 (some 37) (v := ?_) rfl ?_ (keep_of hH0) ?_
    rotate_left
    ·intro w; go_simp <;> with_reducible rfl
    try simp only [Act.put, zqf, zqg, zqh]
    refine lPq 8 (some 39) (v := ?_) rfl ?_ (keep_of hH0) ?_
    rotate_left
    ·intro w; go_simp <;> with_reducible rfl
    try simp only [Act.put, zqf, zqg, zqh]
    refine lTq 3 (some 34) (v := ?_) rfl ?_ hH0 ?_
    rotate_left
    ·intro w hSw; (try dsimp only at hSw); go_simp <;> with_reducible rfl
    try simp only [Act.put, zqf, zqg, zqh]
    refine lTq 7 (some 38) (v := ?_) rfl ?_ hH0 ?_
    rotate_left
    ·intro w hSw; (try dsimp only at hSw); go_simp <;> with_reducible rfl
    try simp only [Act.put, zqf, zqg, zqh]
    refine lOne 9 (by kernel_rfl) (LFall.op (by kernel_rfl) (fun K hK => ?_))
    obtain ⟨W2, hrun, hm2, hg2⟩ := (H0.out.map 0 rfl).run_store KS injS Tryz.underlying67 (kyS e.s HSL.out) i
    have hrun' : (Instr.mapUpdate 67 (.map (some mb)) (.string ⟨e.s.toArray⟩) (.pointer (some ⟨b, off, none⟩))).run Tryz.prog wq0 = .ok () W2 := by rw [← hadi]; exact hrun
    go_simp
    rw [HNONE.out] at hm2
    have H9 := H0.out.put 0 rfl hg2 hm2
    have HMB : Hid (Mem w0 W2 (mapR Tryz.prog 9 Value.string (pv ad) mb (n + 1) (upd bd ⟨e.s.toArray⟩ i) :: cellsR lb 71 #[.map (some mb), .map (some mv), .map (some mm), vN, .int .i64 0] :: rs)) := Tre.hid H9
    clear hm2 hg2 hrun hrun' H9
    refine hK.out _ _ ?_
    clear hK K hH0
    try simp only [Act.put, zqf, zqg, zqh]
    refine lDone (by kernel_rfl) ?_
    have c2' : W2.cell? ⟨b, off + 2, none⟩ = some (.slice aa e.args.length ca) := cell_below HMB.out.below H2c.out
    go_wp2_with fail
    go_loopw [45] (fun v45 wr => ∃ (q : Nat) (bdq : Bd), q ≤ e.args.length ∧ v45 = .int .i64 q ∧ Hid ((e.args.drop q).foldlM (fun bd j => bind1 T k j bd) bdq = o) ∧ Hid (Mem w0 wr (mapR Tryz.prog 9 Value.string (pv ad) mb bdq.2 bdq.1 :: cellsR lb 71 #[.map (some mb), .map (some mv), .map (some mm), vN, .int .i64 0] :: rs))) (fun v45 _ => e.args.length - (intOf v45).toNat)
    case atStart => exact ⟨0, (upd bd ⟨e.s.toArray⟩ i, n + 1), Nat.zero_le _, rfl, by show _ = _; rw [List.drop_zero]; exact HFO.out, HMB.out⟩
    case round =>
     obtain ⟨q, bdq, hq, rfl, HF, HM⟩ := hrel
     clear HMB c2'
     by_cases hlt : q < e.args.length
     ·obtain ⟨x, hx⟩ : ∃ x, e.args[q]? = some x := ⟨_, List.getElem?_eq_getElem hlt⟩
      obtain ⟨b', off', rfl, hadx⟩ := HAR.out q x hx
      have hf := HF.out
      rw [show e.args.drop q = x :: e.args.drop (q + 1) by obtain ⟨h1, h2⟩ := List.getElem?_eq_some_iff.1 hx; rw [List.drop_eq_getElem_cons h1, h2], List.foldlM_cons] at hf
      have hup := HUP.out x (List.mem_of_getElem? hx)
      have HC := Tre.hid (IH.out x bdq _ _ _ hup.1 hup.2 rfl HM.out)
      rw [hadx] at HC
      have HF2 : Hid ((bind1 T k x bdq).bind (fun bd => (e.args.drop (q + 1)).foldlM (fun bd j => bind1 T k j bd) bd) = o) := hf
      have c2 : wr.cell? ⟨b, off + 2, none⟩ = some (.slice (some ⟨b', off', none⟩) e.args.length ca) := cell_below HM.out.below H2c.out
      clear hf hx hadx HF hup
      generalize bind1 T k x bdq = o1 at HC HF2
      go_wp2_with fail
      refine HC.out.mono ?_
      intro e' w3 hp
      clear HC c2 HM
      cases o1 with
      | some bdx =>
       obtain ⟨rfl, M3⟩ := hp
       have HM3 := Tre.hid M3
       clear M3
       have HF3 : Hid ((e.args.drop (q + 1)).foldlM (fun bd j => bind1 T k j bd) bdx = o) := HF2.out
       clear HF2
       go_wp2_with fail
       go_roundw
       case rel => exact ⟨q + 1, bdx, by omega, by go_num, HF3.out, HM3.out⟩
       case measure => simp [intOf]; omega
      | none =>
       have ho : none = o := HF2.out
       subst ho
       obtain ⟨v, bd', rfl, hbad⟩ := hp
       have HBAD := Tre.hid hbad
       obtain ⟨q1, r1, c1, p1, rfl, _⟩ := hbad
       have nn := HNN.out
       clear HF2
       go_wp2_with fail
       go_ret
       exact ⟨_, bd', rfl, HBAD.out⟩
     ·have hf := HF.out
      rw [List.drop_eq_nil_of_le (by omega), List.foldlM_nil] at hf
      subst hf
      go_wp2_with fail
      go_ret
      exact ⟨rfl, HM.out⟩
  ·have ek : ((e.kind : Int) == 4) = false := beq_eq_false_iff_ne.2 (by omega)
   unfold stepB at h
   rw [if_neg hk, Option.bind_some] at h
   have HFO := Tre.hid h
   clear hk h
   have HMB := HM
   go_enter Tryz.func44, Tryz.ntmps44
   go_wp2_with fail
   go_loopw [45] (fun v45 wr => ∃ (q : Nat) (bdq : Bd), q ≤ e.args.length ∧ v45 = .int .i64 q ∧ Hid ((e.args.drop q).foldlM (fun bd j => bind1 T k j bd) bdq = o) ∧ Hid (Mem w0 wr (mapR Tryz.prog 9 Value.string (pv ad) mb bdq.2 bdq.1 :: cellsR lb 71 #[.map (some mb), .map (some mv), .map (some mm), vN, .int .i64 0] :: rs))) (fun v45 _ => e.args.length - (intOf v45).toNat)
   case atStart => exact ⟨0, (bd, n), Nat.zero_le _, rfl, by show _ = _; rw [List.drop_zero]; exact HFO.out, HMB.out⟩
   case round =>
    obtain ⟨q, bdq, hq, rfl, HF, HM⟩ := hrel
    clear HMB c0 c1 c2 l0
    by_cases hlt : q < e.args.length
    ·obtain ⟨x, hx⟩ : ∃ x, e.args[q]? = some x := ⟨_, List.getElem?_eq_getElem hlt⟩
     obtain ⟨b', off', rfl, hadx⟩ := HAR.out q x hx
     have hf := HF.out
     rw [show e.args.drop q = x :: e.args.drop (q + 1) by obtain ⟨h1, h2⟩ := List.getElem?_eq_some_iff.1 hx; rw [List.drop_eq_getElem_cons h1, h2], List.foldlM_cons] at hf
     have hup := HUP.out x (List.mem_of_getElem? hx)
     have HC := Tre.hid (IH.out x bdq _ _ _ hup.1 hup.2 rfl HM.out)
     rw [hadx] at HC
     have HF2 : Hid ((bind1 T k x bdq).bind (fun bd => (e.args.drop (q + 1)).foldlM (fun bd j => bind1 T k j bd) bd) = o) := hf
     have c2 : wr.cell? ⟨b, off + 2, none⟩ = some (.slice (some ⟨b', off', none⟩) e.args.length ca) := cell_below HM.out.below H2c.out
     clear hf hx hadx HF hup
     generalize bind1 T k x bdq = o1 at HC HF2
     go_wp2_with fail
     refine HC.out.mono ?_
     intro e' w3 hp
     clear HC c2 HM
     cases o1 with
     | some bdx =>
      obtain ⟨rfl, M3⟩ := hp
      have HM3 := Tre.hid M3
      clear M3
      have HF3 : Hid ((e.args.drop (q + 1)).foldlM (fun bd j => bind1 T k j bd) bdx = o) := HF2.out
      clear HF2
      go_wp2_with fail
      go_roundw
      case rel => exact ⟨q + 1, bdx, by omega, by go_num, HF3.out, HM3.out⟩
      case measure => simp [intOf]; omega
     | none =>
      have ho : none = o := HF2.out
      subst ho
      obtain ⟨v, bd', rfl, hbad⟩ := hp
      have HBAD := Tre.hid hbad
      obtain ⟨q1, r1, c1, p1, rfl, _⟩ := hbad
      have nn := HNN.out
      clear HF2
      go_wp2_with fail
      go_ret
      exact ⟨_, bd', rfl, HBAD.out⟩
    ·have hf := HF.out
     rw [List.drop_eq_nil_of_le (by omega), List.foldlM_nil] at hf
     subst hf
     go_wp2_with fail
     go_ret
     exact ⟨rfl, HM.out⟩

end Go.Proofs.YtljmcmdabdlldaaGreatDoor.load
namespace Go.Proofs.YtljmcmdabdlldaaGreatDoor.load
open Go.RowKit Go.Maps Go.Tre lex gr
set_option maxRecDepth 100000 in
set_option maxHeartbeats 8000000 in
theorem follow_no (w0 : World) (T : List Ent) (ad : Nat → Addr) (hE : EntsAt w0 T ad) (hS : SmallT T) (hR : Rises T) (hA : ∀ (i : Nat) (e : Ent), T[i]? = some e → e.kind = 4 → 0 < e.args.length) (lb mb mv mm : Nat) (vN : Value) (bd : ByteArray → Option Nat) (hB : BdOk T bd) (n : Nat) (hn : n ≤ 4194304) (rs : List Res) (i : Nat) (w : World) (hi : i < T.length) (h : follow1 T bd (2 * n + 2) i = none)
  (hM : Mem w0 w (cellsR lb 71 #[.map (some mb), .map (some mv), .map (some mm), vN, .int .i64 0] :: mapR Tryz.prog 9 Value.string (pv ad) mb n bd :: rs)) :
  Calls Tryz.prog 45 #[.pointer (some ⟨lb, 0, none⟩), .pointer (some (ad i))] w fun e w' => ∃ v, e = .returned (.tuple #[.pointer none, v]) ∧ BadAt w w' errs.vEnd v [] := by
 have HM := Tre.hid hM
 have l0 : w.cell? ⟨lb, 0, none⟩ = some (.map (some mb)) := hM.cell 0 rfl 0 rfl
 have hlen := (hM.map 1 rfl).run_len Tryz.underlying67 3
 have ew1 : IntKind.i64.wrap (2 * (n : Int)) = 2 * (n : Int) := IntWalk.i64_in _ (by omega)
 have ew2 : IntKind.i64.wrap (2 * (n : Int) + 2) = 2 * (n : Int) + 2 := IntWalk.i64_in _ (by omega)
 have HE := Tre.hid hE
 have HS := Tre.hid hS
 have HF := Tre.hid h
 have HRI := Tre.hid hR
 have HAA := Tre.hid hA
 have HBB := Tre.hid hB
 clear hM hE hS h hR hA hB
 go_enter Tryz.func45, Tryz.ntmps45
 go_wp2_with fail
 clear l0 hlen ew1 ew2
 go_loopw [1, 14] (fun p v wr => ∃ (q x : Nat) (a : Addr), v = .int .i64 q ∧ p = .pointer (some a) ∧ Hid (ad x = a) ∧ Hid (follow1 T bd (2 * n + 2 - q) x = none) ∧ q ≤ 2 * n + 2 ∧ x < T.length ∧ Hid (Below w.heap.size w wr) ∧ Hid (Mem w0 wr (cellsR lb 71 #[.map (some mb), .map (some mv), .map (some mm), vN, .int .i64 0] :: mapR Tryz.prog 9 Value.string (pv ad) mb n bd :: rs))) (fun _ v _ => 2 * n + 2 - (intOf v).toNat)
 case atStart => exact ⟨0, i, ad i, rfl, rfl, rfl, HF.out, Nat.zero_le _, hi, Below.refl _ _, HM.out⟩
 case round =>
  clear HM HF hi
  obtain ⟨q, x, a, rfl, rfl, hax, HF, hq, hxl, HB, HM⟩ := hrel
  obtain ⟨e, he⟩ : ∃ e, T[x]? = some e := ⟨_, List.getElem?_eq_getElem hxl⟩
  obtain ⟨b, off, aa, ca, al, cl, hadx0, h0, h1, h2, h3, h4, h5, hpl, h6⟩ := HE.out.at_ x e he
  have : a = ⟨b, off, none⟩ := hax.out.symm.trans hadx0
  subst this
  have hb := HM.out.below
  have c0 := cell_below hb h0
  have c1 := cell_below hb h1
  have c2 := cell_below hb h2
  have l0 : wr.cell? ⟨lb, 0, none⟩ = some (.map (some mb)) := HM.out.cell 0 rfl 0 rfl
  have HSL : Hid (e.s.length ≤ 4194304) := HS.out.s x e he
  have HAR := Tre.hid h6
  have HUP := Tre.hid (HRI.out x e he)
  have HA4 := Tre.hid (HAA.out x e he)
  by_cases hqe : q = 2 * n + 2
  ·subst hqe
   have hql : ¬ ((2 * n + 2 : Nat) : Int) < 2 * (n : Int) + 2 := by omega
   have hqi : ((2 * n + 2 : Nat) : Int) = 2 * (n : Int) + 2 := by omega
   clear HF h0 h1 h2 h3 h4 h5 h6 hpl hadx0 hb he hxl HAR HUP HA4 l0 c0 c2 hax
   go_wp2_with fail
   refine (new_error _ _).mono ?_
   rintro e' w1 ⟨rfl, rfl⟩
   have M2 := ((Mem.of_below HB.out).allocR #[.string ⟨e.s.toArray⟩] 176).allocR #[.iface 174 (.pointer (some ⟨wr.heap.size, 0, none⟩)), errs.vEnd] 58
   rw [World.size_alloc] at M2
   have q0 := M2.cell 0 rfl 0 rfl
   have q1 := M2.cell 0 rfl 1 rfl
   have HM2 := Tre.hid M2
   have HQ0 := Tre.hid q0
   have HQ1 := Tre.hid q1
   clear c1 M2 q0 q1
   go_wp2_with fail
   refine (errs.join2 _ 0 2 _ _ _ _ _ HQ0.out HQ1.out (by omega)).mono ?_
   rintro e' w3 ⟨q, vj, rfl, m3⟩
   have HBJ := Tre.hid (bad_join HM2.out m3)
   clear m3 HQ0 HQ1 HM2
   go_wp2_with fail
   go_ret2
   exact ⟨_, rfl, HBJ.out⟩
  obtain ⟨m, hm⟩ : ∃ m, 2 * n + 2 - q = m + 1 := ⟨2 * n + 2 - q - 1, by omega⟩
  have hm' : 2 * n + 2 - (q + 1) = m := by omega
  have hql : (q : Int) < 2 * (n : Int) + 2 := by omega
  have h := HF.out
  rw [hm, follow1, he, Option.bind_some] at h
  have HMM := Tre.hid hm'
  clear HF hm hm' h0 h1 h2 h3 h4 h5 h6 hpl hadx0 hb he hqe
  by_cases h4 : e.kind = 4
  ·have ek : ((e.kind : Int) == 4) = true := by rw [h4]; rfl
   rw [if_pos h4] at h
   have hl0 := HA4.out h4
   obtain ⟨x', hx'⟩ : ∃ x', e.args[0]? = some x' := ⟨_, List.getElem?_eq_getElem hl0⟩
   rw [hx', Option.bind_some] at h
   have hxl' := (HUP.out x' (List.mem_of_getElem? hx')).2
   obtain ⟨b', off', rfl, hadx⟩ := HAR.out 0 x' hx'
   have hl1 : (0 : Int) < e.args.length := by omega
   have HF2 : Hid (follow1 T bd (2 * n + 2 - (q + 1)) x' = none) := by show _ = _; rw [HMM.out]; exact h
   have hadx' : ad x' = ⟨b', off', none⟩ := by rw [hadx]; simp
   have HAD := Tre.hid hadx'
   clear h h4 hx' hadx hadx' hxl
   go_wp2_with fail
   go_roundw
   case rel => exact ⟨q + 1, x', ⟨b', off', none⟩, by go_num, rfl, HAD.out, HF2.out, by omega, hxl', HB.out, HM.out⟩
   case measure => simp [intOf]; omega
  ·have ek : ((e.kind : Int) == 4) = false := beq_eq_false_iff_ne.2 (by omega)
   rw [if_neg h4] at h
   by_cases h1 : e.kind = 1
   ·have ek1 : ((e.kind : Int) == 1) = true := by rw [h1]; rfl
    rw [if_pos h1] at h
    cases hbd : bd ⟨e.s.toArray⟩ with
    | none => rw [hbd] at h; cases h
    | some x' =>
     rw [hbd] at h
     have hxl' : x' < T.length := by
      obtain ⟨eb, heb, _⟩ := HBB.out _ _ hbd
      exact (List.getElem?_eq_some_iff.1 heb).1
     have HLK : Hid (∀ W, MapIs Tryz.prog 9 Value.string (pv ad) W mb n bd → (Instr.lookup 67 (.map (some mb)) (.string ⟨e.s.toArray⟩) false).run Tryz.prog W = .ok (.pointer (some (ad x'))) W) := fun W hW => by
      have h := look_bound hW e.s HSL.out
      rw [hbd] at h
      exact h
     have HF2 : Hid (follow1 T bd (2 * n + 2 - (q + 1)) x' = none) := by show _ = _; rw [HMM.out]; exact h
     clear h h4 h1 hbd hxl
     go_wp2_with fail
     have cS : Cond (fun w' => w'.cell? ⟨lb, 0, none⟩ = some (.map (some mb)) ∧ w'.cell? ⟨b, off + 1, none⟩ = some (.string ⟨e.s.toArray⟩) ∧ (Instr.lookup 67 (.map (some mb)) (.string ⟨e.s.toArray⟩) false).run Tryz.prog w' = .ok (.pointer (some (ad x'))) w') := ⟨⟩
     refine cS.keep [] ?_ (fun hH0 => ?_)
     ·exact ⟨l0, c1, HLK.out _ (HM.out.drew.map 1 rfl)⟩
     have H0 := Tre.hid HM.out.drew
     have B0 := Tre.hid (HB.out.drew)
     generalize hq : wr.drew = wq0 at H0 B0 hH0 ⊢
     clear hq l0 c0 c1 c2 HM HLK
     refine lPq 0 (some 29) (v := ?_) rfl ?_ (keep_of hH0) ?_
     rotate_left
     ·intro w; go_simp <;> with_reducible rfl
     try simp only [Act.put, zqf, zqg, zqh]
     refine lPq 1 (some 30) (v := ?_) rfl ?_ (keep_of hH0) ?_
     rotate_left
     ·intro w; go_simp <;> with_reducible rfl
     try simp only [Act.put, zqf, zqg, zqh]
     refine lPq 2 (some 31) (v := ?_) rfl ?_ (keep_of hH0) ?_
     rotate_left
     ·intro w; go_simp <;> with_reducible rfl
     try simp only [Act.put, zqf, zqg, zqh]
     refine lPq 4 (some 33) (v := ?_) rfl ?_ (keep_of hH0) ?_
     rotate_left
     ·intro w; go_simp <;> with_reducible rfl
     try simp only [Act.put, zqf, zqg, zqh]
     refine lPq 5 (some 34) (v := ?_) rfl ?_ (keep_of hH0) ?_
     rotate_left
     ·intro w; go_simp <;> with_reducible rfl
     try simp only [Act.put, zqf, zqg, zqh]
     refine lPq 6 (some 35) (v := ?_) rfl ?_ (keep_of hH0) ?_
     rotate_left
     ·intro w; go_simp <;> with_reducible rfl
     try simp only [Act.put, zqf, zqg, zqh]
     refine lTq 3 (some 32) (v := ?_) rfl ?_ hH0 ?_
     rotate_left
     ·intro w hSw; (try dsimp only at hSw); go_simp <;> with_reducible rfl
     try simp only [Act.put, zqf, zqg, zqh]
     refine lTq 7 (some 36) (v := ?_) rfl ?_ hH0 ?_
     rotate_left
     ·intro w hSw; (try dsimp only at hSw); go_simp <;> with_reducible rfl
     try simp only [Act.put, zqf, zqg, zqh]
     refine lTq 8 (some 37) (v := ?_) rfl ?_ hH0 ?_
     rotate_left
     ·intro w hSw; (try dsimp only at hSw); go_simp <;> with_reducible rfl
     try simp only [Act.put, zqf, zqg, zqh]
     refine lPq 9 (some 6) (v := ?_) rfl ?_ (keep_of hH0) ?_
     rotate_left
     ·intro w; go_simp <;> with_reducible rfl
     try simp only [Act.put, zqf, zqg, zqh]
     refine lDone (by kernel_rfl) ?_
     clear hH0
     go_wp2_with fail
     go_roundw
     case rel => exact ⟨q + 1, x', ad x', by go_num, rfl, rfl, HF2.out, by omega, hxl', B0.out, H0.out⟩
     case measure => simp [intOf]; omega
   ·rw [if_neg h1] at h; cases h
end Go.Proofs.YtljmcmdabdlldaaGreatDoor.load
namespace Go.Tre
open Go.RowKit Go.Maps Go.MapKept Go.ChangeMaps
def iterB (r b : Nat) (es : Array MapEntry) (clock cnt : Nat) (bad : MapEntry) : Res where
 own b' := b' = r
 P w := ∃ since seen c0, w.heap[r]? = some (.mapIter (some b) since seen c0) ∧ (∀ x ∈ es.toList, x.born < since) ∧ since ≤ c0 ∧ since ≤ clock ∧ (leftOf es seen).size = cnt ∧ bad ∈ (leftOf es seen).toList
 stable w w' h hs := by obtain ⟨s, q, c, hr, rest⟩ := h; exact ⟨s, q, c, (hs r rfl).trans hr, rest⟩
 has w h b' hb := by subst hb; obtain ⟨s, q, c, hr, _⟩ := h; exact (Array.getElem?_eq_some_iff.1 hr).1
section
variable {w0 w : World} {rs : List Res} {P : Program} {α β : Type} {k : TypeId} {ek : α → Value} {ev : β → Value} {b n : Nat} {m : α → Option β}
theorem Mem.rawBad (h : Mem w0 w (mapR P k ek ev b n m :: rs)) {a : α} {x : β} (ha : m a = some x) : ∃ es clock, ∃ bad ∈ es.toList, bad.val = ev x ∧ Mem w0 w (rawR b es clock :: rs) ∧ Stamped es clock ∧ (∀ e ∈ es.toList, ∃ a x, e.key = ek a ∧ e.val = ev x ∧ m a = some x) ∧ (∀ w0 w rs, Mem w0 w (rawR b es clock :: rs) → Mem w0 w (mapR P k ek ev b n m :: rs)) := by
 obtain ⟨es, clock, hb, hn, hst, h1, h2⟩ := h.map 0 rfl
 obtain ⟨bad, hbad, _, hbv⟩ := h2 a x ha
 refine ⟨es, clock, bad, hbad, hbv, h.as_ 0 rfl (rawR b es clock) (fun _ => hb) (fun _ hb => hb), hst, fun e he => ?_, fun w0 w rs hm => hm.as_ 0 rfl (mapR P k ek ev b n m) (fun hp => ⟨es, clock, hp, hn, hst, h1, h2⟩) (fun _ hb => hb)⟩
 obtain ⟨a, x, _, e1, e2, e3, _⟩ := h1 e he
 exact ⟨a, x, e1, e2, e3⟩
theorem Mem.rangeBad {es : Array MapEntry} {clock : Nat} (h : Mem w0 w rs) (hst : Stamped es clock) {bad : MapEntry} (hb : bad ∈ es.toList) : Mem w0 (w.alloc (.mapIter (some b) clock #[] clock)) (iterB w.heap.size b es clock es.size bad :: rs) :=
 h.add (World.grownBy_alloc w _ none) (iterB w.heap.size b es clock es.size bad) ⟨clock, #[], clock, (MapKept.heap_alloc w _).1, hst.1, Nat.le_refl _, Nat.le_refl _, by simp [leftOf], by simpa [leftOf] using hb⟩ (fun _ hb => Nat.le_of_eq hb.symm)
theorem born_inj {es : Array MapEntry} {clock : Nat} (hst : Stamped es clock) {x y : MapEntry} (hx : x ∈ es.toList) (hy : y ∈ es.toList) (h : x.born = y.born) : x = y := by
 have hn := hst.2.1
 rw [List.Nodup, List.pairwise_map] at hn
 obtain ⟨i, hi, rfl⟩ := List.getElem_of_mem hx
 obtain ⟨j, hj, rfl⟩ := List.getElem_of_mem hy
 rw [List.pairwise_iff_getElem] at hn
 rcases Nat.lt_trichotomy i j with h1 | h1 | h1
 ·exact absurd h (hn i j hi hj h1)
 ·subst h1; rfl
 ·exact absurd h.symm (hn j i hj hi h1)
variable {ops : Array Oper} {rest : List Oper} {o : Oper} {a : Act} {Q : Exit → Act → World → Prop}
theorem wpList_next_bad (hg : o.guard = none) (it : Operand) (hop : o.op = Op.next it false) (b r cnt clock : Nat) (es : Array MapEntry) (bad : MapEntry) (hit : a.eval it = .pointer (some ⟨r, 0, none⟩)) (h : Mem w0 w (iterB r b es clock cnt bad :: rawR b es clock :: rs)) (hst : Stamped es clock)
  (hMore : ∀ (e : MapEntry) (w' : World) (cnt' : Nat), e ∈ es.toList → cnt' < cnt → Mem w0 w' (rawR b es clock :: rs) → (e = bad ∨ Mem w0 w' (iterB r b es clock cnt' bad :: rawR b es clock :: rs)) → (Instr.entry (.pointer (some ⟨r, 0, none⟩))).run P w' = .ok (.tuple #[e.key, e.val]) w' → wpList P ops Q rest (a.put o.dst (.tuple #[.bool true, e.key, e.val])) w') :
  wpList P ops Q (o :: rest) a w := by
 obtain ⟨since, seen, c0, hr, hold, hsc, hsk, hcnt, hbad⟩ := h.at_ 0 rfl
 have hb : w.heap[b]? = some (.map es clock) := h.at_ 1 rfl
 have hne : b ≠ r := fun e => (List.pairwise_cons.1 h.sep).1 (rawR b es clock) (by simp) r rfl e.symm
 refine wpList_plain hg fun K' hK' => ?_
 unfold Oper.wp
 rcases run_next_at (P := P) w o.type r b since c0 seen es clock hr hb hold hsc with ⟨h0, hrun⟩ | ⟨e, he, w1, hal, hrun⟩
 ·exfalso
  have : 0 < (leftOf es seen).toList.length := List.length_pos_of_mem hbad
  rw [Array.length_toList] at this
  omega
 ·obtain ⟨hem, hes⟩ := mem_left he
  have hr1 : w1.heap[r]? = some (.mapIter (some b) since seen c0) := by rcases hal with rfl | rfl <;> exact hr
  have hb1 : w1.heap[b]? = some (.map es clock) := by rcases hal with rfl | rfl <;> exact hb
  have hset := heap_set (o' := .mapIter (some b) since (seen.push e.born) clock) hr1
  have hb' : (setBlock w1 r (.mapIter (some b) since (seen.push e.born) clock)).heap[b]? = some (.map es clock) := (hset.2 b hne).trans hb1
  simp [execOp, hop, hit, hrun, Result.andThen]
  have h1 : Mem w0 w1 (iterB r b es clock cnt bad :: rawR b es clock :: rs) := by rcases hal with rfl | rfl; exact h; exact h.drew
  have hgr : w1.grownBy (setBlock w1 r (.mapIter (some b) since (seen.push e.born) clock)) (some r) := ⟨rfl, rfl, rfl, by simp [setBlock], fun i _ hi => hset.2 i (fun e1 => hi (by rw [e1]))⟩
  have hit1 := h1.set_row (w' := setBlock w1 r (.mapIter (some b) since (seen.push e.born) clock)) 0 rfl (row := some r) hgr (fun k e => by cases e; rfl) (iterR r b es clock (leftOf es (seen.push e.born)).size) ⟨since, seen.push e.born, clock, hset.1, hold, hsk, hsk, rfl⟩ (fun b' hb => .inl hb)
  refine hK' _ _ (hMore e _ (leftOf es (seen.push e.born)).size hem (by rw [← hcnt]; exact left_shrinks es seen e he) (hit1.drop1) ?_ (run_entry_at _ r b since seen es clock e hset.1 hb' hem ((stamped_iff es clock).1 hst).2.1))
  by_cases hq : e = bad
  ·exact .inl hq
  ·right
   have hbl : bad ∈ (leftOf es (seen.push e.born)).toList := by
    have hbm := mem_left hbad
    have hnb : bad.born ≠ e.born := fun q => hq (born_inj hst hem hbm.1 q.symm)
    have h2 : (seen.push e.born).contains bad.born = false := by
     have h3 := hbm.2
     rw [← Bool.not_eq_true, Array.contains_iff_mem] at h3 ⊢
     rw [Array.mem_push]
     exact fun h => h.elim h3 hnb
    unfold leftOf
    rw [Array.mem_toList_iff, Array.mem_filter]
    exact ⟨Array.mem_toList_iff.1 hbm.1, by rw [h2]; rfl⟩
   exact h1.set_row (w' := setBlock w1 r (.mapIter (some b) since (seen.push e.born) clock)) 0 rfl (row := some r) hgr (fun k e => by cases e; rfl) (iterB r b es clock _ bad) ⟨since, seen.push e.born, clock, hset.1, hold, hsk, hsk, rfl, hbl⟩ (fun b' hb => .inl hb)
end
end Go.Tre
