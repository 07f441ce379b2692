/- load: (*loader).node at what is no variable: objects. load: (*loader).node at every fuel. Ranging over a map that a call holds: each round one of its entries, whichever; at most as many rounds as it has. -/
import Derived.Test.YtljmcmdabdlldaaGreatDoorB22
import Derived.Test.YtljmcmdabdlldaaGreatDoorB23
import Derived.Test.YtljmcmdabdlldaaGreatDoorB05
import Derived.Maps.RangeWalk
set_option linter.unusedVariables false
namespace Go.Proofs.YtljmcmdabdlldaaGreatDoor.load
open Go.RowKit Go.Maps Go.Shelf Go.Tre lex gr
set_option maxRecDepth 100000 in
set_option maxHeartbeats 32000000 in
theorem node_new3 (w0 : World) (T : List Ent) (ad : Nat → Addr) (hE : EntsAt w0 T ad) (hS : SmallT T) (lb mb mv mm : Nat) (bd : ByteArray → Option Nat) (n : Nat) (hn : n ≤ 4194304) (k : Nat) (ih : ∀ (i : Nat) (st st' : LSt) (a : Nat) (rs : List Res) (w : World) (vN : Value) (ds : List NodeV) (nv nm : Nat) (M : Addr → Option Nat), node1 T (bd, n) k i st = some (a, st') → ds.map NodeV.n = st.ns → MadeIs T ad M st.made → (∀ (c : Addr) (x : Nat), M c = some x → PlainAt w0 c) → st'.ns.length ≤ 1048576 →
   Mem w0 w (cellsR lb 71 #[.map (some mb), .map (some mv), .map (some mm), vN, .int .i64 0] :: mapR Tryz.prog 9 Value.string (pv ad) mb n bd :: mapR Tryz.prog 9 Value.string evn mv nv st.vars :: pmapR mm nm M :: nodesR vN ds :: kidsR ds :: rs) → Calls Tryz.prog 23 #[.pointer (some ⟨lb, 0, none⟩), .pointer (some (ad i))] w (NodePost w0 T ad lb mb mv mm bd n rs a st'))
  (i x : Nat) (e : Ent) (st s3 : LSt) (l' : List Nat) (rs : List Res) (w : World) (vN : Value) (ds : List NodeV) (nv nm : Nat) (M : Addr → Option Nat) (hfo : follow1 T bd (2 * n + 2) i = some x) (hx : T[x]? = some e) (h1 : ¬ e.kind = 1) (hk2 : ¬ e.kind = 2) (hno : st.made x = none)
  (hkf : kidsF (node1 T (bd, n) k) e.args [] ⟨st.vars, upd st.made x st.ns.length, st.ns ++ [nodeOf e]⟩ = some (l', s3)) (hds : ds.map NodeV.n = st.ns) (hmd : MadeIs T ad M st.made) (hpl : ∀ (c : Addr) (x : Nat), M c = some x → PlainAt w0 c) (hlen : s3.ns.length ≤ 1048576)
  (hM : Mem w0 w (cellsR lb 71 #[.map (some mb), .map (some mv), .map (some mm), vN, .int .i64 0] :: mapR Tryz.prog 9 Value.string (pv ad) mb n bd :: mapR Tryz.prog 9 Value.string evn mv nv st.vars :: pmapR mm nm M :: nodesR vN ds :: kidsR ds :: rs)) :
  Calls Tryz.prog 23 #[.pointer (some ⟨lb, 0, none⟩), .pointer (some (ad i))] w (NodePost w0 T ad lb mb mv mm bd n rs st.ns.length ⟨s3.vars, s3.made, s3.ns.set st.ns.length { nodeOf e with args := l'.map fun a : Nat => (a : Int) }⟩) := by
 have HK2 := Tre.hid hk2
 clear hk2
 obtain ⟨b, off, aa, ca, al, cl, hadx, h0, hc1, h2, h3, h4, h5, hp, h6⟩ := hE.at_ x e hx
 have HFW := Tre.hid (follow_any w0 T ad hE hS lb mb mv mm vN bd n hn _ i x w hfo hM)
 rw [hadx] at HFW
 have hxl : x < T.length := (List.getElem?_eq_some_iff.1 hx).1
 have HSL : Hid (e.s.length ≤ 4194304) := hS.s x e hx
 have HAL : e.args.length ≤ 4194304 := hS.args x e hx
 have HBL : Hid ((byteStrs e.labels).length ≤ 8388608) := by have h := hS.labs x e hx; show _ ≤ _; rw [show (byteStrs e.labels).length = e.labels.length from List.length_map ..]; omega
 have HBN : Hid ((byteStrs e.labels).length = e.labels.length) := List.length_map ..
 have HC0 := Tre.hid h0
 have HC1 := Tre.hid hc1
 have HC2 := Tre.hid h2
 have HC3 := Tre.hid h3
 have HC4 := Tre.hid h4
 have HL := Tre.hid h5
 have HPX := Tre.hid hp
 have HAR := Tre.hid h6
 have HM := Tre.hid hM
 have HDS := Tre.hid hds
 have IH := Tre.hid ih
 have HKF := Tre.hid hkf
 have HL3 := Tre.hid hlen
 have HLN : Hid (ds.length = st.ns.length) := by show _ = _; rw [← hds, List.length_map]
 have hnA : M ⟨b, off, none⟩ = none := by rw [← hadx, hmd x hxl]; exact hno
 have hkk := kids_keep (node_keep T (bd, n) k) _ _ _ _ _ hkf
 have hdl : ds.length ≤ 1048575 := by have h := hkk.1; rw [List.length_append, List.length_singleton] at h; have := HLN.out; omega
 have ek : ((e.kind : Int) == 1) = false := beq_eq_false_iff_ne.2 (by omega)
 obtain ⟨ni, I1, I2, I3, I4⟩ := info_parts infoN
 have J1 := Tre.hid I1
 have J2 := Tre.hid I2
 have J3 := Tre.hid I3
 have J4 := Tre.hid I4
 obtain ⟨ji, K1, K2, K3, K4⟩ := info_parts infoI
 have I1 := Tre.hid K1
 have I2 := Tre.hid K2
 have I3 := Tre.hid K3
 have I4 := Tre.hid K4
 obtain ⟨j0, hj0, hs0⟩ := infoTyp
 obtain ⟨aN, cN, rfl, _⟩ := hM.val 4 rfl
 have HNA := Tre.hid hnA
 have HPL := Tre.hid hpl
 have HMD2 : Hid (MadeIs T ad (upd M ⟨b, off, none⟩ ds.length) (upd st.made x st.ns.length)) := by show MadeIs _ _ _ _; rw [← hadx, HLN.out]; exact hmd.upd hE.inj hxl st.ns.length
 have HPL2 : Hid (∀ (c : Addr) (x : Nat), upd M ⟨b, off, none⟩ ds.length c = some x → PlainAt w0 c) := fun c x h => by
  unfold upd at h
  split at h
  ·rename_i hc; rw [hc]; exact hp
  ·exact hpl c x h
 clear hE hS hfo hx h1 hno hkf hds hmd hpl hM h0 hc1 h2 h3 h4 h5 hp h6 hadx hlen ih hkk hnA K1 K2 K3 K4
 go_enter Tryz.func23, Tryz.ntmps23
 go_wp2_with fail
 refine HFW.out.mono ?_
 rintro e' w1 ⟨rfl, b1⟩
 have M1 := HM.out.quiet b1
 have c0 : w1.cell? ⟨b, off, none⟩ = some (.int .i64 e.kind) := cell_below M1.below HC0.out
 have l2 : w1.cell? ⟨lb, 2, none⟩ = some (.map (some mm)) := M1.cell 0 rfl 2 rfl
 have l3 : w1.cell? ⟨lb, 3, none⟩ = some (.slice aN ds.length cN) := M1.cell 0 rfl 3 rfl
 have hlk := look_made (M1.pmap 3 rfl) (HPX.out.below M1.below) (fun c x h => (HPL.out c x h).below M1.below)
 rw [HNA.out] at hlk
 have HM1 := Tre.hid M1
 clear M1 b1 HM HFW
 go_wp2_with (refine wpList_storeP rfl _ _ _ rfl Tryz.underlying69 Tryz.underlying61 hj0 hs0 rfl (HM1.out.pmap 3 rfl) ⟨b, off, none⟩ rfl ds.length rfl (HPX.out.below HM1.out.below) (fun c x h => (HPL.out c x h).below HM1.out.below) HNA.out ?_; intro w2 hm2 hg2; have M2' := HM1.out.putP 3 rfl hg2 hm2; have HM2 := Tre.hid M2'; clear M2' hm2 hg2)
 simp only [Act.put]
 go_cut [12] (fun s12 wx => ∃ (nb : Nat) (la : Option Addr) (lc : Nat), s12 = .pointer (some ⟨nb, 0, none⟩) ∧ Hid (Mem w0 wx (cellsR nb 39 #[.int .i64 3, .string ⟨#[]⟩, .slice none 0 0, .slice la e.labels.length lc, .bool e.opn] :: rowR 9 1 (.slice la e.labels.length lc) e.labels.length ((byteStrs e.labels).map Value.string) :: cellsR lb 71 #[.map (some mb), .map (some mv), .map (some mm), (.slice aN ds.length cN), .int .i64 0] :: mapR Tryz.prog 9 Value.string (pv ad) mb n bd :: mapR Tryz.prog 9 Value.string evn mv nv st.vars :: pmapR mm (nm + 1) (upd M ⟨b, off, none⟩ ds.length) :: nodesR (.slice aN ds.length cN) ds :: kidsR ds :: rs)))
 case first =>
  have cS : Cond (fun w' => w'.cell? ⟨b, off + 3, none⟩ = some (.slice al e.labels.length cl) ∧ w'.cell? ⟨b, off + 4, none⟩ = some (.bool e.opn)) := ⟨⟩
  refine cS.keep [11] ?_ (fun hH0 => ?_)
  ·exact ⟨cell_below HM2.out.below HC3.out, cell_below HM2.out.below HC4.out⟩
  have H0 := Tre.hid HM2.out.drew
  generalize hq : w2.drew = wq0 at H0 hH0 ⊢
  clear hq l2 l3 c0 hlk HM1
  refine lPq 0 (some 91) (v := ?_) rfl ?_ (keep_of hH0) ?_
  rotate_left
  ·intro w; go_simp <;> with_reducible rfl
  try simp only [Act.put, zqf, zqg, zqh]
  refine lPq 1 (some 92) (v := ?_) rfl ?_ (keep_of hH0) ?_
  rotate_left
  ·intro w; go_simp <;> with_reducible rfl
  try simp only [Act.put, zqf, zqg, zqh]
  refine lPq 2 (some 93) (v := ?_) rfl ?_ (keep_of hH0) ?_
  rotate_left
  ·intro w; go_simp <;> with_reducible rfl
  try simp only [Act.put, zqf, zqg, zqh]
  refine lPq 5 (some 96) (v := ?_) rfl ?_ (keep_of hH0) ?_
  rotate_left
  ·intro w; go_simp <;> with_reducible rfl
  try simp only [Act.put, zqf, zqg, zqh]
  refine lPq 6 (some 97) (v := ?_) rfl ?_ (keep_of hH0) ?_
  rotate_left
  ·intro w; go_simp <;> with_reducible rfl
  try simp only [Act.put, zqf, zqg, zqh]
  refine lPq 7 (some 98) (v := ?_) rfl ?_ (keep_of hH0) ?_
  rotate_left
  ·intro w; go_simp <;> with_reducible rfl
  try simp only [Act.put, zqf, zqg, zqh]
  refine lTq 3 (some 94) (v := ?_) rfl ?_ hH0 ?_
  rotate_left
  ·intro w hSw; (try dsimp only at hSw); go_simp <;> with_reducible rfl
  try simp only [Act.put, zqf, zqg, zqh]
  refine lTq 8 (some 99) (v := ?_) rfl ?_ hH0 ?_
  rotate_left
  ·intro w hSw; (try dsimp only at hSw); go_simp <;> with_reducible rfl
  try simp only [Act.put, zqf, zqg, zqh]
  refine lTwo 4 10 (by kernel_rfl) (LStep.op (fun K hK => ?_)) (LStep.op (fun K hK => ?_))
  ·
   go_simp
   have HCL := Tre.hid (cloneStrs al cl (byteStrs e.labels) wq0 (HL.out.below H0.out.below) HBL.out)
   rw [HBN.out] at HCL
   refine HCL.out.mono ?_
   rintro e' wq1 ⟨vl, rfl, m0⟩
   have m := H0.out.call m0
   obtain ⟨la, lc, rfl, _⟩ := m.val 0 rfl
   have s0 : wq1.cell? ⟨b, off + 3, none⟩ = some (.slice al e.labels.length cl) := cell_below m.below HC3.out
   have s1 : wq1.cell? ⟨b, off + 4, none⟩ = some (.bool e.opn) := cell_below m.below HC4.out
   have S0 := Tre.hid s0
   have S1 := Tre.hid s1
   clear s0 s1
   have H1 := Tre.hid m
   clear m m0 HCL
   refine hK.out _ _ ?_ (fun hH1 => ?_)
   ·exact ⟨S0.out, S1.out⟩
   clear hK K hH0
   try simp only [Act.put, zqf, zqg, zqh]
   refine lPq 9 (some 100) (v := ?_) rfl ?_ (keep_of hH1) ?_
   rotate_left
   ·intro w; go_simp <;> with_reducible rfl
   try simp only [Act.put, zqf, zqg, zqh]
   refine lOne 10 (by kernel_rfl) (LStep.op (fun K hK => ?_))
   have MA := H1.out.allocR #[.int .i64 0, .string ⟨#[]⟩, .slice none 0 0, .slice none 0 0, .bool false] 39
   go_simp
   generalize hnb : wq1.heap.size = nb at MA ⊢
   generalize hw : wq1.alloc (.cells #[.int .i64 0, .string ⟨#[]⟩, .slice none 0 0, .slice none 0 0, .bool false] 39) = wq2 at MA ⊢
   have s0 : wq2.cell? ⟨b, off + 3, none⟩ = some (.slice al e.labels.length cl) := cell_below MA.below HC3.out
   have s1 : wq2.cell? ⟨b, off + 4, none⟩ = some (.bool e.opn) := cell_below MA.below HC4.out
   have S0 := Tre.hid s0
   have S1 := Tre.hid s1
   clear s0 s1
   have H2 := Tre.hid MA
   clear MA hw hnb
   refine hK.out _ _ ?_ (fun hH2 => ?_)
   ·exact ⟨S0.out, S1.out⟩
   clear hK K hH1
   try simp only [Act.put, zqf, zqg, zqh]
   refine lOne 11 (by kernel_rfl) (LFall.op (by kernel_rfl) (fun K hK => ?_))
   have MT : Mem w0 wq2 (cellsR nb 39 #[.int .i64 0, .string ⟨#[]⟩, .slice none 0 0, .slice none 0 0, .bool false] :: _) := H2.out.front 0 rfl
   have g0 : wq2.cell? ⟨nb, 0, none⟩ = some (.int .i64 0) := MT.cell 0 rfl 0 rfl
   have g1 : wq2.cell? ⟨nb, 1, none⟩ = some (.string ⟨#[]⟩) := MT.cell 0 rfl 1 rfl
   have g2 : wq2.cell? ⟨nb, 2, none⟩ = some (.slice none 0 0) := MT.cell 0 rfl 2 rfl
   have g3 : wq2.cell? ⟨nb, 3, none⟩ = some (.slice none 0 0) := MT.cell 0 rfl 3 rfl
   have g4 : wq2.cell? ⟨nb, 4, none⟩ = some (.bool false) := MT.cell 0 rfl 4 rfl
   have f0 := MT.free 0 rfl 0
   have f1 := MT.free 0 rfl 1
   have f2 := MT.free 0 rfl 2
   have f3 := MT.free 0 rfl 3
   have f4 := MT.free 0 rfl 4
   have M6 : Mem w0 (((((wq2.setCell ⟨nb, 0, none⟩ (.int .i64 3)).setCell ⟨nb, 1, none⟩ (.string ⟨#[]⟩)).setCell ⟨nb, 2, none⟩ (.slice none 0 0)).setCell ⟨nb, 3, none⟩ (.slice la e.labels.length lc)).setCell ⟨nb, 4, none⟩ (.bool e.opn)) (cellsR nb 39 #[.int .i64 3, .string ⟨#[]⟩, .slice none 0 0, .slice la e.labels.length lc, .bool e.opn] :: _) := (((((MT.setCell 0 rfl 0 (.int .i64 3)).setCell 0 rfl 1 (.string ⟨#[]⟩)).setCell 0 rfl 2 (.slice none 0 0)).setCell 0 rfl 3 (.slice la e.labels.length lc)).setCell 0 rfl 4 (.bool e.opn))
   go_simp
   generalize hw : (((((wq2.setCell ⟨nb, 0, none⟩ (.int .i64 3)).setCell ⟨nb, 1, none⟩ (.string ⟨#[]⟩)).setCell ⟨nb, 2, none⟩ (.slice none 0 0)).setCell ⟨nb, 3, none⟩ (.slice la e.labels.length lc)).setCell ⟨nb, 4, none⟩ (.bool e.opn)) = wq3 at M6 ⊢
   have H3 := Tre.hid M6
   clear M6 MT hw g0 g1 g2 g3 g4 f0 f1 f2 f3 f4
   refine hK.out _ _ ?_
   clear hK K hH2
   try simp only [Act.put, zqf, zqg, zqh]
   refine lDone (by kernel_rfl) ?_
   go_wp2_with fail
   go_meet
   exact ⟨nb, la, lc, rfl, H3.out⟩
  ·
   have MA := H0.out.allocR #[.int .i64 0, .string ⟨#[]⟩, .slice none 0 0, .slice none 0 0, .bool false] 39
   go_simp
   generalize hnb : wq0.heap.size = nb at MA ⊢
   generalize hw : wq0.alloc (.cells #[.int .i64 0, .string ⟨#[]⟩, .slice none 0 0, .slice none 0 0, .bool false] 39) = wq1 at MA ⊢
   have s0 : wq1.cell? ⟨b, off + 3, none⟩ = some (.slice al e.labels.length cl) := cell_below MA.below HC3.out
   have s1 : wq1.cell? ⟨b, off + 4, none⟩ = some (.bool e.opn) := cell_below MA.below HC4.out
   have S0 := Tre.hid s0
   have S1 := Tre.hid s1
   clear s0 s1
   have H1 := Tre.hid MA
   clear MA hw hnb
   refine hK.out _ _ ?_ (fun hH3 => ?_)
   ·exact ⟨S0.out, S1.out⟩
   clear hK K hH0
   try simp only [Act.put, zqf, zqg, zqh]
   refine lOne 4 (by kernel_rfl) (LStep.op (fun K hK => ?_))
   go_simp
   have HCL := Tre.hid (cloneStrs al cl (byteStrs e.labels) wq1 (HL.out.below H1.out.below) HBL.out)
   rw [HBN.out] at HCL
   refine HCL.out.mono ?_
   rintro e' wq2 ⟨vl, rfl, m0⟩
   have m := H1.out.call m0
   obtain ⟨la, lc, rfl, _⟩ := m.val 0 rfl
   have s0 : wq2.cell? ⟨b, off + 3, none⟩ = some (.slice al e.labels.length cl) := cell_below m.below HC3.out
   have s1 : wq2.cell? ⟨b, off + 4, none⟩ = some (.bool e.opn) := cell_below m.below HC4.out
   have S0 := Tre.hid s0
   have S1 := Tre.hid s1
   clear s0 s1
   have H2 := Tre.hid m
   clear m m0 HCL
   refine hK.out _ _ ?_ (fun hH4 => ?_)
   ·exact ⟨S0.out, S1.out⟩
   clear hK K hH3
   try simp only [Act.put, zqf, zqg, zqh]
   refine lPq 9 (some 100) (v := ?_) rfl ?_ (keep_of hH4) ?_
   rotate_left
   ·intro w; go_simp <;> with_reducible rfl
   try simp only [Act.put, zqf, zqg, zqh]
   refine lOne 11 (by kernel_rfl) (LFall.op (by kernel_rfl) (fun K hK => ?_))
   have MT : Mem w0 wq2 (cellsR nb 39 #[.int .i64 0, .string ⟨#[]⟩, .slice none 0 0, .slice none 0 0, .bool false] :: _) := H2.out.front 1 rfl
   have g0 : wq2.cell? ⟨nb, 0, none⟩ = some (.int .i64 0) := MT.cell 0 rfl 0 rfl
   have g1 : wq2.cell? ⟨nb, 1, none⟩ = some (.string ⟨#[]⟩) := MT.cell 0 rfl 1 rfl
   have g2 : wq2.cell? ⟨nb, 2, none⟩ = some (.slice none 0 0) := MT.cell 0 rfl 2 rfl
   have g3 : wq2.cell? ⟨nb, 3, none⟩ = some (.slice none 0 0) := MT.cell 0 rfl 3 rfl
   have g4 : wq2.cell? ⟨nb, 4, none⟩ = some (.bool false) := MT.cell 0 rfl 4 rfl
   have f0 := MT.free 0 rfl 0
   have f1 := MT.free 0 rfl 1
   have f2 := MT.free 0 rfl 2
   have f3 := MT.free 0 rfl 3
   have f4 := MT.free 0 rfl 4
   have M6 : Mem w0 (((((wq2.setCell ⟨nb, 0, none⟩ (.int .i64 3)).setCell ⟨nb, 1, none⟩ (.string ⟨#[]⟩)).setCell ⟨nb, 2, none⟩ (.slice none 0 0)).setCell ⟨nb, 3, none⟩ (.slice la e.labels.length lc)).setCell ⟨nb, 4, none⟩ (.bool e.opn)) (cellsR nb 39 #[.int .i64 3, .string ⟨#[]⟩, .slice none 0 0, .slice la e.labels.length lc, .bool e.opn] :: _) := (((((MT.setCell 0 rfl 0 (.int .i64 3)).setCell 0 rfl 1 (.string ⟨#[]⟩)).setCell 0 rfl 2 (.slice none 0 0)).setCell 0 rfl 3 (.slice la e.labels.length lc)).setCell 0 rfl 4 (.bool e.opn))
   go_simp
   generalize hw : (((((wq2.setCell ⟨nb, 0, none⟩ (.int .i64 3)).setCell ⟨nb, 1, none⟩ (.string ⟨#[]⟩)).setCell ⟨nb, 2, none⟩ (.slice none 0 0)).setCell ⟨nb, 3, none⟩ (.slice la e.labels.length lc)).setCell ⟨nb, 4, none⟩ (.bool e.opn)) = wq3 at M6 ⊢
   have H3 := Tre.hid M6
   clear M6 MT hw g0 g1 g2 g3 g4 f0 f1 f2 f3 f4
   refine hK.out _ _ ?_
   clear hK K hH4
   try simp only [Act.put, zqf, zqg, zqh]
   refine lDone (by kernel_rfl) ?_
   go_wp2_with fail
   go_meet
   exact ⟨nb, la, lc, rfl, H3.out⟩
 case rest =>
  obtain ⟨nb, la, lc, rfl, hM⟩ := hcut
  clear c0 l2 l3 hlk HM1 HM2
  have c0 : wc.cell? ⟨b, off, none⟩ = some (.int .i64 e.kind) := cell_below hM.out.below HC0.out
  have h2 := HK2.out
  have ek2 : ((e.kind : Int) == 2) = false := beq_eq_false_iff_ne.2 (by omega)
  have HNO : Hid (nodeOf e = ⟨3, ByteArray.empty, [], byteStrs e.labels, e.opn⟩) := if_neg h2
  have HN6 := hM
  clear h2 hM
  go_wp2_with fail
  have cS : Cond (fun w' => w'.cell? ⟨lb, 3, none⟩ = some (.slice aN ds.length cN) ∧ w'.cell? ⟨nb, 0, none⟩ = some (.int .i64 3) ∧ w'.cell? ⟨nb, 1, none⟩ = some (.string ⟨#[]⟩) ∧ w'.cell? ⟨nb, 2, none⟩ = some (.slice none 0 0) ∧ w'.cell? ⟨nb, 3, none⟩ = some (.slice la e.labels.length lc) ∧ w'.cell? ⟨nb, 4, none⟩ = some (.bool e.opn)) := ⟨⟩
  refine cS.keep [8, 12] ?_ (fun hH0 => ?_)
  ·exact ⟨HN6.out.cell 2 rfl 3 rfl, HN6.out.cell 0 rfl 0 rfl, HN6.out.cell 0 rfl 1 rfl, HN6.out.cell 0 rfl 2 rfl, HN6.out.cell 0 rfl 3 rfl, HN6.out.cell 0 rfl 4 rfl⟩
  have H0 := Tre.hid HN6.out.drew
  generalize hq : World.drew _ = wq0 at H0 hH0 ⊢
  clear hq HN6 c0
  refine lPq 0 (some 111) (v := ?_) rfl ?_ (keep_of hH0) ?_
  rotate_left
  ·intro w; go_simp <;> with_reducible rfl
  try simp only [Act.put, zqf, zqg, zqh]
  refine lPq 1 (some 112) (v := ?_) rfl ?_ (keep_of hH0) ?_
  rotate_left
  ·intro w; go_simp <;> with_reducible rfl
  try simp only [Act.put, zqf, zqg, zqh]
  refine lPq 2 (some 113) (v := ?_) rfl ?_ (keep_of hH0) ?_
  rotate_left
  ·intro w; go_simp <;> with_reducible rfl
  try simp only [Act.put, zqf, zqg, zqh]
  refine lPq 3 (some 114) (v := ?_) rfl ?_ (keep_of hH0) ?_
  rotate_left
  ·intro w; go_simp <;> with_reducible rfl
  try simp only [Act.put, zqf, zqg, zqh]
  refine lPq 4 (some 115) (v := ?_) rfl ?_ (keep_of hH0) ?_
  rotate_left
  ·intro w; go_simp <;> with_reducible rfl
  try simp only [Act.put, zqf, zqg, zqh]
  refine lTq 5 (some 116) (v := ?_) rfl ?_ hH0 ?_
  rotate_left
  ·intro w hSw; (try dsimp only at hSw); go_simp <;> with_reducible rfl
  try simp only [Act.put, zqf, zqg, zqh]
  refine lTq 6 (some 117) (v := ?_) rfl ?_ hH0 ?_
  rotate_left
  ·intro w hSw; (try dsimp only at hSw); go_simp <;> with_reducible rfl
  try simp only [Act.put, zqf, zqg, zqh]
  refine lOne 7 (by kernel_rfl) (LStep.op (fun K hK => ?_))
  have MA := H0.out.allocRow #[.int .i64 3, .string ⟨#[]⟩, .slice none 0 0, .slice la e.labels.length lc, .bool e.opn] 39 5 1 (by unfold maxLen; omega) rfl
  go_simp
  generalize hnb : wq0.heap.size = nr at MA ⊢
  generalize hw : wq0.alloc (.cells #[.int .i64 3, .string ⟨#[]⟩, .slice none 0 0, .slice la e.labels.length lc, .bool e.opn] 39) = wq1 at MA ⊢
  have s0 : wq1.cell? ⟨lb, 3, none⟩ = some (.slice aN ds.length cN) := MA.cell 3 rfl 3 rfl
  have s1 : wq1.cell? ⟨nb, 0, none⟩ = some (.int .i64 3) := MA.cell 1 rfl 0 rfl
  have s2 : wq1.cell? ⟨nb, 1, none⟩ = some (.string ⟨#[]⟩) := MA.cell 1 rfl 1 rfl
  have s3 : wq1.cell? ⟨nb, 2, none⟩ = some (.slice none 0 0) := MA.cell 1 rfl 2 rfl
  have s4 : wq1.cell? ⟨nb, 3, none⟩ = some (.slice la e.labels.length lc) := MA.cell 1 rfl 3 rfl
  have s5 : wq1.cell? ⟨nb, 4, none⟩ = some (.bool e.opn) := MA.cell 1 rfl 4 rfl
  have S0 := Tre.hid s0
  have S1 := Tre.hid s1
  have S2 := Tre.hid s2
  have S3 := Tre.hid s3
  have S4 := Tre.hid s4
  have S5 := Tre.hid s5
  have H1 := Tre.hid MA
  clear MA hw hnb s0 s1 s2 s3 s4 s5
  refine hK.out _ _ ?_ (fun hH1 => ?_)
  ·exact ⟨S0.out, S1.out, S2.out, S3.out, S4.out, S5.out⟩
  clear hK K hH0
  try simp only [Act.put, zqf, zqg, zqh]
  refine lOne 8 (by kernel_rfl) (LFall.op (by kernel_rfl) (fun K hK => ?_))
  refine wp_append_row _ _ _ 31 (by rfl) 39 ni _ 5 80 Tryz.underlying31 J1.out J2.out J3.out J4.out rfl (by omega) (.slice aN ds.length cN) ds.length (ds.flatMap NodeV.cells) (by rfl) (H1.out.row 7 rfl) (some ⟨nr, 0, none⟩) 1 1 [.int .i64 3, .string ⟨#[]⟩, .slice none 0 0, .slice la e.labels.length lc, .bool e.opn] (by rfl) ⟨rfl, fun j u hj => ⟨_, 0, rfl, by rw [Nat.zero_add]; exact H1.out.cellAt 0 rfl j hj⟩⟩ (by simp [Value.oneCell']) (by unfold maxLen; omega) (by omega) ?_
  intro v' wq2 hown4 hgrow4 hat4
  have M4 := H1.out.grow 7 rfl hgrow4 hown4 hat4
  obtain ⟨a4, c4, rfl, _⟩ := M4.val 7 rfl
  have H2 := Tre.hid M4
  clear M4 hown4 hgrow4 hat4
  refine hK.out _ _ ?_
  clear hK K hH1
  try simp only [Act.put, zqf]
  refine lPq 9 (some 120) (v := ?_) rfl ?_ (keep_fell (by kernel_rfl)) ?_
  rotate_left
  ·intro w; go_simp <;> with_reducible rfl
  try simp only [Act.put]
  refine lPq 10 (some 121) (v := ?_) rfl ?_ (keep_fell (by kernel_rfl)) ?_
  rotate_left
  ·intro w; go_simp <;> with_reducible rfl
  try simp only [Act.put]
  refine lPq 11 (some 122) (v := ?_) rfl ?_ (keep_fell (by kernel_rfl)) ?_
  rotate_left
  ·intro w; go_simp <;> with_reducible rfl
  try simp only [Act.put]
  refine lOne 12 (by kernel_rfl) (LFall.op (by kernel_rfl) (fun K hK => ?_))
  have g0 : wq2.cell? ⟨lb, 3, none⟩ = some (.slice aN ds.length cN) := H2.out.cell 3 rfl 3 rfl
  have f0 := H2.out.free 3 rfl 3
  have H9 := H2.out.setCell 3 rfl 3 (.slice a4 (ds.length + 1 : Nat) c4)
  go_simp
  generalize hw : wq2.setCell ⟨lb, 3, none⟩ (.slice a4 (ds.length + 1 : Nat) c4) = wq3 at H9 ⊢
  have H3 := Tre.hid H9
  clear H9 hw g0 f0
  refine hK.out _ _ ?_
  clear hK K
  try simp only [Act.put, zqf, zqg, zqh]
  refine lDone (by kernel_rfl) ?_
  have h6 : Mem w0 wq3 (rowR 9 1 (.slice la e.labels.length lc) e.labels.length ((byteStrs e.labels).map Value.string) :: cellsR nb 39 #[.int .i64 3, .string ⟨#[]⟩, .slice none 0 0, .slice la e.labels.length lc, .bool e.opn] :: rowR 39 5 (.slice a4 (ds.length + 1) c4) (ds.length + 1) (ds.flatMap NodeV.cells ++ [.int .i64 3, .string ⟨#[]⟩, .slice none 0 0, .slice la e.labels.length lc, .bool e.opn]) :: kidsR ds :: cellsR lb 71 #[.map (some mb), .map (some mv), .map (some mm), (.slice a4 (ds.length + 1 : Nat) c4), .int .i64 0] :: mapR Tryz.prog 9 Value.string (pv ad) mb n bd :: mapR Tryz.prog 9 Value.string evn mv nv st.vars :: pmapR mm (nm + 1) (upd M ⟨b, off, none⟩ ds.length) :: rs) := ((((((((H3.out.front 6 rfl).front 6 rfl).front 6 rfl).front 6 rfl).front 8 rfl).front 8 rfl).front 7 rfl).front 8 rfl).del 8
  have h7 := (h6.addNil 3 1).push2
  have h8 := ((((h7.front 5 rfl).front 5 rfl).front 5 rfl).front 5 rfl)
  have HQ : Hid (Mem w0 wq3 (cellsR lb 71 #[.map (some mb), .map (some mv), .map (some mm), (.slice a4 (ds.length + 1 : Nat) c4), .int .i64 0] :: mapR Tryz.prog 9 Value.string (pv ad) mb n bd :: mapR Tryz.prog 9 Value.string evn mv nv st.vars :: pmapR mm (nm + 1) (upd M ⟨b, off, none⟩ ds.length) :: nodesR (.slice a4 (ds.length + 1) c4) (ds ++ [(⟨nodeOf e, .slice none 0 0, .slice la e.labels.length lc⟩ : NodeV)]) :: kidsR (ds ++ [(⟨nodeOf e, .slice none 0 0, .slice la e.labels.length lc⟩ : NodeV)]) :: rs)) := by
   show Mem _ _ _
   rw [nodesR_snoc, kidsR_snoc]
   simp only [kids, NodeV.cells, HNO.out]
   rw [show (byteStrs e.labels).length = e.labels.length from HBN.out]; exact h8
  have HDS2 : Hid ((ds ++ [(⟨nodeOf e, .slice none 0 0, .slice la e.labels.length lc⟩ : NodeV)]).map NodeV.n = st.ns ++ [nodeOf e]) := by show _ = _; rw [List.map_append, HDS.out]; rfl
  clear h6 h7 h8 H3
  have HAP := HQ
  have c2z : wq3.cell? ⟨b, off + 2, none⟩ = some (.slice aa e.args.length ca) := cell_below HQ.out.below HC2.out
  clear HQ
  go_wp2_with fail
  go_loopw [13, 128] (fun v13 v128 wr => ∃ (q : Nat) (l : List Nat) (vA : Value) (s2 : LSt) (d2 : List NodeV) (vN2 : Value) (nv2 nm2 : Nat) (M3 : Addr → Option Nat), q ≤ e.args.length ∧ v128 = .int .i64 q ∧ v13 = vA ∧ Hid (kidsF (node1 T (bd, n) k) (e.args.drop q) l s2 = some (l', s3)) ∧ Hid (l.length = q) ∧ Hid (d2.map NodeV.n = s2.ns) ∧ Hid (MadeIs T ad M3 s2.made) ∧ Hid (∀ (c : Addr) (x : Nat), M3 c = some x → PlainAt w0 c) ∧ Hid (Keeps (st.ns ++ [nodeOf e]) s2.ns) ∧ Hid (Mem w0 wr (rowR 3 1 vA q ((l.map fun a : Nat => (a : Int)).map (Value.int .i64)) :: cellsR lb 71 #[.map (some mb), .map (some mv), .map (some mm), vN2, .int .i64 0] :: mapR Tryz.prog 9 Value.string (pv ad) mb n bd :: mapR Tryz.prog 9 Value.string evn mv nv2 s2.vars :: pmapR mm nm2 M3 :: nodesR vN2 d2 :: kidsR d2 :: rs))) (fun _ v128 _ => e.args.length - (intOf v128).toNat)
  case atStart => exact ⟨0, [], .slice none 0 0, ⟨st.vars, upd st.made x st.ns.length, st.ns ++ [nodeOf e]⟩, ds ++ [(⟨nodeOf e, .slice none 0 0, .slice la e.labels.length lc⟩ : NodeV)], .slice a4 (ds.length + 1) c4, nv, nm + 1, upd M ⟨b, off, none⟩ ds.length, Nat.zero_le _, rfl, rfl, by show _ = _; rw [List.drop_zero]; exact HKF.out, rfl, HDS2.out, HMD2.out, HPL2.out, Keeps.refl _, HAP.out.addNil 3 1⟩
  case round =>
   clear HAP c2z
   obtain ⟨q, l, vA, s2, d2, vN2, nv2, nm2, M3, hq, rfl, rfl, HF, HLL, HD2, HM3, HP3, HKP, HM⟩ := hrel
   have c2 : wr.cell? ⟨b, off + 2, none⟩ = some (.slice aa e.args.length ca) := cell_below HM.out.below HC2.out
   by_cases hlt : q < e.args.length
   ·obtain ⟨y, hy⟩ : ∃ y, e.args[q]? = some y := ⟨_, List.getElem?_eq_getElem hlt⟩
    obtain ⟨b', off', rfl, hady⟩ := HAR.out q y hy
    have hf := HF.out
    rw [show e.args.drop q = y :: e.args.drop (q + 1) by obtain ⟨h1, h2⟩ := List.getElem?_eq_some_iff.1 hy; rw [List.drop_eq_getElem_cons h1, h2], kidsF] at hf
    obtain ⟨⟨ay, s4⟩, hb1, hb2⟩ := Option.bind_eq_some_iff.1 hf
    have hk4 := node_keep T (bd, n) k _ _ _ _ hb1
    have hk5 := kids_keep (node_keep T (bd, n) k) _ _ _ _ _ hb2
    have hl4 : s4.ns.length ≤ 1048576 := Nat.le_trans hk5.1 HL3.out
    obtain ⟨aA, cA, rfl, _⟩ := HM.out.val 0 rfl
    have HC := Tre.hid (IH.out y s2 s4 ay _ wr vN2 d2 nv2 nm2 M3 hb1 HD2.out HM3.out HP3.out hl4 (((((((HM.out.front 6 rfl).front 6 rfl).front 6 rfl).front 6 rfl).front 6 rfl).front 6 rfl)))
    rw [hady] at HC
    have HF2 := Tre.hid hb2
    have HK4 := Tre.hid (HKP.out.trans hk4)
    clear hf hb1 hb2 hy hady HF hk4 hk5 hl4
    go_wp2_with fail
    refine HC.out.mono ?_
    rintro e' w5 ⟨rfl, vN5, d5, nv5, nm5, M5, hd5, hm5, hp5, M5m⟩
    have MB := Tre.hid (((M5m.front 6 rfl).allocRow #[.int .i64 (ay : Int)] 3 1 1 (by unfold maxLen; omega) rfl))
    have HD5 := Tre.hid hd5
    have HM5 := Tre.hid hm5
    have HP5 := Tre.hid hp5
    clear M5m hd5 hm5 hp5 c2 HC
    go_wp2_with (at_builtin; refine wpList_append_row _ rfl _ _ 37 rfl 3 ji _ 1 8 Tryz.underlying37 I1.out I2.out I3.out I4.out rfl (by omega) (.slice aA q cA) q ((l.map fun a : Nat => (a : Int)).map (Value.int .i64)) rfl (MB.out.row 1 rfl) (some ⟨w5.heap.size, 0, none⟩) 1 1 [.int .i64 (ay : Int)] rfl ⟨rfl, fun j u hj => ⟨_, 0, rfl, by rw [Nat.zero_add]; exact MB.out.cellAt 0 rfl j hj⟩⟩ (by simp [Value.oneCell']) (by unfold maxLen; omega) (by omega) ?_; intro v9 w9 hown9 hgrow9 hat9; have M9 := MB.out.grow 1 rfl hgrow9 hown9 hat9; obtain ⟨a9, c9, rfl, _⟩ := M9.val 1 rfl; have HM9 := Tre.hid (M9.del 0); clear M9 hown9 hgrow9 hat9)
    go_roundw
    case rel =>
     refine ⟨q + 1, l ++ [ay], .slice a9 (q + 1) c9, s4, d5, vN5, nv5, nm5, M5, by omega, by go_num, rfl, HF2.out, by show _ = _; rw [List.length_append, HLL.out]; rfl, HD5.out, HM5.out, HP5.out, HK4.out, ?_⟩
     show Mem _ _ _
     rw [List.map_append, List.map_append]
     exact HM9.out
    case measure => simp [intOf]; omega
   ·have hql : q = e.args.length := by omega
    have hf := HF.out
    rw [List.drop_eq_nil_of_le (by omega), kidsF] at hf
    injection hf with hf
    injection hf with e1 e2
    subst e1 e2
    have hkp := HKP.out
    have hat : ds.length < d2.length := by
     have h1 := hkp.1
     rw [List.length_append, List.length_singleton] at h1
     have h2 : d2.length = s2.ns.length := by rw [← HD2.out, List.length_map]
     have h3 := HLN.out
     omega
    obtain ⟨dd, hdd⟩ : ∃ dd, d2[ds.length]? = some dd := ⟨_, List.getElem?_eq_getElem hat⟩
    have hddn : dd.n = nodeOf e := by
     have h1 := hkp.2 ds.length (by rw [List.length_append, List.length_singleton, HLN.out]; omega)
     rw [← HD2.out, List.getElem?_map, hdd, List.getElem?_append_right (by rw [HLN.out]; exact Nat.le_refl _), HLN.out, Nat.sub_self] at h1
     simpa using h1
    obtain ⟨a2, c2', rfl, _⟩ := HM.out.val 5 rfl
    obtain ⟨g, hg⟩ : ∃ g, a2 = some ⟨g, 0, none⟩ := by
     obtain ⟨g, c, e, _⟩ := (HM.out.pos 5 (e := 39) (size := 5) (n := d2.length - 1) (v := .slice a2 d2.length c2') (xs := d2.flatMap NodeV.cells) (by show some (rowR _ _ _ _ _) = _; rw [show d2.length - 1 + 1 = d2.length by omega]))
     injection e with e
     exact ⟨g, e⟩
    subst hg
    have l3 : wr.cell? ⟨lb, 3, none⟩ = some (.slice (some ⟨g, 0, none⟩) d2.length c2') := HM.out.cell 1 rfl 3 rfl
    have hcell : (d2.flatMap NodeV.cells)[ds.length * 5 + 2]? = some dd.va := (cells_at d2 ds.length 2 dd hdd (by omega)).trans rfl
    have cg : wr.cell? ⟨g, ds.length * 5 + 2, none⟩ = some dd.va := HM.out.cellAt 5 rfl _ hcell
    have cf := HM.out.freeAt 5 rfl (ds.length * 5 + 2)
    have hlA : ((l.map fun a : Nat => (a : Int))).length = q := by rw [List.length_map]; exact HLL.out
    obtain ⟨aA, cA, rfl, _⟩ := HM.out.val 0 rfl
    have MP0 : Mem w0 wr (rowR 3 1 (.slice aA q cA) (l.map fun a : Nat => (a : Int)).length ((l.map fun a : Nat => (a : Int)).map (Value.int .i64)) :: nodesR (.slice (some ⟨g, 0, none⟩) d2.length c2') d2 :: kidsR d2 :: cellsR lb 71 #[.map (some mb), .map (some mv), .map (some mm), (.slice (some ⟨g, 0, none⟩) d2.length c2'), .int .i64 0] :: mapR Tryz.prog 9 Value.string (pv ad) mb n bd :: mapR Tryz.prog 9 Value.string evn mv nv2 s2.vars :: pmapR mm nm2 M3 :: rs) := by
     rw [hlA]; exact (((((((HM.out.front 4 rfl).front 4 rfl).front 4 rfl).front 4 rfl).front 6 rfl).front 6 rfl).front 6 rfl)
    have MP := putArgs hdd MP0
    have HMP := Tre.hid MP
    have hatI : (ds.length : Int) < (d2.length : Int) := by omega
    have HDDN := Tre.hid hddn
    have HQL := Tre.hid hql
    clear hkp hdd hddn hcell MP0 MP HF HM hlA hql
    go_wp2_with fail
    go_ret
    refine ⟨by rw [HLN.out]; rfl, .slice (some ⟨g, 0, none⟩) d2.length c2', d2.set ds.length ⟨{ dd.n with args := l.map fun a : Nat => (a : Int) }, .slice aA q cA, dd.vl⟩, nv2, nm2, M3, ?_, HM3.out, HP3.out, ?_⟩
    ·rw [List.map_set, HD2.out, HLN.out, HDDN.out]
    ·have hz := HMP.out
     exact ((((hz.front 5 rfl).front 5 rfl).front 5 rfl).front 5 rfl)
end Go.Proofs.YtljmcmdabdlldaaGreatDoor.load
namespace Go.Proofs.YtljmcmdabdlldaaGreatDoor.load
open Go.RowKit Go.Maps Go.Shelf Go.Tre lex gr
set_option maxRecDepth 100000 in
set_option maxHeartbeats 8000000 in
theorem node_old (w0 : World) (T : List Ent) (ad : Nat → Addr) (hE : EntsAt w0 T ad) (hS : SmallT T) (lb mb mv mm : Nat) (bd : ByteArray → Option Nat) (n : Nat) (hn : n ≤ 4194304) (i x : Nat) (e : Ent) (st : LSt) (a : Nat) (rs : List Res) (w : World) (vN : Value) (ds : List NodeV) (nv nm : Nat) (M : Addr → Option Nat) (hfo : follow1 T bd (2 * n + 2) i = some x) (hx : T[x]? = some e) (h1 : ¬ e.kind = 1)
  (hst : st.made x = some a) (hds : ds.map NodeV.n = st.ns) (hmd : MadeIs T ad M st.made) (hpl : ∀ (c : Addr) (x : Nat), M c = some x → PlainAt w0 c)
  (hM : Mem w0 w (cellsR lb 71 #[.map (some mb), .map (some mv), .map (some mm), vN, .int .i64 0] :: mapR Tryz.prog 9 Value.string (pv ad) mb n bd :: mapR Tryz.prog 9 Value.string evn mv nv st.vars :: pmapR mm nm M :: nodesR vN ds :: kidsR ds :: rs)) :
  Calls Tryz.prog 23 #[.pointer (some ⟨lb, 0, none⟩), .pointer (some (ad i))] w (NodePost w0 T ad lb mb mv mm bd n rs a st) := by
 obtain ⟨b, off, aa, ca, al, cl, hadx, h0, hc1, h2, h3, h4, h5, hp, h6⟩ := hE.at_ x e hx
 have HFW := Tre.hid (follow_any w0 T ad hE hS lb mb mv mm vN bd n hn _ i x w hfo hM)
 rw [hadx] at HFW
 have hxl : x < T.length := (List.getElem?_eq_some_iff.1 hx).1
 have HC0 := Tre.hid h0
 have HPX := Tre.hid hp
 have HM := Tre.hid hM
 have HDS := Tre.hid hds
 have HMD := Tre.hid hmd
 have HPL := Tre.hid hpl
 have hnA : M ⟨b, off, none⟩ = some a := by rw [← hadx, hmd x hxl]; exact hst
 have HNA := Tre.hid hnA
 have ek : ((e.kind : Int) == 1) = false := beq_eq_false_iff_ne.2 (by omega)
 clear hE hS hfo hx h1 hst hds hmd hpl hM h0 hc1 h2 h3 h4 h5 hp h6 hadx hnA hxl
 go_enter Tryz.func23, Tryz.ntmps23
 go_wp2_with fail
 refine HFW.out.mono ?_
 rintro e' w1 ⟨rfl, b1⟩
 have M1 := HM.out.quiet b1
 have c0 : w1.cell? ⟨b, off, none⟩ = some (.int .i64 e.kind) := cell_below M1.below HC0.out
 have l2 : w1.cell? ⟨lb, 2, none⟩ = some (.map (some mm)) := M1.cell 0 rfl 2 rfl
 have hlk := look_made (M1.pmap 3 rfl) (HPX.out.below M1.below) (fun c x h => (HPL.out c x h).below M1.below)
 rw [HNA.out] at hlk
 have HM1 := Tre.hid M1
 clear M1 b1 HM HFW
 go_wp2_with fail
 go_ret
 exact ⟨rfl, vN, ds, nv, nm, M, HDS.out, HMD.out, HPL.out, HM1.out⟩
theorem node_any (w0 : World) (T : List Ent) (ad : Nat → Addr) (hE : EntsAt w0 T ad) (hS : SmallT T) (lb mb mv mm : Nat) (bd : ByteArray → Option Nat) (n : Nat) (hn : n ≤ 4194304) (K : Nat) : ∀ (i : Nat) (st st' : LSt) (a : Nat) (rs : List Res) (w : World) (vN : Value) (ds : List NodeV) (nv nm : Nat) (M : Addr → Option Nat),
  node1 T (bd, n) K i st = some (a, st') → ds.map NodeV.n = st.ns → MadeIs T ad M st.made → (∀ (c : Addr) (x : Nat), M c = some x → PlainAt w0 c) → st'.ns.length ≤ 1048576 →
  Mem w0 w (cellsR lb 71 #[.map (some mb), .map (some mv), .map (some mm), vN, .int .i64 0] :: mapR Tryz.prog 9 Value.string (pv ad) mb n bd :: mapR Tryz.prog 9 Value.string evn mv nv st.vars :: pmapR mm nm M :: nodesR vN ds :: kidsR ds :: rs) →
  Calls Tryz.prog 23 #[.pointer (some ⟨lb, 0, none⟩), .pointer (some (ad i))] w (NodePost w0 T ad lb mb mv mm bd n rs a st') := by
 induction K with
 | zero => intro i st st' a rs w vN ds nv nm M h; rw [node1] at h; cases h
 | succ k ih =>
  intro i st st' a rs w vN ds nv nm M h hds hmd hpl hlen hM
  have hk := node_keep T (bd, n) (k + 1) _ _ _ _ h
  rw [node1] at h
  obtain ⟨x, hfo, h⟩ := Option.bind_eq_some_iff.1 h
  obtain ⟨e, hx, h⟩ := Option.bind_eq_some_iff.1 h
  by_cases h1 : e.kind = 1
  ·rw [if_pos h1] at h
   exact node_var w0 T ad hE hS lb mb mv mm bd n hn i x e st st' a rs w vN ds nv nm M hfo hx h1 h hds hmd hpl (Nat.le_trans hk.1 hlen) hM
  ·rw [if_neg h1] at h
   cases hm : st.made x with
   | some a0 =>
    rw [hm] at h
    injection h with h
    injection h with e1 e2
    subst e1 e2
    exact node_old w0 T ad hE hS lb mb mv mm bd n hn i x e st a0 rs w vN ds nv nm M hfo hx h1 hm hds hmd hpl hM
   | none =>
    rw [hm] at h
    obtain ⟨⟨l', s3⟩, hkf, h2⟩ := Option.map_eq_some_iff.1 h
    injection h2 with e1 e2
    subst e1 e2
    have hlen' : s3.ns.length ≤ 1048576 := by simpa using hlen
    by_cases h2 : e.kind = 2
    ·exact node_new2 w0 T ad hE hS lb mb mv mm bd n hn k ih i x e st s3 l' rs w vN ds nv nm M hfo hx h1 h2 hm hkf hds hmd hpl hlen' hM
    ·exact node_new3 w0 T ad hE hS lb mb mv mm bd n hn k ih i x e st s3 l' rs w vN ds nv nm M hfo hx h1 h2 hm hkf hds hmd hpl hlen' hM
end Go.Proofs.YtljmcmdabdlldaaGreatDoor.load
namespace Go.Tre
open Go.RowKit Go.Maps Go.MapKept Go.ChangeMaps
def rawR (b : Nat) (es : Array MapEntry) (clock : Nat) : Res where
 own b' := b' = b
 P w := w.heap[b]? = some (.map es clock)
 stable w w' h hs := (hs b rfl).trans h
 has w h b' hb := by subst hb; exact (Array.getElem?_eq_some_iff.1 h).1
def iterR (r b : Nat) (es : Array MapEntry) (clock cnt : Nat) : Res where
 own b' := b' = r
 P w := ∃ since seen c0, w.heap[r]? = some (.mapIter (some b) since seen c0) ∧ (∀ x ∈ es.toList, x.born < since) ∧ since ≤ c0 ∧ since ≤ clock ∧ (leftOf es seen).size = cnt
 stable w w' h hs := by obtain ⟨s, q, c, hr, rest⟩ := h; exact ⟨s, q, c, (hs r rfl).trans hr, rest⟩
 has w h b' hb := by subst hb; obtain ⟨s, q, c, hr, _⟩ := h; exact (Array.getElem?_eq_some_iff.1 hr).1
section
variable {w0 w : World} {rs : List Res} {P : Program} {α β : Type} {k : TypeId} {ek : α → Value} {ev : β → Value} {b n : Nat} {m : α → Option β}
theorem Mem.raw (h : Mem w0 w (mapR P k ek ev b n m :: rs)) : ∃ es clock, Mem w0 w (rawR b es clock :: rs) ∧ Stamped es clock ∧ es.size = n ∧ (∀ e ∈ es.toList, ∃ a x, e.key = ek a ∧ e.val = ev x ∧ m a = some x) ∧ (∀ w0 w rs, Mem w0 w (rawR b es clock :: rs) → Mem w0 w (mapR P k ek ev b n m :: rs)) := by
 obtain ⟨es, clock, hb, hn, hst, h1, h2⟩ := h.map 0 rfl
 refine ⟨es, clock, h.as_ 0 rfl (rawR b es clock) (fun _ => hb) (fun _ hb => hb), hst, hn, fun e he => ?_, fun w0 w rs hm => hm.as_ 0 rfl (mapR P k ek ev b n m) (fun hp => ⟨es, clock, hp, hn, hst, h1, h2⟩) (fun _ hb => hb)⟩
 obtain ⟨a, x, _, e1, e2, e3, _⟩ := h1 e he
 exact ⟨a, x, e1, e2, e3⟩
theorem Mem.range {es : Array MapEntry} {clock : Nat} (h : Mem w0 w rs) (hst : Stamped es clock) : Mem w0 (w.alloc (.mapIter (some b) clock #[] clock)) (iterR w.heap.size b es clock es.size :: rs) :=
 h.add (World.grownBy_alloc w _ none) (iterR w.heap.size b es clock es.size) ⟨clock, #[], clock, (MapKept.heap_alloc w _).1, hst.1, Nat.le_refl _, Nat.le_refl _, by simp [leftOf]⟩ (fun _ hb => Nat.le_of_eq hb.symm)
variable {ops : Array Oper} {rest : List Oper} {o : Oper} {a : Act} {Q : Exit → Act → World → Prop}
theorem wpList_next_raw (hg : o.guard = none) (it : Operand) (hop : o.op = Op.next it false) (b r cnt clock : Nat) (es : Array MapEntry) (hit : a.eval it = .pointer (some ⟨r, 0, none⟩)) (h : Mem w0 w (iterR r b es clock cnt :: rawR b es clock :: rs)) (hst : Stamped es clock)
  (hDone : cnt = 0 → wpList P ops Q rest (a.put o.dst (.tuple #[.bool false])) w)
  (hMore : ∀ (e : MapEntry) (w' : World) (cnt' : Nat), e ∈ es.toList → cnt' < cnt → Mem w0 w' (iterR r b es clock cnt' :: rawR b es clock :: rs) → (Instr.entry (.pointer (some ⟨r, 0, none⟩))).run P w' = .ok (.tuple #[e.key, e.val]) w' → wpList P ops Q rest (a.put o.dst (.tuple #[.bool true, e.key, e.val])) w') :
  wpList P ops Q (o :: rest) a w := by
 obtain ⟨since, seen, c0, hr, hold, hsc, hsk, hcnt⟩ := h.at_ 0 rfl
 have hb : w.heap[b]? = some (.map es clock) := h.at_ 1 rfl
 have hne : b ≠ r := fun e => (List.pairwise_cons.1 h.sep).1 (rawR b es clock) (by simp) r rfl e.symm
 refine wpList_plain hg fun K' hK' => ?_
 unfold Oper.wp
 rcases run_next_at (P := P) w o.type r b since c0 seen es clock hr hb hold hsc with ⟨h0, hrun⟩ | ⟨e, he, w1, hal, hrun⟩
 ·simp [execOp, hop, hit, hrun, Result.andThen]
  exact hK' _ _ (hDone (by omega))
 ·obtain ⟨hem, hes⟩ := mem_left he
  have hr1 : w1.heap[r]? = some (.mapIter (some b) since seen c0) := by rcases hal with rfl | rfl <;> exact hr
  have hb1 : w1.heap[b]? = some (.map es clock) := by rcases hal with rfl | rfl <;> exact hb
  have hset := heap_set (o' := .mapIter (some b) since (seen.push e.born) clock) hr1
  have hb' : (setBlock w1 r (.mapIter (some b) since (seen.push e.born) clock)).heap[b]? = some (.map es clock) := (hset.2 b hne).trans hb1
  simp [execOp, hop, hit, hrun, Result.andThen]
  refine hK' _ _ (hMore e _ (leftOf es (seen.push e.born)).size hem (by rw [← hcnt]; exact left_shrinks es seen e he) ?_ (run_entry_at _ r b since seen es clock e hset.1 hb' hem ((stamped_iff es clock).1 hst).2.1))
  have h1 : Mem w0 w1 (iterR r b es clock cnt :: rawR b es clock :: rs) := by rcases hal with rfl | rfl; exact h; exact h.drew
  refine h1.set_row (w' := setBlock w1 r (.mapIter (some b) since (seen.push e.born) clock)) 0 rfl (row := some r) ⟨rfl, rfl, rfl, by simp [setBlock], fun i _ hi => hset.2 i (fun e1 => hi (by rw [e1]))⟩ (fun k e => by cases e; rfl) (iterR r b es clock _) ⟨since, seen.push e.born, clock, hset.1, hold, hsk, hsk, rfl⟩ (fun b' hb => .inl hb)
end
end Go.Tre
