/- load: (*loader).node, where it comes to a graph. -/
import Derived.Test.YtljmcmdabdlldaaGreatDoorB21
import Derived.Test.YtljmcmdabdlldaaGreatDoorB08
import Derived.Deep.DeepCutAuto
set_option linter.unusedVariables false
namespace Go.Tre
open Go.RowKit Go.Maps
theorem wpList_storeP {P : Program} {w : World} {b n : Nat} {m : Addr → Option Nat} {t k e0 te : TypeId} {j0 : TypeInfo} {ops : Array Oper} {rest : List Oper} {o : Oper} {a : Act} {Q : Exit → Act → World → Prop} (hg : o.guard = none) (mo xo vo : Operand) (hop : o.op = Op.mapUpdate t mo xo vo)
  (ht : P.underlying t = some (.map k e0)) (hp : P.underlying k = some (.pointer te)) (hte : P.info? te = some j0) (hsz : j0.size ≠ 0) (hm : a.eval mo = .map (some b)) (h : PMap w b n m) (x : Addr) (hx : a.eval xo = .pointer (some x)) (y : Nat) (hy : a.eval vo = .int .i64 (y : Int))
  (hpl : PlainAt w x) (hmp : ∀ (c : Addr) (x : Nat), m c = some x → PlainAt w c) (hno : m x = none)
  (hK : ∀ w', PMap w' b (n + 1) (upd m x y) → w.grownBy w' (some b) → wpList P ops Q rest (a.put o.dst undef) w') : wpList P ops Q (o :: rest) a w := by
 refine wpList_plain hg fun K' hK' => ?_
 obtain ⟨w', hrun, r1, r2⟩ := h.run_store ht hp hte hsz hpl hmp hno y
 unfold Oper.wp
 simp [execOp, hop, hm, hx, hy, hrun, Result.andThen]
 exact hK' _ _ (hK w' r1 r2)
def evn (k : Nat) : Value := .int .i64 (k : Int)
end Go.Tre
namespace Go.Proofs.YtljmcmdabdlldaaGreatDoor.load
open Go.RowKit Go.Maps Go.Shelf Go.Tre lex gr
def NodePost (w0 : World) (T : List Ent) (ad : Nat → Addr) (lb mb mv mm : Nat) (bd : ByteArray → Option Nat) (n : Nat) (rs : List Res) (a : Nat) (st' : LSt) (e : Ending) (w' : World) : Prop :=
 e = .returned (.int .i64 (a : Int)) ∧ ∃ (vN : Value) (ds : List NodeV) (nv nm : Nat) (M : Addr → Option Nat), ds.map NodeV.n = st'.ns ∧ MadeIs T ad M st'.made ∧ (∀ (c : Addr) (x : Nat), M c = some x → PlainAt w0 c) ∧ Mem w0 w' (cellsR lb 71 #[.map (some mb), .map (some mv), .map (some mm), vN, .int .i64 0] :: mapR Tryz.prog 9 Value.string (pv ad) mb n bd :: mapR Tryz.prog 9 Value.string evn mv nv st'.vars :: pmapR mm nm M :: nodesR vN ds :: kidsR ds :: rs)
theorem zi' (w : World) : (zeroValue 3).run Tryz.prog w = .ok (.int .i64 0) w := by kernel_rfl
theorem look_vars {w : World} {mv n : Nat} {m : ByteArray → Option Nat} (h : MapIs Tryz.prog 9 Value.string evn w mv n m) (s : List UInt8) (hs : s.length ≤ 4194304) :
  (Instr.lookup 68 (.map (some mv)) (.string ⟨s.toArray⟩) true).run Tryz.prog w = .ok (match m ⟨s.toArray⟩ with | some i => .tuple #[.int .i64 (i : Int), .bool true] | none => .tuple #[.int .i64 0, .bool false]) w := by
 have h1 := h.run_look_ok KS injS Tryz.underlying68 (zi' w) (kyS s hs)
 rw [h1]
 cases m ⟨s.toArray⟩ <;> rfl
theorem infoTyp : ∃ j0, Tryz.prog.info? 28 = some j0 ∧ j0.size ≠ 0 := by
 have h : (Tryz.prog.info? 28).map (fun i => i.size) = some 5 := by kernel_rfl
 obtain ⟨j, hj, hs⟩ := Option.map_eq_some_iff.1 h
 exact ⟨j, hj, by omega⟩
theorem look_made {w : World} {mm n : Nat} {M : Addr → Option Nat} (h : PMap w mm n M) {a : Addr} (ha : PlainAt w a) (hm : ∀ (c : Addr) (x : Nat), M c = some x → PlainAt w c) :
  (Instr.lookup 69 (.map (some mm)) (.pointer (some a)) true).run Tryz.prog w = .ok (match M a with | some x => .tuple #[.int .i64 (x : Int), .bool true] | none => .tuple #[.int .i64 0, .bool false]) w := by
 obtain ⟨j0, hj, hs⟩ := infoTyp
 exact h.run_look_ok Tryz.underlying69 Tryz.underlying61 hj hs (zi' w) ha hm
set_option maxRecDepth 100000 in
set_option maxHeartbeats 16000000 in
theorem node_var (w0 : World) (T : List Ent) (ad : Nat → Addr) (hE : EntsAt w0 T ad) (hS : SmallT T) (lb mb mv mm : Nat) (bd : ByteArray → Option Nat) (n : Nat) (hn : n ≤ 4194304) (i x : Nat) (e : Ent) (st st' : LSt) (a : Nat) (rs : List Res) (w : World) (vN : Value) (ds : List NodeV) (nv nm : Nat) (M : Addr → Option Nat) (hfo : follow1 T bd (2 * n + 2) i = some x) (hx : T[x]? = some e) (h1 : e.kind = 1)
  (hst : some (match st.vars ⟨e.s.toArray⟩ with | some a => (a, st) | none => (st.ns.length, ⟨upd st.vars ⟨e.s.toArray⟩ st.ns.length, st.made, st.ns ++ [varNode]⟩)) = some (a, st')) (hds : ds.map NodeV.n = st.ns) (hmd : MadeIs T ad M st.made) (hpl : ∀ (c : Addr) (x : Nat), M c = some x → PlainAt w0 c) (hlen : st.ns.length ≤ 1048576)
  (hM : Mem w0 w (cellsR lb 71 #[.map (some mb), .map (some mv), .map (some mm), vN, .int .i64 0] :: mapR Tryz.prog 9 Value.string (pv ad) mb n bd :: mapR Tryz.prog 9 Value.string evn mv nv st.vars :: pmapR mm nm M :: nodesR vN ds :: kidsR ds :: rs)) :
  Calls Tryz.prog 23 #[.pointer (some ⟨lb, 0, none⟩), .pointer (some (ad i))] w (NodePost w0 T ad lb mb mv mm bd n rs a st') := by
 obtain ⟨b, off, aa, ca, al, cl, hadx, h0, hc1, h2, h3, h4, h5, hp, h6⟩ := hE.at_ x e hx
 have HFW := Tre.hid (follow_any w0 T ad hE hS lb mb mv mm vN bd n hn _ i x w hfo hM)
 rw [hadx] at HFW
 have HSL : Hid (e.s.length ≤ 4194304) := hS.s x e hx
 have HC0 := Tre.hid h0
 have HC1 := Tre.hid hc1
 have HM := Tre.hid hM
 have HDS := Tre.hid hds
 have HMD := Tre.hid hmd
 have HPL := Tre.hid hpl
 have HST := Tre.hid hst
 have HLN : Hid (ds.length = st.ns.length) := by show _ = _; rw [← hds, List.length_map]
 have hdl : ds.length ≤ 1048576 := by have := HLN.out; omega
 have ek : ((e.kind : Int) == 1) = true := by rw [h1]; rfl
 obtain ⟨ni, I1, I2, I3, I4⟩ := info_parts infoN
 have J1 := Tre.hid I1
 have J2 := Tre.hid I2
 have J3 := Tre.hid I3
 have J4 := Tre.hid I4
 obtain ⟨aN, cN, rfl, _⟩ := hM.val 4 rfl
 clear hE hS hfo hx h1 hst hds hmd hpl hM h0 hc1 h2 h3 h4 h5 hp h6 hadx hlen I1 I2 I3 I4
 go_enter Tryz.func23, Tryz.ntmps23
 go_wp2_with fail
 refine HFW.out.mono ?_
 rintro e' w1 ⟨rfl, b1⟩
 have M1 := HM.out.quiet b1
 have c0 : w1.cell? ⟨b, off, none⟩ = some (.int .i64 e.kind) := cell_below M1.below HC0.out
 have c1 : w1.cell? ⟨b, off + 1, none⟩ = some (.string ⟨e.s.toArray⟩) := cell_below M1.below HC1.out
 have l1 : w1.cell? ⟨lb, 1, none⟩ = some (.map (some mv)) := M1.cell 0 rfl 1 rfl
 have l3 : w1.cell? ⟨lb, 3, none⟩ = some (.slice aN ds.length cN) := M1.cell 0 rfl 3 rfl
 have HM1 := Tre.hid M1
 clear M1 b1 HM HFW
 cases hv : st.vars ⟨e.s.toArray⟩ with
 | some a0 =>
  have hst := HST.out
  rw [hv] at hst
  injection hst with hst
  injection hst with e1 e2
  subst e1 e2
  have HLK : Hid (∀ W, MapIs Tryz.prog 9 Value.string evn W mv nv st.vars → (Instr.lookup 68 (.map (some mv)) (.string ⟨e.s.toArray⟩) true).run Tryz.prog W = .ok (.tuple #[.int .i64 (a0 : Int), .bool true]) W) := fun W hW => by
   have h := look_vars hW e.s HSL.out
   rw [hv] at h
   exact h
  clear hv HST
  go_wp2_with fail
  have cS : Cond (fun w' => w'.cell? ⟨lb, 1, none⟩ = some (.map (some mv)) ∧ w'.cell? ⟨b, off + 1, none⟩ = some (.string ⟨e.s.toArray⟩) ∧ (Instr.lookup 68 (.map (some mv)) (.string ⟨e.s.toArray⟩) true).run Tryz.prog w' = .ok (.tuple #[.int .i64 (a0 : Int), .bool true]) w') := ⟨⟩
  refine cS.keep [] ?_ (fun hH0 => ?_)
  ·exact ⟨l1, c1, HLK.out _ (HM1.out.drew.map 2 rfl)⟩
  have H0 := Tre.hid HM1.out.drew
  generalize hq : w1.drew = wq0 at H0 hH0 ⊢
  clear hq l1 l3 c0 c1 HM1 HLK
  refine lPq 0 (some 27) (v := ?_) rfl ?_ (keep_of hH0) ?_
  rotate_left
  ·intro w; go_simp <;> with_reducible rfl
  try simp only [Act.put, zqf, zqg, zqh]
  refine lPq 1 (some 28) (v := ?_) rfl ?_ (keep_of hH0) ?_
  rotate_left
  ·intro w; go_simp <;> with_reducible rfl
  try simp only [Act.put, zqf, zqg, zqh]
  refine lPq 2 (some 29) (v := ?_) rfl ?_ (keep_of hH0) ?_
  rotate_left
  ·intro w; go_simp <;> with_reducible rfl
  try simp only [Act.put, zqf, zqg, zqh]
  refine lPq 4 (some 31) (v := ?_) rfl ?_ (keep_of hH0) ?_
  rotate_left
  ·intro w; go_simp <;> with_reducible rfl
  try simp only [Act.put, zqf, zqg, zqh]
  refine lPq 5 (some 32) (v := ?_) rfl ?_ (keep_of hH0) ?_
  rotate_left
  ·intro w; go_simp <;> with_reducible rfl
  try simp only [Act.put, zqf, zqg, zqh]
  refine lPq 6 (some 33) (v := ?_) rfl ?_ (keep_of hH0) ?_
  rotate_left
  ·intro w; go_simp <;> with_reducible rfl
  try simp only [Act.put, zqf, zqg, zqh]
  refine lTq 3 (some 30) (v := ?_) rfl ?_ hH0 ?_
  rotate_left
  ·intro w hSw; (try dsimp only at hSw); go_simp <;> with_reducible rfl
  try simp only [Act.put, zqf, zqg, zqh]
  refine lTq 7 (some 34) (v := ?_) rfl ?_ hH0 ?_
  rotate_left
  ·intro w hSw; (try dsimp only at hSw); go_simp <;> with_reducible rfl
  try simp only [Act.put, zqf, zqg, zqh]
  refine lTq 8 (some 35) (v := ?_) rfl ?_ hH0 ?_
  rotate_left
  ·intro w hSw; (try dsimp only at hSw); go_simp <;> with_reducible rfl
  try simp only [Act.put, zqf, zqg, zqh]
  refine lPq 9 (some 26) (v := ?_) rfl ?_ (keep_of hH0) ?_
  rotate_left
  ·intro w; go_simp <;> with_reducible rfl
  try simp only [Act.put, zqf, zqg, zqh]
  refine lPq 10 (some 36) (v := ?_) rfl ?_ (keep_of hH0) ?_
  rotate_left
  ·intro w; go_simp <;> with_reducible rfl
  try simp only [Act.put, zqf, zqg, zqh]
  refine lPq 11 (some 37) (v := ?_) rfl ?_ (keep_of hH0) ?_
  rotate_left
  ·intro w; go_simp <;> with_reducible rfl
  try simp only [Act.put, zqf, zqg, zqh]
  refine lPq 12 (some 7) (v := ?_) rfl ?_ (keep_of hH0) ?_
  rotate_left
  ·intro w; go_simp <;> with_reducible rfl
  try simp only [Act.put, zqf, zqg, zqh]
  refine lPq 13 (some 8) (v := ?_) rfl ?_ (keep_of hH0) ?_
  rotate_left
  ·intro w; go_simp <;> with_reducible rfl
  try simp only [Act.put, zqf, zqg, zqh]
  refine lDone (by kernel_rfl) ?_
  clear hH0
  go_wp2_with fail
  go_ret
  exact ⟨rfl, .slice aN ds.length cN, ds, nv, nm, M, HDS.out, HMD.out, HPL.out, H0.out⟩
 | none =>
  have hst := HST.out
  rw [hv] at hst
  injection hst with hst
  injection hst with e1 e2
  subst e1 e2
  have HLK : Hid (∀ W, MapIs Tryz.prog 9 Value.string evn W mv nv st.vars → (Instr.lookup 68 (.map (some mv)) (.string ⟨e.s.toArray⟩) true).run Tryz.prog W = .ok (.tuple #[.int .i64 0, .bool false]) W) := fun W hW => by
   have h := look_vars hW e.s HSL.out
   rw [hv] at h
   exact h
  clear hv HST
  go_wp2_with fail
  have cS : Cond (fun w' => w'.cell? ⟨lb, 1, none⟩ = some (.map (some mv)) ∧ w'.cell? ⟨b, off + 1, none⟩ = some (.string ⟨e.s.toArray⟩) ∧ (Instr.lookup 68 (.map (some mv)) (.string ⟨e.s.toArray⟩) true).run Tryz.prog w' = .ok (.tuple #[.int .i64 0, .bool false]) w') := ⟨⟩
  refine cS.keep [] ?_ (fun hH0 => ?_)
  ·exact ⟨l1, c1, HLK.out _ (HM1.out.drew.map 2 rfl)⟩
  have H0 := Tre.hid HM1.out.drew
  generalize hq : w1.drew = wq0 at H0 hH0 ⊢
  clear hq l1 l3 c0 c1 HM1 HLK
  refine lPq 0 (some 27) (v := ?_) rfl ?_ (keep_of hH0) ?_
  rotate_left
  ·intro w; go_simp <;> with_reducible rfl
  try simp only [Act.put, zqf, zqg, zqh]
  refine lPq 1 (some 28) (v := ?_) rfl ?_ (keep_of hH0) ?_
  rotate_left
  ·intro w; go_simp <;> with_reducible rfl
  try simp only [Act.put, zqf, zqg, zqh]
  refine lPq 2 (some 29) (v := ?_) rfl ?_ (keep_of hH0) ?_
  rotate_left
  ·intro w; go_simp <;> with_reducible rfl
  try simp only [Act.put, zqf, zqg, zqh]
  refine lPq 4 (some 31) (v := ?_) rfl ?_ (keep_of hH0) ?_
  rotate_left
  ·intro w; go_simp <;> with_reducible rfl
  try simp only [Act.put, zqf, zqg, zqh]
  refine lPq 5 (some 32) (v := ?_) rfl ?_ (keep_of hH0) ?_
  rotate_left
  ·intro w; go_simp <;> with_reducible rfl
  try simp only [Act.put, zqf, zqg, zqh]
  refine lPq 6 (some 33) (v := ?_) rfl ?_ (keep_of hH0) ?_
  rotate_left
  ·intro w; go_simp <;> with_reducible rfl
  try simp only [Act.put, zqf, zqg, zqh]
  refine lTq 3 (some 30) (v := ?_) rfl ?_ hH0 ?_
  rotate_left
  ·intro w hSw; (try dsimp only at hSw); go_simp <;> with_reducible rfl
  try simp only [Act.put, zqf, zqg, zqh]
  refine lTq 7 (some 34) (v := ?_) rfl ?_ hH0 ?_
  rotate_left
  ·intro w hSw; (try dsimp only at hSw); go_simp <;> with_reducible rfl
  try simp only [Act.put, zqf, zqg, zqh]
  refine lTq 8 (some 35) (v := ?_) rfl ?_ hH0 ?_
  rotate_left
  ·intro w hSw; (try dsimp only at hSw); go_simp <;> with_reducible rfl
  try simp only [Act.put, zqf, zqg, zqh]
  refine lPq 9 (some 26) (v := ?_) rfl ?_ (keep_of hH0) ?_
  rotate_left
  ·intro w; go_simp <;> with_reducible rfl
  try simp only [Act.put, zqf, zqg, zqh]
  refine lPq 10 (some 36) (v := ?_) rfl ?_ (keep_of hH0) ?_
  rotate_left
  ·intro w; go_simp <;> with_reducible rfl
  try simp only [Act.put, zqf, zqg, zqh]
  refine lPq 11 (some 37) (v := ?_) rfl ?_ (keep_of hH0) ?_
  rotate_left
  ·intro w; go_simp <;> with_reducible rfl
  try simp only [Act.put, zqf, zqg, zqh]
  refine lPq 12 (some 7) (v := ?_) rfl ?_ (keep_of hH0) ?_
  rotate_left
  ·intro w; go_simp <;> with_reducible rfl
  try simp only [Act.put, zqf, zqg, zqh]
  refine lPq 13 (some 8) (v := ?_) rfl ?_ (keep_of hH0) ?_
  rotate_left
  ·intro w; go_simp <;> with_reducible rfl
  try simp only [Act.put, zqf, zqg, zqh]
  refine lDone (by kernel_rfl) ?_
  clear hH0
  have l3 : wq0.cell? ⟨lb, 3, none⟩ = some (.slice aN ds.length cN) := H0.out.cell 0 rfl 3 rfl
  go_wp2_with fail
  have cS : Cond (fun w' => w'.cell? ⟨lb, 1, none⟩ = some (.map (some mv)) ∧ w'.cell? ⟨b, off + 1, none⟩ = some (.string ⟨e.s.toArray⟩)) := ⟨⟩
  refine cS.keep [9] ?_ (fun hH0 => ?_)
  ·exact ⟨H0.out.drew.cell 0 rfl 1 rfl, cell_below H0.out.drew.below HC1.out⟩
  have HZ := Tre.hid H0.out.drew
  generalize hq : World.drew _ = wq1 at HZ hH0 ⊢
  clear hq H0 l3
  refine lPq 0 (some 46) (v := ?_) rfl ?_ (keep_of hH0) ?_
  rotate_left
  ·intro w; go_simp <;> with_reducible rfl
  try simp only [Act.put, zqf, zqg, zqh]
  refine lPq 1 (some 47) (v := ?_) rfl ?_ (keep_of hH0) ?_
  rotate_left
  ·intro w; go_simp <;> with_reducible rfl
  try simp only [Act.put, zqf, zqg, zqh]
  refine lPq 2 (some 48) (v := ?_) rfl ?_ (keep_of hH0) ?_
  rotate_left
  ·intro w; go_simp <;> with_reducible rfl
  try simp only [Act.put, zqf, zqg, zqh]
  refine lPq 4 (some 50) (v := ?_) rfl ?_ (keep_of hH0) ?_
  rotate_left
  ·intro w; go_simp <;> with_reducible rfl
  try simp only [Act.put, zqf, zqg, zqh]
  refine lPq 5 (some 51) (v := ?_) rfl ?_ (keep_of hH0) ?_
  rotate_left
  ·intro w; go_simp <;> with_reducible rfl
  try simp only [Act.put, zqf, zqg, zqh]
  refine lPq 6 (some 52) (v := ?_) rfl ?_ (keep_of hH0) ?_
  rotate_left
  ·intro w; go_simp <;> with_reducible rfl
  try simp only [Act.put, zqf, zqg, zqh]
  refine lPq 8 (some 54) (v := ?_) rfl ?_ (keep_of hH0) ?_
  rotate_left
  ·intro w; go_simp <;> with_reducible rfl
  try simp only [Act.put, zqf, zqg, zqh]
  refine lTq 3 (some 49) (v := ?_) rfl ?_ hH0 ?_
  rotate_left
  ·intro w hSw; (try dsimp only at hSw); go_simp <;> with_reducible rfl
  try simp only [Act.put, zqf, zqg, zqh]
  refine lTq 7 (some 53) (v := ?_) rfl ?_ hH0 ?_
  rotate_left
  ·intro w hSw; (try dsimp only at hSw); go_simp <;> with_reducible rfl
  try simp only [Act.put, zqf, zqg, zqh]
  refine lOne 9 (by kernel_rfl) (LFall.op (by kernel_rfl) (fun K hK => ?_))
  obtain ⟨W2, hrun, hm2, hg2⟩ := (HZ.out.map 2 rfl).run_store KS injS Tryz.underlying68 (kyS e.s HSL.out) ds.length
  have hrun' : (Instr.mapUpdate 68 (.map (some mv)) (.string ⟨e.s.toArray⟩) (.int .i64 (ds.length : Int))).run Tryz.prog wq1 = .ok () W2 := hrun
  go_simp
  have H9 := HZ.out.put 2 rfl hg2 hm2
  have HMB : Hid (Mem w0 W2 (cellsR lb 71 #[.map (some mb), .map (some mv), .map (some mm), (.slice aN ds.length cN), .int .i64 0] :: mapR Tryz.prog 9 Value.string (pv ad) mb n bd :: mapR Tryz.prog 9 Value.string evn mv (if (st.vars ⟨e.s.toArray⟩).isSome then nv else nv + 1) (upd st.vars ⟨e.s.toArray⟩ ds.length) :: pmapR mm nm M :: nodesR (.slice aN ds.length cN) ds :: kidsR ds :: rs)) := Tre.hid H9
  clear hm2 hg2 hrun hrun' H9
  refine hK.out _ _ ?_
  clear hK K hH0
  try simp only [Act.put, zqf, zqg, zqh]
  refine lDone (by kernel_rfl) ?_
  have l3' : W2.cell? ⟨lb, 3, none⟩ = some (.slice aN ds.length cN) := HMB.out.cell 0 rfl 3 rfl
  have MB := Tre.hid (HMB.out.allocRow #[.int .i64 1, .string ByteArray.empty, .slice none 0 0, .slice none 0 0, .bool false] 39 5 1 (by unfold maxLen; omega) rfl)
  have l3a : (W2.alloc (.cells #[.int .i64 1, .string ByteArray.empty, .slice none 0 0, .slice none 0 0, .bool false] 39)).cell? ⟨lb, 3, none⟩ = some (.slice aN ds.length cN) := MB.out.cell 1 rfl 3 rfl
  clear HMB
  go_wp2_with (at_builtin; refine wpList_append_row _ rfl _ _ 31 rfl 39 ni _ 5 80 Tryz.underlying31 J1.out J2.out J3.out J4.out rfl (by omega) (.slice aN ds.length cN) ds.length (ds.flatMap NodeV.cells) rfl (MB.out.row 5 rfl) (some ⟨W2.heap.size, 0, none⟩) 1 1 [.int .i64 1, .string ByteArray.empty, .slice none 0 0, .slice none 0 0, .bool false] rfl ⟨rfl, fun j u hj => ⟨_, 0, rfl, by rw [Nat.zero_add]; exact MB.out.cellAt 0 rfl j hj⟩⟩ (by simp [Value.oneCell']) (by unfold maxLen; omega) (by omega) ?_; intro v' w9 hown4 hgrow4 hat4; have M4 := MB.out.grow 5 rfl hgrow4 hown4 hat4; obtain ⟨a4, c4, rfl, _⟩ := M4.val 5 rfl; have q3 : w9.cell? ⟨lb, 3, none⟩ = some (.slice aN ds.length cN) := M4.cell 1 rfl 3 rfl; have q3f := M4.free 1 rfl 3; have HM4 := Tre.hid M4; clear M4 hown4 hgrow4 hat4)
  have HM5 := Tre.hid (HM4.out.setCell 1 rfl 3 (.slice a4 (ds.length + 1) c4))
  clear HM4 MB q3 q3f l3a l3'
  go_wp2_with fail
  go_ret
  have h5 := HM5.out
  have h6 : Mem w0 _ (rowR 39 5 (.slice a4 (ds.length + 1) c4) (ds.length + 1) (ds.flatMap NodeV.cells ++ [.int .i64 1, .string ByteArray.empty, .slice none 0 0, .slice none 0 0, .bool false]) :: kidsR ds :: cellsR lb 71 #[.map (some mb), .map (some mv), .map (some mm), (.slice a4 (ds.length + 1) c4), .int .i64 0] :: mapR Tryz.prog 9 Value.string (pv ad) mb n bd :: mapR Tryz.prog 9 Value.string evn mv (if (st.vars ⟨e.s.toArray⟩).isSome then nv else nv + 1) (upd st.vars ⟨e.s.toArray⟩ ds.length) :: pmapR mm nm M :: rs) := ((((((h5.front 4 rfl).front 4 rfl).front 4 rfl).front 4 rfl).front 6 rfl).front 6 rfl).del 6
  have h7 := (((h6.addNil 9 1).addNil 9 1).addNil 3 1).push2
  have h8 := ((((h7.front 5 rfl).front 5 rfl).front 5 rfl).front 5 rfl)
  refine ⟨by rw [HLN.out]; rfl, .slice a4 (ds.length + 1) c4, ds ++ [⟨varNode, .slice none 0 0, .slice none 0 0⟩], (if (st.vars ⟨e.s.toArray⟩).isSome then nv else nv + 1), nm, M, ?_, HMD.out, HPL.out, ?_⟩
  ·rw [List.map_append, HDS.out]; rfl
  ·rw [nodesR_snoc, kidsR_snoc, ← HLN.out]; exact h8
end Go.Proofs.YtljmcmdabdlldaaGreatDoor.load
