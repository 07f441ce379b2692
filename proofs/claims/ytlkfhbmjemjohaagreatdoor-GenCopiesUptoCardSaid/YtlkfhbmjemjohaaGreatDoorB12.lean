/- solve: join of two nodes that wait; run. solve: run. Drawn regions that make memory: each state that is reached is shown once, whatever the order in which it was. -/
import Derived.Test.YtlkfhbmjemjohaaGreatDoorB11
import Derived.Deep.LoopGhost
import Derived.Test.YtlkfhbmjemjohaaGreatDoorB08
set_option linter.unusedVariables false
namespace Go.Tre
theorem map_en_set (l : List Nat) (i x : Nat) : (l.map fun n : Nat => Value.int .i64 (n : Int)).set i (.int .i64 (x : Int)) = (l.set i x).map fun n : Nat => Value.int .i64 (n : Int) := by rw [List.map_set]
theorem mem_le_sum' {α : Type} (f : α → Nat) {l : List α} {x : α} (h : x ∈ l) : f x ≤ (l.map f).sum := by
 induction l with
 | nil => cases h
 | cons a r ih =>
  rw [List.map_cons, List.sum_cons]
  rcases List.mem_cons.1 h with rfl | h
  ·omega
  ·have := ih h; omega
theorem deg_wide {f : Tre.Graph} {i : Nat} (hi : i < f.ns.length) : f.deg i ≤ f.wide := by
 unfold Graph.deg Graph.wide
 rw [Graph.nd_eq hi]
 exact mem_le_sum' (fun n : Tre.Node => n.args.length) (List.getElem_mem hi)
end Go.Tre
namespace Go.Proofs.YtlkfhbmjemjohaaGreatDoor.sol
open Go.RowKit Go.Shelf Go.Maps Go.MapKept Go.ChangeMaps Go.Tre lex gr
def St (w0 w : World) (f : Tre.Graph) (cs : List ClsV) (s : Nat) (on rank has : List Nat) (waits : List (Nat × Nat)) (rs : List Res) : Prop :=
 ∃ (gO cO gR cR gH cH : Nat) (aW : Option Addr) (cW : Nat), Mem w0 w (cellsR s 64 #[.slice (some ⟨gO, 0, none⟩) f.ns.length cO, .slice (some ⟨gR, 0, none⟩) f.ns.length cR, .slice (some ⟨gH, 0, none⟩) f.ns.length cH, .slice aW waits.length cW] :: rowR 34 2 (.slice aW waits.length cW) waits.length (pairCells waits) :: mapsR cs ::
  rowR 3 1 (.slice (some ⟨gO, 0, none⟩) f.ns.length cO) f.ns.length (on.map en) :: rowR 3 1 (.slice (some ⟨gR, 0, none⟩) f.ns.length cR) f.ns.length (rank.map en) :: rowR 72 5 (.slice (some ⟨gH, 0, none⟩) f.ns.length cH) f.ns.length (hasCells cs has) :: rs)
theorem St.quiet {w0 w w' : World} {f : Tre.Graph} {cs : List ClsV} {s : Nat} {on rank has : List Nat} {waits : List (Nat × Nat)} {rs : List Res} (h : St w0 w f cs s on rank has waits rs) (b : Below w.heap.size w w') : St w0 w' f cs s on rank has waits rs := by
 obtain ⟨gO, cO, gR, cR, gH, cH, aW, cW, M⟩ := h
 exact ⟨gO, cO, gR, cR, gH, cH, aW, cW, M.quiet b⟩
section
variable {f : Tre.Graph} {n : Nat} {orig : Nat → Nat} {p : Nat × Nat} {on rank has : List Nat} {waits : List (Nat × Nat)}
theorem SInv.onAt {w0 w : World} {cs : List ClsV} {s : Nat} {rs : List Res} (h : SInv f orig p on rank has waits) {gO cO gR cR gH cH : Nat} {aW : Option Addr} {cW : Nat} {q : List (Nat × Nat)} (M : Mem w0 w (cellsR s 64 #[.slice (some ⟨gO, 0, none⟩) f.ns.length cO, .slice (some ⟨gR, 0, none⟩) f.ns.length cR, .slice (some ⟨gH, 0, none⟩) f.ns.length cH, .slice aW q.length cW] :: rowR 34 2 (.slice aW q.length cW) q.length (pairCells q) :: mapsR cs ::
  rowR 3 1 (.slice (some ⟨gO, 0, none⟩) f.ns.length cO) f.ns.length (on.map en) :: rs)) : OnAt w s gO cO on :=
 ⟨by rw [h.lon]; exact M.cell 0 rfl 0 rfl, fun j hj => M.cellAt 3 rfl j (by rw [List.getElem?_map, List.getD_eq_getElem?_getD, List.getElem?_eq_getElem hj]; rfl), fun j _ => M.freeAt 3 rfl j, fun j hj => by rw [h.lon] at hj ⊢; exact h.on_lt j hj, fun j hj => by rw [h.lon] at hj; exact h.on_on j hj⟩
theorem join_same (s gO cO a b : Nat) (on : List Nat) (w : World) (O : OnAt w s gO cO on) (ha : a < on.length) (hb : b < on.length) (hl : on.length ≤ 8388608) (e : on.getD a 0 = on.getD b 0) :
  Calls Tryz.prog 45 #[.pointer (some ⟨s, 0, none⟩), .int .i64 (a : Int), .int .i64 (b : Int)] w fun e w' => e = .returned .nilIface ∧ Below w.heap.size w w' := by
 have F1 := find_any s gO cO on a w O ha hl
 have F2 : ∀ W : World, Below w.heap.size w W → Calls Tryz.prog 27 #[.pointer (some ⟨s, 0, none⟩), .int .i64 (b : Int)] W fun e w' => e = .returned (.int .i64 ((on.getD b 0 : Nat) : Int)) ∧ Below W.heap.size W w' := fun W h =>
  find_any s gO cO on b W ⟨cell_below h O.f, fun j hj => cell_below h (O.c j hj), fun j hj => by
   have := World.block_lt_of_cell? w _ (O.c j hj)
   rw [show W.frozen? ⟨gO, j, none⟩ = w.frozen? ⟨gO, j, none⟩ by simp only [World.frozen?]; rw [h.block gO this]]
   exact O.z j hj, O.lt, O.on_⟩ hb hl
 rw [← e] at F2
 generalize on.getD a 0 = x at *
 have H1 := Tre.hid F1
 have H2 := Tre.hid F2
 clear F1 F2 O e ha hb hl
 go_enter Tryz.func45, Tryz.ntmps45
 go_wp2_with fail
 refine H1.out.mono ?_
 rintro e w1 ⟨rfl, b1⟩
 have HB1 := Tre.hid b1
 clear b1 H1
 go_wp2_with fail
 refine (H2.out w1 HB1.out).mono ?_
 rintro e w2 ⟨rfl, b2⟩
 have HB2 := Tre.hid (HB1.out.trans (b2.mono HB1.out.size))
 clear b2 H2
 go_wp2_with fail
 go_ret
 exact ⟨rfl, HB2.out⟩
theorem join_any (t : Tre.Twin f n orig) (cs : List ClsV) (s a b : Nat) (w0 w : World) (rs : List Res) (h : SolOk w0 f cs) (hs : SInv f orig p on rank has (waits ++ [(a, b)])) (hq : waits.length ≤ 1099511627776) (hM : St w0 w f cs s on rank has waits rs) :
  Calls Tryz.prog 45 #[.pointer (some ⟨s, 0, none⟩), .int .i64 (a : Int), .int .i64 (b : Int)] w fun e w' => e = .returned .nilIface ∧ ∃ (on' rank' has' : List Nat) (waits' : List (Nat × Nat)), SInv f orig p on' rank' has' waits' ∧ St w0 w' f cs s on' rank' has' waits' rs ∧
   rootsOf on' * (f.wide + 1) + waits'.length ≤ rootsOf on * (f.wide + 1) + waits.length := by
 obtain ⟨gO, cO, gR, cR, gH, cH, aW, cW, M⟩ := hM
 obtain ⟨ha, hb, eo⟩ : a < f.ns.length ∧ b < f.ns.length ∧ orig a = orig b := hs.wait (a, b) (by simp)
 have O := SInv.onAt hs M
 have hsm := h.small
 by_cases e : on.getD a 0 = on.getD b 0
 ·refine (join_same s gO cO a b on w O (by rw [hs.lon]; exact ha) (by rw [hs.lon]; exact hb) (by rw [hs.lon]; omega) e).mono ?_
  rintro e' w1 ⟨rfl, b1⟩
  exact ⟨rfl, on, rank, has, waits, hs.skip e, ⟨gO, cO, gR, cR, gH, cH, aW, cW, M.quiet b1⟩, Nat.le_refl _⟩
 ·obtain ⟨r1, r2, k1, k2, hlt, hnew⟩ := hs.join t e
  have lx := hs.on_lt a ha
  have ly := hs.on_lt b hb
  have oxy : orig (on.getD b 0) = orig (on.getD a 0) := by rw [hs.on_orig a ha, hs.on_orig b hb, eo]
  have hB := fun (W : World) (rs : List Res) (hM : Mem w0 W (SW s (.slice (some ⟨gO, 0, none⟩) f.ns.length cO) (.slice (some ⟨gR, 0, none⟩) f.ns.length cR) (.slice (some ⟨gH, 0, none⟩) f.ns.length cH) aW cW waits cs rs)) =>
   both_any s f cs (on.getD b 0) (on.getD a 0) w0 W h ly lx (by rw [t.kind _ ly, t.kind _ lx, oxy]) (by rw [t.name _ ly, t.name _ lx, oxy]) (by rw [t.labels _ ly, t.labels _ lx, oxy]) (by rw [t.open_ _ ly, t.open_ _ lx, oxy]) (t.deg ly lx oxy) _ _ _ aW cW waits rs hq hM
  refine (join_walk s gO cO gR cR gH cH f.ns.length a b (on.getD a 0) (on.getD b 0) aW cW cs on rank has waits
   (fun m new => (m = on.getD a 0 ∨ m = on.getD b 0) ∧ new.length ≤ f.deg (on.getD b 0) ∧ (∀ q ∈ new, ∃ k, k < f.deg (on.getD b 0) ∧ q = (f.kid (on.getD b 0) k, f.kid (on.getD a 0) k)) ∧ (∀ k, k < f.deg (on.getD b 0) → (f.kid (on.getD b 0) k, f.kid (on.getD a 0) k) ∈ new))
   w0 w rs (by omega) hs.lon hs.lrank hs.lhas ha hb lx ly e rfl rfl (hs.on_on b hb) O.lt O.on_ r1 r2 k1 k2 (fun W rs hM => (hB W rs hM).mono ?_) M).mono ?_
  ·rintro e' w1 ⟨m, new, a1, c1, he, hm, h1, h2, h3, h4⟩
   exact ⟨m, new, a1, c1, he, ⟨hm, h1, h2, h3⟩, h4⟩
  ·rintro e' w1 ⟨rfl, m, new, a1, c1, cM, ⟨hm, h1, h2, h3⟩, rfl, M1⟩
   refine ⟨rfl, _, _, _, _, hnew m new hm h2 h3, ⟨gO, cO, gR, cR, gH, cH, a1, c1, ?_⟩, ?_⟩
   ·have e1 : (on.map en).set (on.getD b 0) (.int .i64 ((on.getD a 0 : Nat) : Int)) = (on.set (on.getD b 0) (on.getD a 0)).map en := map_en_set on _ _
    have e2 : (rank.map en).set (on.getD a 0) (.int .i64 1) = (rank.set (on.getD a 0) 1).map en := map_en_set rank _ 1
    rw [e1, e2] at M1
    have e3 := hasCells_set cs has (on.getD a 0) m (by rw [hs.lhas]; exact lx)
    rw [← e3]
    exact M1
   ·have hd := deg_wide (f := f) ly
    rw [List.length_append]
    have h5 : (rootsOf (on.set (on.getD b 0) (on.getD a 0)) + 1) * (f.wide + 1) ≤ rootsOf on * (f.wide + 1) := Nat.mul_le_mul_right _ hlt
    rw [Nat.add_mul, Nat.one_mul] at h5
    omega
end
end Go.Proofs.YtlkfhbmjemjohaaGreatDoor.sol
namespace Go.Tre
theorem snoc_of {α : Type} : ∀ {l : List α}, l ≠ [] → ∃ q x, l = q ++ [x]
 | [], h => absurd rfl h
 | [a], _ => ⟨[], a, rfl⟩
 | a :: b :: r, _ => by
  obtain ⟨q, x, e⟩ := snoc_of (l := b :: r) (by simp)
  exact ⟨a :: q, x, by rw [e]; rfl⟩
end Go.Tre
namespace Go.Proofs.YtlkfhbmjemjohaaGreatDoor.sol
open Go.RowKit Go.Shelf Go.Maps Go.MapKept Go.ChangeMaps Go.Tre lex gr
theorem pairs_at (q : List (Nat × Nat)) (a b : Nat) : (pairCells (q ++ [(a, b)]))[q.length * 2]? = some (en a) ∧ (pairCells (q ++ [(a, b)]))[q.length * 2 + 1]? = some (en b) := by
 rw [pairCells_app]
 constructor
 ·rw [List.getElem?_append_right (by rw [pairCells_len]; omega), pairCells_len]; simp [pairCells]
 ·rw [List.getElem?_append_right (by rw [pairCells_len]; omega), pairCells_len, show q.length * 2 + 1 - q.length * 2 = 1 by omega]; rfl
set_option maxRecDepth 100000 in
set_option maxHeartbeats 16000000 in
theorem run_any {f : Tre.Graph} {n : Nat} {orig : Nat → Nat} {p : Nat × Nat} (t : Tre.Twin f n orig) (cs : List ClsV) (s : Nat) (on rank has : List Nat) (waits : List (Nat × Nat)) (w0 w : World) (rs : List Res) (h : SolOk w0 f cs) (hs : SInv f orig p on rank has waits) (hq : rootsOf on * (f.wide + 1) + waits.length ≤ 549755813888) (hM : St w0 w f cs s on rank has waits rs) :
  Calls Tryz.prog 26 #[.pointer (some ⟨s, 0, none⟩)] w fun e w' => e = .returned .nilIface ∧ ∃ (on' rank' has' : List Nat), SInv f orig p on' rank' has' [] ∧ St w0 w' f cs s on' rank' has' [] rs := by
 have HT := Tre.hid t
 have HO := Tre.hid h
 have HS := Tre.hid hs
 have HM0 := Tre.hid hM
 clear t h hs hM
 go_enter Tryz.func26, Tryz.ntmps26
 go_wp2_with fail
 go_loopg [4] (rootsOf on * (f.wide + 1) + waits.length) (fun gk v4 wr => ∃ (u4 : Value) (on rank has : List Nat) (waits : List (Nat × Nat)), v4 = u4 ∧ gk = rootsOf on * (f.wide + 1) + waits.length ∧ gk ≤ 549755813888 ∧ Hid (SInv f orig p on rank has waits) ∧ Hid (St w0 wr f cs s on rank has waits rs))
 case atStart => exact ⟨_, on, rank, has, waits, rfl, rfl, hq, HS, HM0⟩
 case round =>
 clear HM0 HS hq
 clear on rank has waits
 obtain ⟨u4, on, rank, has, waits, rfl, hgk, hgb, HS, HST⟩ := hrel
 by_cases hne : waits = []
 ·subst hne
  obtain ⟨gO, cO, gR, cR, gH, cH, aW, cW, M⟩ := HST.out
  have t0 : wr.cell? ⟨s, 3, none⟩ = some (.slice aW 0 cW) := M.cell 0 rfl 3 rfl
  clear M hgk
  go_wp2_with fail
  go_ret
  exact ⟨rfl, on, rank, has, HS.out, HST.out⟩
 ·obtain ⟨q, ⟨a, b⟩, rfl⟩ := snoc_of hne
  obtain ⟨gO, cO, gR, cR, gH, cH, aW, cW, M⟩ := HST.out
  have hlen : (q ++ [(a, b)]).length = q.length + 1 := by simp
  rw [hlen] at M hgk
  obtain ⟨gW, cW', e1, _, _⟩ := M.pos 1 rfl
  injection e1 with e1 _ e2
  subst e1 e2
  have hcap : q.length + 1 ≤ cW := by
   obtain ⟨a', c', e3, hc⟩ := M.val 1 rfl
   injection e3 with _ _ e4
   omega
  obtain ⟨pa, pb⟩ := pairs_at q a b
  have HJ := Tre.hid (fun (W : World) (hM : St w0 W f cs s on rank has q rs) => join_any HT.out cs s a b w0 W rs HO.out HS.out (by omega) hM)
  have HPC : Hid (pairCells (q ++ [(a, b)]) = pairCells q ++ [en a, en b]) := pairCells_app q [(a, b)]
  have t0 : wr.cell? ⟨s, 3, none⟩ = some (.slice (some ⟨gW, 0, none⟩) (q.length + 1) cW) := M.cell 0 rfl 3 rfl
  have t1 : wr.cell? ⟨gW, q.length * 2, none⟩ = some (.int .i64 (a : Int)) := M.cellAt 1 rfl _ pa
  have t2 : wr.cell? ⟨gW, q.length * 2 + 1, none⟩ = some (.int .i64 (b : Int)) := M.cellAt 1 rfl _ pb
  have PA : Hid ((pairCells (q ++ [(a, b)]))[q.length * 2]? = some (.int .i64 (a : Int))) := pa
  have PB : Hid ((pairCells (q ++ [(a, b)]))[q.length * 2 + 1]? = some (.int .i64 (b : Int))) := pb
  have HGK := Tre.hid hgk
  have hql : q.length ≤ 549755813888 := by omega
  have HM := Tre.hid M
  clear M hne pa pb hgk HST hlen
  obtain ⟨n, hn⟩ : ∃ n, q.length = n := ⟨_, rfl⟩
  rw [hn] at t0 t1 t2 PA PB HM hql HGK hcap
  have HLQ : Hid (q.length = n) := hn
  clear hn
  have i1 : (0 : Int) < (n : Int) + 1 := by omega
  have hwr : IntKind.i64.wrap (n : Int) = (n : Int) := IntWalk.i64_in _ ⟨by omega, by omega⟩
  have i2 : (n : Int) < (n : Int) + 1 := by omega
  have i3 : (n : Int) ≤ (cW : Int) := by omega
  go_wp2_with fail
  have cS : Cond (fun w' => w'.cell? ⟨s, 3, none⟩ = some (.slice (some ⟨gW, 0, none⟩) (n + 1) cW) ∧ w'.cell? ⟨gW, n * 2, none⟩ = some (.int .i64 (a : Int)) ∧ w'.cell? ⟨gW, n * 2 + 1, none⟩ = some (.int .i64 (b : Int))) := ⟨⟩
  refine cS.keep [13] ?_ (fun hH0 => ?_)
  ·exact ⟨t0, t1, t2⟩
  have HM0 := Tre.hid HM.out.drew
  generalize hq : World.drew _ = wq0 at HM0 hH0 ⊢
  clear hq HM t0 t1 t2
  refine lPq 0 (some 11) (v := ?_) rfl ?_ (keep_of hH0) ?_
  rotate_left
  ·intro w; go_simp <;> with_reducible rfl
  try simp only [Act.put, zqf, zqg, zqh]
  refine lPq 1 (some 12) (v := ?_) rfl ?_ (keep_of hH0) ?_
  rotate_left
  ·intro w; go_simp <;> with_reducible rfl
  try simp only [Act.put, zqf, zqg, zqh]
  refine lPq 2 (some 13) (v := ?_) rfl ?_ (keep_of hH0) ?_
  rotate_left
  ·intro w; go_simp <;> with_reducible rfl
  try simp only [Act.put, zqf, zqg, zqh]
  refine lPq 4 (some 15) (v := ?_) rfl ?_ (keep_of hH0) ?_
  rotate_left
  ·intro w; go_simp <;> with_reducible rfl
  try simp only [Act.put, zqf, zqg, zqh]
  refine lPq 5 (some 16) (v := ?_) rfl ?_ (keep_of hH0) ?_
  rotate_left
  ·intro w; go_simp <;> with_reducible rfl
  try simp only [Act.put, zqf, zqg, zqh]
  refine lPq 6 (some 17) (v := ?_) rfl ?_ (keep_of hH0) ?_
  rotate_left
  ·intro w; go_simp <;> with_reducible rfl
  try simp only [Act.put, zqf, zqg, zqh]
  refine lTq 3 (some 14) (v := ?_) rfl ?_ hH0 ?_
  rotate_left
  ·intro w hSw; (try dsimp only at hSw); go_simp <;> with_reducible rfl
  try simp only [Act.put, zqf, zqg, zqh]
  refine lTq 7 (some 18) (v := ?_) rfl ?_ hH0 ?_
  rotate_left
  ·intro w hSw; (try dsimp only at hSw); go_simp <;> with_reducible rfl
  try simp only [Act.put, zqf, zqg, zqh]
  refine lPq 8 (some 19) (v := ?_) rfl ?_ (keep_of hH0) ?_
  rotate_left
  ·intro w; go_simp <;> with_reducible rfl
  try simp only [Act.put, zqf, zqg, zqh]
  refine lPq 9 (some 20) (v := ?_) rfl ?_ (keep_of hH0) ?_
  rotate_left
  ·intro w; go_simp <;> with_reducible rfl
  try simp only [Act.put, zqf, zqg, zqh]
  refine lPq 10 (some 21) (v := ?_) rfl ?_ (keep_of hH0) ?_
  rotate_left
  ·intro w; go_simp <;> with_reducible rfl
  try simp only [Act.put, zqf, zqg, zqh]
  refine lTq 11 (some 22) (v := ?_) rfl ?_ hH0 ?_
  rotate_left
  ·intro w hSw; (try dsimp only at hSw); go_simp <;> with_reducible rfl
  try simp only [Act.put, zqf, zqg, zqh]
  refine lOne 12 (by kernel_rfl) (LStep.op (fun K hK => ?_))
  have MA := HM0.out.allocR #[.int .i64 0, .int .i64 0] 34
  go_simp
  generalize hnb : wq0.heap.size = nb at MA ⊢
  generalize hw : wq0.alloc (.cells #[.int .i64 0, .int .i64 0] 34) = wq1 at MA ⊢
  have t0 : wq1.cell? ⟨s, 3, none⟩ = some (.slice (some ⟨gW, 0, none⟩) (n + 1) cW) := MA.cell 1 rfl 3 rfl
  have t1 : wq1.cell? ⟨gW, n * 2, none⟩ = some (.int .i64 (a : Int)) := MA.cellAt 2 rfl _ PA.out
  have t2 : wq1.cell? ⟨gW, n * 2 + 1, none⟩ = some (.int .i64 (b : Int)) := MA.cellAt 2 rfl _ PB.out
  have HM1 := Tre.hid MA
  clear MA hw hnb
  refine hK.out _ _ ?_ (fun hH1 => ?_)
  ·exact ⟨t0, t1, t2⟩
  clear hK K hH0
  try simp only [Act.put, zqf, zqg, zqh]
  refine lOne 13 (by kernel_rfl) (LFall.op (by kernel_rfl) (fun K hK => ?_))
  clear t0 t1 t2
  obtain ⟨g0, g1⟩ := HM1.out.two 0 rfl
  have f0 := HM1.out.free 0 rfl 0
  have f1 := HM1.out.free 0 rfl 1
  have M6 := (HM1.out.setCell 0 rfl 0 (.int .i64 (a : Int))).setCell 0 rfl 1 (.int .i64 (b : Int))
  go_simp
  generalize hw : (wq1.setCell ⟨nb, 0, none⟩ (.int .i64 (a : Int))).setCell ⟨nb, 1, none⟩ (.int .i64 (b : Int)) = wq2 at M6 ⊢
  have HM2 := Tre.hid M6
  clear M6 hw g0 g1 f0 f1 HM1
  refine hK.out _ _ ?_
  clear hK K hH1
  try simp only [Act.put, zqf, zqg, zqh]
  refine lDone (by kernel_rfl) ?_
  have t0 : wq2.cell? ⟨s, 3, none⟩ = some (.slice (some ⟨gW, 0, none⟩) (n + 1) cW) := HM2.out.cell 1 rfl 3 rfl
  go_wp2_with fail
  have cS : Cond (fun w' => w'.cell? ⟨s, 3, none⟩ = some (.slice (some ⟨gW, 0, none⟩) (n + 1) cW)) := ⟨⟩
  refine cS.keep [14] ?_ (fun hH0 => ?_)
  ·exact t0
  have HM3 := Tre.hid HM2.out.drew
  generalize hq : World.drew _ = wq3 at HM3 hH0 ⊢
  clear hq HM2 t0
  refine lPq 0 (some 23) (v := ?_) rfl ?_ (keep_of hH0) ?_
  rotate_left
  ·intro w; go_simp <;> with_reducible rfl
  try simp only [Act.put, zqf, zqg, zqh]
  refine lPq 1 (some 24) (v := ?_) rfl ?_ (keep_of hH0) ?_
  rotate_left
  ·intro w; go_simp <;> with_reducible rfl
  try simp only [Act.put, zqf, zqg, zqh]
  refine lPq 2 (some 25) (v := ?_) rfl ?_ (keep_of hH0) ?_
  rotate_left
  ·intro w; go_simp <;> with_reducible rfl
  try simp only [Act.put, zqf, zqg, zqh]
  refine lPq 3 (some 26) (v := ?_) rfl ?_ (keep_of hH0) ?_
  rotate_left
  ·intro w; go_simp <;> with_reducible rfl
  try simp only [Act.put, zqf, zqg, zqh]
  refine lPq 5 (some 28) (v := ?_) rfl ?_ (keep_of hH0) ?_
  rotate_left
  ·intro w; go_simp <;> with_reducible rfl
  try simp only [Act.put, zqf, zqg, zqh]
  refine lPq 6 (some 29) (v := ?_) rfl ?_ (keep_of hH0) ?_
  rotate_left
  ·intro w; go_simp <;> with_reducible rfl
  try simp only [Act.put, zqf, zqg, zqh]
  refine lPq 7 (some 30) (v := ?_) rfl ?_ (keep_of hH0) ?_
  rotate_left
  ·intro w; go_simp <;> with_reducible rfl
  try simp only [Act.put, zqf, zqg, zqh]
  refine lTq 4 (some 27) (v := ?_) rfl ?_ hH0 ?_
  rotate_left
  ·intro w hSw; (try dsimp only at hSw); go_simp <;> with_reducible rfl
  try simp only [Act.put, zqf, zqg, zqh]
  refine lTq 8 (some 31) (v := ?_) rfl ?_ hH0 ?_
  rotate_left
  ·intro w hSw; (try dsimp only at hSw); go_simp <;> with_reducible rfl
  try simp only [Act.put, zqf, zqg, zqh]
  refine lPq 9 (some 32) (v := ?_) rfl ?_ (keep_of hH0) ?_
  rotate_left
  ·intro w; go_simp <;> with_reducible rfl
  try simp only [Act.put, zqf, zqg, zqh]
  refine lPq 10 (some 33) (v := ?_) rfl ?_ (keep_of hH0) ?_
  rotate_left
  ·intro w; go_simp <;> with_reducible rfl
  try simp only [Act.put, zqf, zqg, zqh]
  refine lPq 11 (some 34) (v := ?_) rfl ?_ (keep_of hH0) ?_
  rotate_left
  ·intro w; go_simp <;> with_reducible rfl
  try simp only [Act.put, zqf, zqg, zqh]
  refine lPq 12 (some 35) (v := ?_) rfl ?_ (keep_of hH0) ?_
  rotate_left
  ·intro w; go_simp <;> with_reducible rfl
  try simp only [Act.put, zqf, zqg, zqh]
  refine lPq 13 (some 36) (v := ?_) rfl ?_ (keep_of hH0) ?_
  rotate_left
  ·intro w; go_simp <;> with_reducible rfl
  try simp only [Act.put, zqf, zqg, zqh]
  refine lOne 14 (by kernel_rfl) (LFall.op (by kernel_rfl) (fun K hK => ?_))
  have t0 : wq3.cell? ⟨s, 3, none⟩ = some (.slice (some ⟨gW, 0, none⟩) (n + 1) cW) := HM3.out.cell 1 rfl 3 rfl
  have f0 := HM3.out.free 1 rfl 3
  have M3 := HM3.out.setCell 1 rfl 3 (.slice (some ⟨gW, 0, none⟩) n cW)
  have M4 := M3.pop (n := n) (cap := cW) (xs := pairCells q) (last := [en a, en b]) 2 (by rw [HPC.out]; rfl) (by rw [pairCells_len, HLQ.out])
  go_simp
  generalize hw : wq3.setCell ⟨s, 3, none⟩ _ = wq4 at M4 ⊢
  have HM4 := Tre.hid M4
  clear M3 M4 hw t0 f0 HM3
  refine hK.out _ _ ?_
  clear hK K hH0
  try simp only [Act.put, zqf, zqg, zqh]
  refine lDone (by kernel_rfl) ?_
  have hST : St w0 wq4 f cs s on rank has q rs := ⟨gO, cO, gR, cR, gH, cH, some ⟨gW, 0, none⟩, cW, by rw [HLQ.out]; exact HM4.out.del 0⟩
  have HC := HJ.out wq4 hST
  obtain ⟨g0, g1⟩ := HM4.out.two 0 rfl
  clear hST HM4
  have HCC := Tre.hid HC
  clear HC
  go_wp2_with fail
  refine HCC.out.mono ?_
  rintro e' w5 ⟨rfl, on', rank', has', waits', hs', hst', hle⟩
  have HS' := Tre.hid hs'
  have HST' := Tre.hid hst'
  have hlt : rootsOf on' * (f.wide + 1) + waits'.length < gk := by have h := HGK.out; have h2 := HLQ.out; rw [h2] at hle; rw [h]; clear hwr; omega
  clear hs' hst' hle g0 g1 HCC
  go_wp2_with fail
  go_roundg (rootsOf on' * (f.wide + 1) + waits'.length)
  case measure => exact hlt
  case rel => exact ⟨_, on', rank', has', waits', rfl, rfl, by omega, HS', HST'⟩
end Go.Proofs.YtlkfhbmjemjohaaGreatDoor.sol
namespace Go.Tre
section
variable {P : Program} {ops : Array Oper} {Q : Exit → Act → World → Prop} {md : Region.Mode} {S : World → Prop} {F : List Nat}
variable {fuel : Nat} {listed : Array Bool} {a : Act} {w : World}
end
def bt (n k : Nat) : Array Bool := ((List.range n).map fun i => k.testBit i).toArray
structure Kept (p : Prop) : Type where
 out : p
abbrev GFun := Nat → Array Bool → Act → World → Prop
theorem with_G {G0 : GFun} {f : Nat} {l : Array Bool} {a : Act} {w : World} (h : ∀ G : GFun, Kept (G = G0) → ∀ a0 : Act, Kept (a0 = a) → G f l a0 w) : G0 f l a w := h _ ⟨rfl⟩ _ ⟨rfl⟩
theorem into_G {G G0 : GFun} (e : Kept (G = G0)) {f : Nat} {l : Array Bool} {a : Act} {w : World} (h : G0 f l a w) : G f l a w := e.out ▸ h
theorem outof_G {G G0 : GFun} (e : Kept (G = G0)) {f : Nat} {l l' : Array Bool} {a a' : Act} {w : World} (h : G f l' a' w) (hl : l = l') (ha : a = a') : G0 f l a w := e.out ▸ hl ▸ ha ▸ h
end Go.Tre
namespace Go.Tre
open Go.RowKit
section
variable {P : Program} {ops : Array Oper} {Q : Exit → Act → World → Prop} {md : Region.Mode} {S : World → Prop} {F : List Nat}
variable {fuel : Nat} {listed : Array Bool} {a : Act} {w : World}
def pureB (md : Region.Mode) (ops : Array Oper) (F : List Nat) (listed : Array Bool) (i : Nat) (d : Option Tmp) : Bool :=
 decide ((ops[i]?).map (·.dst) = some d) && (Region.noSelect ops && (Region.free md ops listed i && ((Region.ready md ops listed).contains i && !(F.contains i))))
theorem lPu (i : Nat) (d : Option Tmp) (v : Value) (hc : pureB md ops F listed i d = true) (hQ : ∀ c a w, Q (.panic c) (a.put d v) w → Q (.panic c) a w)
  (hy : ∀ w, (ops[i]?).map (fun o => (Region.wanted o (yielded ops a.tmps), (execOp a.eval o).run P w)) = some (true, .ok (.value v) w)) (hk : Keep F S listed w) (h : wpAnyL P md ops Q F S fuel (listed.setIfInBounds i true) (a.put d v) w) :
  wpAnyL P md ops Q F S (fuel + 1) listed a w := by
 unfold pureB at hc
 simp only [Bool.and_eq_true, decide_eq_true_eq, Bool.not_eq_true'] at hc
 obtain ⟨h1, h2, h3, h4, h5⟩ := hc
 cases ho : ops[i]? with
 | none => rw [ho] at h1; cases h1
 | some o =>
  refine lPure d h1 h2 h3 h4 h5 hQ ?_ (fun w => ?_) hk h
  ·have := hy w
   rw [ho, zqd, zqe, Prod.mk.injEq] at this
   rw [ho, zqd, this.1]
  ·have := hy w
   rw [ho, zqd, zqe, Prod.mk.injEq] at this
   rw [ho, zqd, this.2]
theorem lPv (i : Nat) (d : Option Tmp) (v : Value) (hk : Keep F S listed w) (h : wpAnyL P md ops Q F S fuel (listed.setIfInBounds i true) (a.put d v) w) (hc : pureB md ops F listed i d = true := by kernel_rfl) (hQ : ∀ c a w, Q (.panic c) (a.put d v) w → Q (.panic c) a w := by exact fun _ _ _ h => h)
  (hy : ∀ w, (ops[i]?).map (fun o => (Region.wanted o (yielded ops a.tmps), (execOp a.eval o).run P w)) = some (true, .ok (.value v) w) := by intro w; kernel_rfl) : wpAnyL P md ops Q F S (fuel + 1) listed a w := lPu i d v hc hQ hy hk h
theorem wp_value {o : Oper} {v : Value} {w' : World} {K : Act → World → Prop} (h : (execOp a.eval o).run P w = .ok (.value v) w') (hK : K (a.put o.dst v) w') : o.wp P a w K Q := by
 unfold Oper.wp
 rw [h]
 exact hK
theorem LStep.made {i : Nat} (d : Option Tmp) (v : Value) (w' : World) (hd : (ops[i]?).map (·.dst) = some d) (hy : (ops[i]?).map (fun o => (Region.wanted o (yielded ops a.tmps), (execOp a.eval o).run P w)) = some (true, .ok (.value v) w'))
  (hS : S w') (h : wpAnyL P md ops Q F S fuel (listed.setIfInBounds i true) (a.put d v) w') : LOp P md ops Q F S fuel listed a w i := by
 refine LStep.op (fun K hK => ?_)
 cases ho : ops[i]? with
 | none => rw [ho] at hd; cases hd
 | some o =>
  rw [ho, zqd, zqe] at hd hy
  rw [Prod.mk.injEq] at hy
  show if Region.wanted o (yielded ops a.tmps) = true then _ else _
  rw [if_pos hy.1]
  refine wp_value hy.2 ?_
  rw [hd]
  exact hK _ _ hS (fun _ => h)
theorem LFall.made {i : Nat} (d : Option Tmp) (v : Value) (w' : World) (hi : F.any (fun f => (listed.setIfInBounds i true).getD f true) = true) (hd : (ops[i]?).map (·.dst) = some d) (hy : (ops[i]?).map (fun o => (Region.wanted o (yielded ops a.tmps), (execOp a.eval o).run P w)) = some (true, .ok (.value v) w'))
  (h : wpAnyL P md ops Q F S fuel (listed.setIfInBounds i true) (a.put d v) w') : LOp P md ops Q F S fuel listed a w i := by
 refine LFall.op hi (fun K hK => ?_)
 cases ho : ops[i]? with
 | none => rw [ho] at hd; cases hd
 | some o =>
  rw [ho, zqd, zqe] at hd hy
  rw [Prod.mk.injEq] at hy
  show if Region.wanted o (yielded ops a.tmps) = true then _ else _
  rw [if_pos hy.1]
  refine wp_value hy.2 ?_
  rw [hd]
  exact hK _ _ h
theorem LStep.app {i : Nat} (d : Option Tmp) (s x : Operand) (t : TypeId)
  (ho : (ops[i]?).map (fun o => (Region.wanted o (yielded ops a.tmps), o.dst, o.op)) = some (true, d, .call { callee := .builtin .append, args := #[s, x], argTypes := #[t, t] }))
  (e : TypeId) (j : TypeInfo) (z : Value) (size bytes : Nat) (ht : P.underlying t = some (.slice e)) (hi : P.info? e = some j) (hz : j.zero = some z)
  (hsize : j.size = size) (hby : j.bytes = bytes) (hzs : z.cells.size = size) (hsz : 0 < size)
  (v : Value) (n : Nat) (xs : List Value) (hs : a.eval s = v) (hown : w.ownsRow 0 e size v n xs)
  (ad : Option Addr) (m c : Nat) (news : List Value) (hx : a.eval x = .slice ad m c) (hr : Row w size ad m news) (h1 : ∀ u ∈ news, u.oneCell' = true)
  (h63 : n + m ≤ maxLen) (hbytes : (n + m) * bytes ≤ 140737488355328)
  (h : ∀ v' w', w'.ownsRow 0 e size v' (n + m) (xs ++ news) → w.grownBy w' v.ownBlock → (v'.ownBlock = v.ownBlock ∨ v'.ownBlock = some w.heap.size) → S w' ∧ (S w' → wpAnyL P md ops Q F S fuel (listed.setIfInBounds i true) (a.put d v') w')) : LOp P md ops Q F S fuel listed a w i := by
 refine LStep.op (fun K hK => ?_)
 cases hoi : ops[i]? with
 | none => rw [hoi] at ho; cases ho
 | some o =>
  rw [hoi, zqd, zqe, Prod.mk.injEq, Prod.mk.injEq] at ho
  show if Region.wanted o (yielded ops a.tmps) = true then _ else _
  rw [if_pos ho.1]
  refine wp_append_row w s x t ho.2.2 e j z size bytes ht hi hz hsize hby hzs hsz v n xs hs hown ad m c news hx hr h1 h63 hbytes ?_
  rw [ho.2.1]
  exact fun v' w' h3 h4 h5 => hK _ _ (h v' w' h3 h4 h5).1 (h v' w' h3 h4 h5).2
theorem LFall.app {i : Nat} (hf : F.any (fun f => (listed.setIfInBounds i true).getD f true) = true) (d : Option Tmp) (s x : Operand) (t : TypeId)
  (ho : (ops[i]?).map (fun o => (Region.wanted o (yielded ops a.tmps), o.dst, o.op)) = some (true, d, .call { callee := .builtin .append, args := #[s, x], argTypes := #[t, t] }))
  (e : TypeId) (j : TypeInfo) (z : Value) (size bytes : Nat) (ht : P.underlying t = some (.slice e)) (hi : P.info? e = some j) (hz : j.zero = some z)
  (hsize : j.size = size) (hby : j.bytes = bytes) (hzs : z.cells.size = size) (hsz : 0 < size)
  (v : Value) (n : Nat) (xs : List Value) (hs : a.eval s = v) (hown : w.ownsRow 0 e size v n xs)
  (ad : Option Addr) (m c : Nat) (news : List Value) (hx : a.eval x = .slice ad m c) (hr : Row w size ad m news) (h1 : ∀ u ∈ news, u.oneCell' = true)
  (h63 : n + m ≤ maxLen) (hbytes : (n + m) * bytes ≤ 140737488355328)
  (h : ∀ v' w', w'.ownsRow 0 e size v' (n + m) (xs ++ news) → w.grownBy w' v.ownBlock → (v'.ownBlock = v.ownBlock ∨ v'.ownBlock = some w.heap.size) → wpAnyL P md ops Q F S fuel (listed.setIfInBounds i true) (a.put d v') w') : LOp P md ops Q F S fuel listed a w i := by
 refine LFall.op hf (fun K hK => ?_)
 cases hoi : ops[i]? with
 | none => rw [hoi] at ho; cases ho
 | some o =>
  rw [hoi, zqd, zqe, Prod.mk.injEq, Prod.mk.injEq] at ho
  show if Region.wanted o (yielded ops a.tmps) = true then _ else _
  rw [if_pos ho.1]
  refine wp_append_row w s x t ho.2.2 e j z size bytes ht hi hz hsize hby hzs hsz v n xs hs hown ad m c news hx hr h1 h63 hbytes ?_
  rw [ho.2.1]
  exact fun v' w' h3 h4 h5 => hK _ _ (h v' w' h3 h4 h5)
end
end Go.Tre
