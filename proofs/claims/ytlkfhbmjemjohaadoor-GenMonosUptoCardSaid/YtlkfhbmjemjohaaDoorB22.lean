/- inst: the matcher's match. -/
import Derived.Test.YtlkfhbmjemjohaaDoorB21
namespace Go.Proofs.YtlkfhbmjemjohaaDoor.gr
open Go.RowKit Go.Shelf Go.Maps Go.Tre lex
theorem rowPI : 66 < Tryd.prog.types.size := of_decide_eq_true (by kernel_rfl)
theorem widePI : (match Tryd.prog.underlying 66 with | some (.array _ _) | some (.struct _) => true | _ => false) = true := by kernel_rfl
set_option maxRecDepth 100000 in
theorem KPI : Keyed Tryd.prog 66 := Keyed.of_law (deep_law_laid laidOut (m := 2) (by omega) rowPI (by kernel_rfl) widePI)
theorem kpi (a b : Nat) (ha : a ≤ 8388608) (hb : b ≤ 8388608) : ∃ l, keyOf Tryd.prog 66 (ep (a, b)) = some l := by
  have h1 : Tryd.prog.keyType 66 = true := by kernel_rfl
  have h2 : (Value.agg #[.int .i64 a, .int .i64 b]).formed Tryd.prog 66 = true := by kernel_rfl
  have c44 : Tryd.prog.cellsOf 66 = 2 := by kernel_rfl
  have c3 : Tryd.prog.cellsOf 3 = 1 := by kernel_rfl
  obtain ⟨m, hm⟩ : ∃ m, Tryd.prog.types.size = m + 1 := Nat.exists_eq_succ_of_ne_zero (by have := rowPI; omega)
  have wa : (Lit.int .i64 (a : Int)).wf = true := by simp [Lit.wf, IntKind.min, IntKind.max, IntKind.signed, IntKind.bits]; omega
  have wb : (Lit.int .i64 (b : Int)).wf = true := by simp [Lit.wf, IntKind.min, IntKind.max, IntKind.signed, IntKind.bits]; omega
  have h3 : (Tryd.prog.keyLits (Tryd.prog.types.size + 1) 66 [.int .i64 (a : Int), .int .i64 (b : Int)]) = some [.int .i64 (a : Int), .int .i64 (b : Int)] := by
    rw [hm]
    simp [Program.keyLits, Tryd.underlying66, Tryd.underlying3, c44, c3, wa, wb]
  refine ⟨.string (keyBytes [.int .i64 (a : Int), .int .i64 (b : Int)]), ?_⟩
  unfold keyOf
  rw [Tryd.underlying66]
  simp only [h1, h2, Bool.and_self, if_true]
  show Option.map _ (Tryd.prog.keyLits (Tryd.prog.types.size + 1) 66 [.int .i64 (a : Int), .int .i64 (b : Int)]) = _
  rw [h3]
  rfl

set_option maxRecDepth 100000 in
set_option maxHeartbeats 4000000 in
theorem match_met (g : Tre.Graph) (x y b1 o1 cg b2 hn ch bM bm bw n1 n2 : Nat) (hr : Int) (v : Value) (l : List (Nat × Nat)) (m : Nat × Nat → Option Unit) (f : Nat → Option Nat) (dh : List NodeV) (rs : List Res) (w0 w : World)
    (M : Mem w0 w (cellsR bM 64 #[.slice (some ⟨b1, o1, none⟩) g.ns.length cg, .int .i64 g.root, .slice (some ⟨b2, 0, none⟩) hn ch, .int .i64 hr, .map (some bm), .map (some bw), v] :: rowR 66 2 v l.length (pcells l) :: mapR Tryd.prog 66 ep (fun _ : Unit => .bool true) bm n1 (m) :: mapR Tryd.prog 3 en en bw n2 (f) :: nodesR (.slice (some ⟨b2, 0, none⟩) hn ch) dh :: kidsR dh :: rs)) (hx : x ≤ 1048576) (hy : y ≤ 1048576) (hm : m (x, y) = some ()) :
    Calls Tryd.prog 26 #[.pointer (some ⟨bM, 0, none⟩), .agg #[.int .i64 (x : Int), .int .i64 (y : Int)]] w fun e w' => e = .returned (.bool true) ∧ Mem w0 w' (cellsR bM 64 #[.slice (some ⟨b1, o1, none⟩) g.ns.length cg, .int .i64 g.root, .slice (some ⟨b2, 0, none⟩) hn ch, .int .i64 hr, .map (some bm), .map (some bw), v] :: rowR 66 2 v l.length (pcells l) :: mapR Tryd.prog 66 ep (fun _ : Unit => .bool true) bm n1 (m) :: mapR Tryd.prog 3 en en bw n2 (f) :: nodesR (.slice (some ⟨b2, 0, none⟩) hn ch) dh :: kidsR dh :: rs) := by
  obtain ⟨ly0, hly⟩ := kpi x y (by omega) (by omega)
  have hM0 := Tre.hid (M.allocR #[.int .i64 (x : Int), .int .i64 (y : Int)] 66)
  have HLK : Hid (∀ (W : World), MapIs Tryd.prog 66 ep (fun _ : Unit => .bool true) W bm n1 m → (Instr.lookup 61 (.map (some bm)) (.agg #[.int .i64 (x : Int), .int .i64 (y : Int)]) false).run Tryd.prog W = .ok (.bool true) W) := fun W h => by
    have h2 := h.run_look KPI injP Tryd.underlying61 (zb W) hly
    rw [hm] at h2
    exact h2
  clear M hm hly
  go_enter Tryd.func26, Tryd.ntmps26
  go_wp2_with fail
  refine wp_region_keep (S := (fun w' => w'.cell? ⟨bM, 4, none⟩ = some (.map (some bm)) ∧ w'.cell? ⟨w.heap.size, 0, none⟩ = some (.int .i64 (x : Int)) ∧ w'.cell? ⟨w.heap.size, 1, none⟩ = some (.int .i64 (y : Int)) ∧ (Instr.lookup 61 (.map (some bm)) (.agg #[.int .i64 (x : Int), .int .i64 (y : Int)]) false).run Tryd.prog w' = .ok (.bool true) w')) [] (by kernel_rfl) ?_ (fun hH0 => ?_)
  · exact ⟨hM0.out.drew.cell 1 rfl 4 rfl, hM0.out.drew.cell 0 rfl 0 rfl, hM0.out.drew.cell 0 rfl 1 rfl, HLK.out _ (hM0.out.drew.map 3 rfl)⟩
  have H0 := Tre.hid hM0.out.drew
  generalize hq : World.drew _ = wq0 at H0 hH0 ⊢
  clear hq hM0
  refine lPure (i := 0) (some 9) (v := ?_) (by rfl) (by kernel_rfl) (by kernel_rfl) (by kernel_rfl) (by kernel_rfl) (fun _ _ _ h => h) (by rfl) ?_ (keep_of hH0) ?_
  rotate_left
  · intro w; simp only [List.getElem?_toArray, List.getElem?_cons_zero, Option.map_some, Option.some.injEq]; (first | (go_simp; done) | (go_simp; with_reducible rfl))
  try simp only [Act.put, List.setIfInBounds_toArray, List.set_cons_zero, List.set_cons_succ]
  refine lPure (i := 1) (some 10) (v := ?_) (by rfl) (by kernel_rfl) (by kernel_rfl) (by kernel_rfl) (by kernel_rfl) (fun _ _ _ h => h) (by rfl) ?_ (keep_of hH0) ?_
  rotate_left
  · intro w; simp only [List.getElem?_toArray, List.getElem?_cons_succ, List.getElem?_cons_zero, Option.map_some, Option.some.injEq]; (first | (go_simp; done) | (go_simp; with_reducible rfl))
  try simp only [Act.put, List.setIfInBounds_toArray, List.set_cons_zero, List.set_cons_succ]
  refine lPure (i := 2) (some 11) (v := ?_) (by rfl) (by kernel_rfl) (by kernel_rfl) (by kernel_rfl) (by kernel_rfl) (fun _ _ _ h => h) (by rfl) ?_ (keep_of hH0) ?_
  rotate_left
  · intro w; simp only [List.getElem?_toArray, List.getElem?_cons_succ, List.getElem?_cons_zero, Option.map_some, Option.some.injEq]; (first | (go_simp; done) | (go_simp; with_reducible rfl))
  try simp only [Act.put, List.setIfInBounds_toArray, List.set_cons_zero, List.set_cons_succ]
  refine lTake (i := 3) (some 12) (v := ?_) (by rfl) (by kernel_rfl) (by kernel_rfl) (by kernel_rfl) (by kernel_rfl) (by kernel_rfl) (fun _ _ _ h => h) (by rfl) ?_ hH0 ?_
  rotate_left
  · intro w hSw; (try dsimp only at hSw); simp only [List.getElem?_toArray, List.getElem?_cons_succ, List.getElem?_cons_zero, Option.map_some, Option.some.injEq]; (first | (go_simp; done) | (go_simp; with_reducible rfl))
  try simp only [Act.put, List.setIfInBounds_toArray, List.set_cons_zero, List.set_cons_succ]
  refine lTake (i := 4) (some 13) (v := ?_) (by rfl) (by kernel_rfl) (by kernel_rfl) (by kernel_rfl) (by kernel_rfl) (by kernel_rfl) (fun _ _ _ h => h) (by rfl) ?_ hH0 ?_
  rotate_left
  · intro w hSw; (try dsimp only at hSw); simp only [List.getElem?_toArray, List.getElem?_cons_succ, List.getElem?_cons_zero, Option.map_some, Option.some.injEq]; (first | (go_simp; done) | (go_simp; with_reducible rfl))
  try simp only [Act.put, List.setIfInBounds_toArray, List.set_cons_zero, List.set_cons_succ]
  refine lTake (i := 5) (some 14) (v := ?_) (by rfl) (by kernel_rfl) (by kernel_rfl) (by kernel_rfl) (by kernel_rfl) (by kernel_rfl) (fun _ _ _ h => h) (by rfl) ?_ hH0 ?_
  rotate_left
  · intro w hSw; (try dsimp only at hSw); simp only [List.getElem?_toArray, List.getElem?_cons_succ, List.getElem?_cons_zero, Option.map_some, Option.some.injEq]; (first | (go_simp; done) | (go_simp; with_reducible rfl))
  try simp only [Act.put, List.setIfInBounds_toArray, List.set_cons_zero, List.set_cons_succ]
  refine lDone (by kernel_rfl) ?_
  clear hH0
  go_wp2_with fail
  go_ret
  exact ⟨rfl, H0.out.del 0⟩

set_option maxRecDepth 100000 in
set_option maxHeartbeats 8000000 in
theorem match_new (kd : Int) (nm : ByteArray) (as1 as2 : List Int) (ls : List ByteArray) (op : Bool) (xs ys : List Nat) (d : NodeV) (g : Tre.Graph) (x y b1 o1 cg b2 hn ch bM bm bw n1 n2 : Nat) (hr : Int) (v : Value) (l : List (Nat × Nat)) (m : Nat × Nat → Option Unit) (f : Nat → Option Nat) (dh : List NodeV) (rs : List Res) (w0 w : World)
    (M : Mem w0 w (cellsR bM 64 #[.slice (some ⟨b1, o1, none⟩) g.ns.length cg, .int .i64 g.root, .slice (some ⟨b2, 0, none⟩) hn ch, .int .i64 hr, .map (some bm), .map (some bw), v] :: rowR 66 2 v l.length (pcells l) :: mapR Tryd.prog 66 ep (fun _ : Unit => .bool true) bm n1 (m) :: mapR Tryd.prog 3 en en bw n2 (f) :: nodesR (.slice (some ⟨b2, 0, none⟩) hn ch) dh :: kidsR dh :: rs)) (hx : x < g.ns.length) (hy : y < hn) (hgl : g.ns.length ≤ 1048576) (hhl : hn ≤ 1048576) (hm : m (x, y) = none)
    (hX : NodeAt w0 b1 (o1 + x * 5) ⟨kd, nm, as1, ls, op⟩) (hhn : hn = dh.length) (hd : dh[y]? = some d) (hdn : d.n = ⟨kd, nm, as2, ls, op⟩)
    (hXE : as1 = xs.map fun k : Nat => (k : Int)) (hYE : as2 = ys.map fun k : Nat => (k : Int)) (hal : as2.length = as1.length) (hk3 : kd = 3 → ls.length = as1.length ∧ rising ls = true)
    (hb1 : as1.length ≤ 2097152) (hb2 : ls.length ≤ 2097152) (hll : l.length ≤ 4398046511104) (hfx : f x = none ∨ f x = some y) :
    Calls Tryd.prog 26 #[.pointer (some ⟨bM, 0, none⟩), .agg #[.int .i64 (x : Int), .int .i64 (y : Int)]] w fun e w' => e = .returned (.bool true) ∧ ∃ (v' : Value) (l' : List (Nat × Nat)) (m' : Nat × Nat → Option Unit) (f' : Nat → Option Nat) (n1' n2' : Nat), Hid (m' = upd m (x, y) ()) ∧ Hid (l' = l ∨ l' = l ++ xs.zip ys) ∧ Hid (∀ a b, f' a = some b → f a = some b ∨ (a = x ∧ b = y)) ∧ Mem w0 w' (cellsR bM 64 #[.slice (some ⟨b1, o1, none⟩) g.ns.length cg, .int .i64 g.root, .slice (some ⟨b2, 0, none⟩) hn ch, .int .i64 hr, .map (some bm), .map (some bw), v'] :: rowR 66 2 v' l'.length (pcells l') :: mapR Tryd.prog 66 ep (fun _ : Unit => .bool true) bm n1' (m') :: mapR Tryd.prog 3 en en bw n2' (f') :: nodesR (.slice (some ⟨b2, 0, none⟩) hn ch) dh :: kidsR dh :: rs) := by
  obtain ⟨ly0, hly⟩ := kpi x y (by omega) (by omega)
  have HKEY := Tre.hid hly
  have hM0 := Tre.hid (M.allocR #[.int .i64 (x : Int), .int .i64 (y : Int)] 66)
  have HLK : Hid (∀ (W : World), MapIs Tryd.prog 66 ep (fun _ : Unit => .bool true) W bm n1 m → (Instr.lookup 61 (.map (some bm)) (.agg #[.int .i64 (x : Int), .int .i64 (y : Int)]) false).run Tryd.prog W = .ok (.bool false) W) := fun W h => by
    have h2 := h.run_look KPI injP Tryd.underlying61 (zb W) hly
    rw [hm] at h2
    exact h2
  obtain ⟨ax, cx, lx, dx, x0, x1, x2, x3, x4, xA, xL, _, _⟩ := hX
  have hmemd := List.mem_of_getElem? hd
  obtain ⟨ay, cy, ea, _, _⟩ := row_read (M.at_ 5 rfl (rowR 3 1 d.va d.n.args.length (d.n.args.map (Value.int .i64))) (List.mem_flatMap.2 ⟨d, hmemd, by simp [kids]⟩))
  obtain ⟨ly, dy, el, _, _⟩ := row_read (M.at_ 5 rfl (rowR 9 1 d.vl d.n.labels.length (d.n.labels.map Value.string)) (List.mem_flatMap.2 ⟨d, hmemd, by simp [kids]⟩))
  have HYW : Hid (∀ W : World, (nodesR (.slice (some ⟨b2, 0, none⟩) hn ch) dh).P W → (kidsR dh).P W → IntsAt W ay as2 ∧ StrsAt W ly ls) := fun W _ h => by
    obtain ⟨ay', cy', ea', _, ra⟩ := row_read (h (rowR 3 1 d.va d.n.args.length (d.n.args.map (Value.int .i64))) (List.mem_flatMap.2 ⟨d, hmemd, by simp [kids]⟩))
    obtain ⟨ly', dy', el', _, rl⟩ := row_read (h (rowR 9 1 d.vl d.n.labels.length (d.n.labels.map Value.string)) (List.mem_flatMap.2 ⟨d, hmemd, by simp [kids]⟩))
    rw [ea] at ea'
    rw [el] at el'
    cases ea'
    cases el'
    rw [hdn] at ra rl
    exact ⟨ra, rl⟩
  rw [hdn] at ea el
  have hcl : d.cells = [.int .i64 kd, .string nm, .slice ay as2.length cy, .slice ly ls.length dy, .bool op] := by unfold NodeV.cells; rw [ea, el, hdn]
  have HYC : Hid (∀ (w' : World), (nodesR (.slice (some ⟨b2, 0, none⟩) hn ch) dh).P w' → w'.cell? ⟨b2, y * 5, none⟩ = some (.int .i64 kd) ∧ w'.cell? ⟨b2, y * 5 + 1, none⟩ = some (.string nm) ∧ w'.cell? ⟨b2, y * 5 + 2, none⟩ = some (.slice ay as2.length cy) ∧ w'.cell? ⟨b2, y * 5 + 3, none⟩ = some (.slice ly ls.length dy) ∧ w'.cell? ⟨b2, y * 5 + 4, none⟩ = some (.bool op)) := fun W h => by
    have h' : W.ownsRow 0 39 5 (.slice (some ⟨b2, 0, none⟩) hn ch) dh.length (dh.flatMap NodeV.cells) := h
    rw [← hhn] at h'
    have one : ∀ j u, j < 5 → d.cells[j]? = some u → W.cell? ⟨b2, y * 5 + j, none⟩ = some u := fun j u hj hu => by
      have hc := (cells_at dh y j d hd hj).trans hu
      rw [h'.cellAt (y * 5 + j) (by omega), hc]
    refine ⟨one 0 _ (by omega) (by rw [hcl]; rfl), one 1 _ (by omega) (by rw [hcl]; rfl), one 2 _ (by omega) (by rw [hcl]; rfl), one 3 _ (by omega) (by rw [hcl]; rfl), one 4 _ (by omega) (by rw [hcl]; rfl)⟩
  have HXA := Tre.hid xA
  have HXL := Tre.hid xL
  have HXE := Tre.hid hXE
  have HYE := Tre.hid hYE
  have HAL := Tre.hid hal
  have HK3 := Tre.hid hk3
  have HFX := Tre.hid hfx
  have i1 : (0 : Int) ≤ (x : Int) := by omega
  have i2 : (x : Int) < (g.ns.length : Int) := by omega
  have i3 : (0 : Int) ≤ (y : Int) := by omega
  have i4 : (y : Int) < (hn : Int) := by omega
  clear M hm hly xA xL hXE hYE hal hk3 hfx hcl ea el hdn hd hhn
  go_enter Tryd.func26, Tryd.ntmps26
  go_wp2_with fail
  refine wp_region_keep (S := (fun w' => w'.cell? ⟨bM, 4, none⟩ = some (.map (some bm)) ∧ w'.cell? ⟨w.heap.size, 0, none⟩ = some (.int .i64 (x : Int)) ∧ w'.cell? ⟨w.heap.size, 1, none⟩ = some (.int .i64 (y : Int)) ∧ (Instr.lookup 61 (.map (some bm)) (.agg #[.int .i64 (x : Int), .int .i64 (y : Int)]) false).run Tryd.prog w' = .ok (.bool false) w')) [] (by kernel_rfl) ?_ (fun hH0 => ?_)
  · exact ⟨hM0.out.drew.cell 1 rfl 4 rfl, hM0.out.drew.cell 0 rfl 0 rfl, hM0.out.drew.cell 0 rfl 1 rfl, HLK.out _ (hM0.out.drew.map 3 rfl)⟩
  have H0 := Tre.hid hM0.out.drew
  generalize hq : World.drew _ = wq0 at H0 hH0 ⊢
  clear hq hM0
  refine lPure (i := 0) (some 9) (v := ?_) (by rfl) (by kernel_rfl) (by kernel_rfl) (by kernel_rfl) (by kernel_rfl) (fun _ _ _ h => h) (by rfl) ?_ (keep_of hH0) ?_
  rotate_left
  · intro w; simp only [List.getElem?_toArray, List.getElem?_cons_zero, Option.map_some, Option.some.injEq]; (first | (go_simp; done) | (go_simp; with_reducible rfl))
  try simp only [Act.put, List.setIfInBounds_toArray, List.set_cons_zero, List.set_cons_succ]
  refine lPure (i := 1) (some 10) (v := ?_) (by rfl) (by kernel_rfl) (by kernel_rfl) (by kernel_rfl) (by kernel_rfl) (fun _ _ _ h => h) (by rfl) ?_ (keep_of hH0) ?_
  rotate_left
  · intro w; simp only [List.getElem?_toArray, List.getElem?_cons_succ, List.getElem?_cons_zero, Option.map_some, Option.some.injEq]; (first | (go_simp; done) | (go_simp; with_reducible rfl))
  try simp only [Act.put, List.setIfInBounds_toArray, List.set_cons_zero, List.set_cons_succ]
  refine lPure (i := 2) (some 11) (v := ?_) (by rfl) (by kernel_rfl) (by kernel_rfl) (by kernel_rfl) (by kernel_rfl) (fun _ _ _ h => h) (by rfl) ?_ (keep_of hH0) ?_
  rotate_left
  · intro w; simp only [List.getElem?_toArray, List.getElem?_cons_succ, List.getElem?_cons_zero, Option.map_some, Option.some.injEq]; (first | (go_simp; done) | (go_simp; with_reducible rfl))
  try simp only [Act.put, List.setIfInBounds_toArray, List.set_cons_zero, List.set_cons_succ]
  refine lTake (i := 3) (some 12) (v := ?_) (by rfl) (by kernel_rfl) (by kernel_rfl) (by kernel_rfl) (by kernel_rfl) (by kernel_rfl) (fun _ _ _ h => h) (by rfl) ?_ hH0 ?_
  rotate_left
  · intro w hSw; (try dsimp only at hSw); simp only [List.getElem?_toArray, List.getElem?_cons_succ, List.getElem?_cons_zero, Option.map_some, Option.some.injEq]; (first | (go_simp; done) | (go_simp; with_reducible rfl))
  try simp only [Act.put, List.setIfInBounds_toArray, List.set_cons_zero, List.set_cons_succ]
  refine lTake (i := 4) (some 13) (v := ?_) (by rfl) (by kernel_rfl) (by kernel_rfl) (by kernel_rfl) (by kernel_rfl) (by kernel_rfl) (fun _ _ _ h => h) (by rfl) ?_ hH0 ?_
  rotate_left
  · intro w hSw; (try dsimp only at hSw); simp only [List.getElem?_toArray, List.getElem?_cons_succ, List.getElem?_cons_zero, Option.map_some, Option.some.injEq]; (first | (go_simp; done) | (go_simp; with_reducible rfl))
  try simp only [Act.put, List.setIfInBounds_toArray, List.set_cons_zero, List.set_cons_succ]
  refine lTake (i := 5) (some 14) (v := ?_) (by rfl) (by kernel_rfl) (by kernel_rfl) (by kernel_rfl) (by kernel_rfl) (by kernel_rfl) (fun _ _ _ h => h) (by rfl) ?_ hH0 ?_
  rotate_left
  · intro w hSw; (try dsimp only at hSw); simp only [List.getElem?_toArray, List.getElem?_cons_succ, List.getElem?_cons_zero, Option.map_some, Option.some.injEq]; (first | (go_simp; done) | (go_simp; with_reducible rfl))
  try simp only [Act.put, List.setIfInBounds_toArray, List.set_cons_zero, List.set_cons_succ]
  refine lDone (by kernel_rfl) ?_
  clear hH0
  go_wp2_with fail
  refine wp_region_keep (S := (fun w' => w'.cell? ⟨bM, 4, none⟩ = some (.map (some bm)) ∧ w'.cell? ⟨w.heap.size, 0, none⟩ = some (.int .i64 (x : Int)) ∧ w'.cell? ⟨w.heap.size, 1, none⟩ = some (.int .i64 (y : Int)))) [5] (by kernel_rfl) ?_ (fun hH0 => ?_)
  · exact ⟨H0.out.drew.cell 1 rfl 4 rfl, H0.out.drew.cell 0 rfl 0 rfl, H0.out.drew.cell 0 rfl 1 rfl⟩
  have G0 := Tre.hid H0.out.drew
  generalize hq : World.drew _ = wg0 at G0 hH0 ⊢
  clear hq H0
  refine lPure (i := 0) (some 15) (v := ?_) (by rfl) (by kernel_rfl) (by kernel_rfl) (by kernel_rfl) (by kernel_rfl) (fun _ _ _ h => h) (by rfl) ?_ (keep_of hH0) ?_
  rotate_left
  · intro w; simp only [List.getElem?_toArray, List.getElem?_cons_zero, Option.map_some, Option.some.injEq]; (first | (go_simp; done) | (go_simp; with_reducible rfl))
  try simp only [Act.put, List.setIfInBounds_toArray, List.set_cons_zero, List.set_cons_succ]
  refine lPure (i := 1) (some 16) (v := ?_) (by rfl) (by kernel_rfl) (by kernel_rfl) (by kernel_rfl) (by kernel_rfl) (fun _ _ _ h => h) (by rfl) ?_ (keep_of hH0) ?_
  rotate_left
  · intro w; simp only [List.getElem?_toArray, List.getElem?_cons_succ, List.getElem?_cons_zero, Option.map_some, Option.some.injEq]; (first | (go_simp; done) | (go_simp; with_reducible rfl))
  try simp only [Act.put, List.setIfInBounds_toArray, List.set_cons_zero, List.set_cons_succ]
  refine lPure (i := 2) (some 17) (v := ?_) (by rfl) (by kernel_rfl) (by kernel_rfl) (by kernel_rfl) (by kernel_rfl) (fun _ _ _ h => h) (by rfl) ?_ (keep_of hH0) ?_
  rotate_left
  · intro w; simp only [List.getElem?_toArray, List.getElem?_cons_succ, List.getElem?_cons_zero, Option.map_some, Option.some.injEq]; (first | (go_simp; done) | (go_simp; with_reducible rfl))
  try simp only [Act.put, List.setIfInBounds_toArray, List.set_cons_zero, List.set_cons_succ]
  refine lTake (i := 3) (some 18) (v := ?_) (by rfl) (by kernel_rfl) (by kernel_rfl) (by kernel_rfl) (by kernel_rfl) (by kernel_rfl) (fun _ _ _ h => h) (by rfl) ?_ hH0 ?_
  rotate_left
  · intro w hSw; (try dsimp only at hSw); simp only [List.getElem?_toArray, List.getElem?_cons_succ, List.getElem?_cons_zero, Option.map_some, Option.some.injEq]; (first | (go_simp; done) | (go_simp; with_reducible rfl))
  try simp only [Act.put, List.setIfInBounds_toArray, List.set_cons_zero, List.set_cons_succ]
  refine lTake (i := 4) (some 19) (v := ?_) (by rfl) (by kernel_rfl) (by kernel_rfl) (by kernel_rfl) (by kernel_rfl) (by kernel_rfl) (fun _ _ _ h => h) (by rfl) ?_ hH0 ?_
  rotate_left
  · intro w hSw; (try dsimp only at hSw); simp only [List.getElem?_toArray, List.getElem?_cons_succ, List.getElem?_cons_zero, Option.map_some, Option.some.injEq]; (first | (go_simp; done) | (go_simp; with_reducible rfl))
  try simp only [Act.put, List.setIfInBounds_toArray, List.set_cons_zero, List.set_cons_succ]
  refine lOne 5 (by kernel_rfl) (LFall.op (by kernel_rfl) (fun K hK => ?_))
  obtain ⟨W2, hrun, hm2, hg2⟩ := (G0.out.map 3 rfl).run_store KPI injP Tryd.underlying61 HKEY.out ()
  go_simp
  have G1 := Tre.hid (G0.out.put 3 rfl hg2 hm2)
  clear hrun hm2 hg2
  refine hK.out _ _ ?_
  clear hK K hH0
  try simp only [Act.put, List.setIfInBounds_toArray, List.set_cons_zero, List.set_cons_succ]
  refine lDone (by kernel_rfl) ?_
  generalize hnn : (if (m (x, y)).isSome = true then n1 else n1 + 1) = n1' at G1
  have HM3 := G1
  clear hnn G0 G1
  have HS40 := (show (fun w' => w'.cell? ⟨bM, 0, none⟩ = some (.slice (some ⟨b1, o1, none⟩) g.ns.length cg) ∧ w'.cell? ⟨bM, 2, none⟩ = some (.slice (some ⟨b2, 0, none⟩) hn ch) ∧ w'.cell? ⟨w.heap.size, 0, none⟩ = some (.int .i64 (x : Int)) ∧ w'.cell? ⟨w.heap.size, 1, none⟩ = some (.int .i64 (y : Int)) ∧ w'.cell? ⟨b1, o1 + x * 5, none⟩ = some (.int .i64 kd) ∧ w'.cell? ⟨b1, o1 + x * 5 + 1, none⟩ = some (.string nm) ∧ w'.cell? ⟨b1, o1 + x * 5 + 2, none⟩ = some (.slice ax as1.length cx) ∧ w'.cell? ⟨b1, o1 + x * 5 + 3, none⟩ = some (.slice lx ls.length dx) ∧ w'.cell? ⟨b1, o1 + x * 5 + 4, none⟩ = some (.bool op) ∧ w'.cell? ⟨b2, y * 5, none⟩ = some (.int .i64 kd) ∧ w'.cell? ⟨b2, y * 5 + 1, none⟩ = some (.string nm) ∧ w'.cell? ⟨b2, y * 5 + 2, none⟩ = some (.slice ay as2.length cy) ∧ w'.cell? ⟨b2, y * 5 + 3, none⟩ = some (.slice ly ls.length dy) ∧ w'.cell? ⟨b2, y * 5 + 4, none⟩ = some (.bool op)) (World.drew _) from ⟨HM3.out.cell 1 rfl 0 rfl, HM3.out.cell 1 rfl 2 rfl, HM3.out.cell 0 rfl 0 rfl, HM3.out.cell 0 rfl 1 rfl, cell_below HM3.out.below x0, cell_below HM3.out.below x1, cell_below HM3.out.below x2, cell_below HM3.out.below x3, cell_below HM3.out.below x4, HYC.out _ (HM3.out.at_ 5 rfl)⟩)
  go_upto_region 4 with fail
  go_cut [5, 6] (fun s5 s6 wx => ∃ bn5 bn6 : Nat, s5 = .pointer (some ⟨bn5, 0, none⟩) ∧ s6 = .pointer (some ⟨bn6, 0, none⟩) ∧ Hid (Mem w0 wx (cellsR bn6 39 #[.int .i64 kd, .string nm, .slice ay as2.length cy, .slice ly ls.length dy, .bool op] :: cellsR bn5 39 #[.int .i64 kd, .string nm, .slice ax as1.length cx, .slice lx ls.length dx, .bool op] :: cellsR w.heap.size 66 #[.int .i64 (x : Int), .int .i64 (y : Int)] :: cellsR bM 64 #[.slice (some ⟨b1, o1, none⟩) g.ns.length cg, .int .i64 g.root, .slice (some ⟨b2, 0, none⟩) hn ch, .int .i64 hr, .map (some bm), .map (some bw), v] :: rowR 66 2 v l.length (pcells l) :: mapR Tryd.prog 66 ep (fun _ : Unit => .bool true) bm n1' (upd m (x, y) ()) :: mapR Tryd.prog 3 en en bw n2 (f) :: nodesR (.slice (some ⟨b2, 0, none⟩) hn ch) dh :: kidsR dh :: rs)))
  case first =>
    refine wp_region_keep (S := (fun w' => w'.cell? ⟨bM, 0, none⟩ = some (.slice (some ⟨b1, o1, none⟩) g.ns.length cg) ∧ w'.cell? ⟨bM, 2, none⟩ = some (.slice (some ⟨b2, 0, none⟩) hn ch) ∧ w'.cell? ⟨w.heap.size, 0, none⟩ = some (.int .i64 (x : Int)) ∧ w'.cell? ⟨w.heap.size, 1, none⟩ = some (.int .i64 (y : Int)) ∧ w'.cell? ⟨b1, o1 + x * 5, none⟩ = some (.int .i64 kd) ∧ w'.cell? ⟨b1, o1 + x * 5 + 1, none⟩ = some (.string nm) ∧ w'.cell? ⟨b1, o1 + x * 5 + 2, none⟩ = some (.slice ax as1.length cx) ∧ w'.cell? ⟨b1, o1 + x * 5 + 3, none⟩ = some (.slice lx ls.length dx) ∧ w'.cell? ⟨b1, o1 + x * 5 + 4, none⟩ = some (.bool op) ∧ w'.cell? ⟨b2, y * 5, none⟩ = some (.int .i64 kd) ∧ w'.cell? ⟨b2, y * 5 + 1, none⟩ = some (.string nm) ∧ w'.cell? ⟨b2, y * 5 + 2, none⟩ = some (.slice ay as2.length cy) ∧ w'.cell? ⟨b2, y * 5 + 3, none⟩ = some (.slice ly ls.length dy) ∧ w'.cell? ⟨b2, y * 5 + 4, none⟩ = some (.bool op))) [21] (by kernel_rfl) ?_ (fun hH0 => ?_)
    · exact HS40
    have G0 := Tre.hid HM3.out.drew
    generalize hq : World.drew _ = wg0 at G0 hH0 ⊢
    clear hq HS40 HM3
    refine lPure (i := 0) (some 20) (v := ?_) (by rfl) (by kernel_rfl) (by kernel_rfl) (by kernel_rfl) (by kernel_rfl) (fun _ _ _ h => h) (by rfl) ?_ (keep_of hH0) ?_
    rotate_left
    · intro w; simp only [List.getElem?_toArray, List.getElem?_cons_zero, Option.map_some, Option.some.injEq]; (first | (go_simp; done) | (go_simp; with_reducible rfl))
    try simp only [Act.put, List.setIfInBounds_toArray, List.set_cons_zero, List.set_cons_succ]
    refine lPure (i := 1) (some 21) (v := ?_) (by rfl) (by kernel_rfl) (by kernel_rfl) (by kernel_rfl) (by kernel_rfl) (fun _ _ _ h => h) (by rfl) ?_ (keep_of hH0) ?_
    rotate_left
    · intro w; simp only [List.getElem?_toArray, List.getElem?_cons_succ, List.getElem?_cons_zero, Option.map_some, Option.some.injEq]; (first | (go_simp; done) | (go_simp; with_reducible rfl))
    try simp only [Act.put, List.setIfInBounds_toArray, List.set_cons_zero, List.set_cons_succ]
    refine lPure (i := 2) (some 22) (v := ?_) (by rfl) (by kernel_rfl) (by kernel_rfl) (by kernel_rfl) (by kernel_rfl) (fun _ _ _ h => h) (by rfl) ?_ (keep_of hH0) ?_
    rotate_left
    · intro w; simp only [List.getElem?_toArray, List.getElem?_cons_succ, List.getElem?_cons_zero, Option.map_some, Option.some.injEq]; (first | (go_simp; done) | (go_simp; with_reducible rfl))
    try simp only [Act.put, List.setIfInBounds_toArray, List.set_cons_zero, List.set_cons_succ]
    refine lPure (i := 3) (some 23) (v := ?_) (by rfl) (by kernel_rfl) (by kernel_rfl) (by kernel_rfl) (by kernel_rfl) (fun _ _ _ h => h) (by rfl) ?_ (keep_of hH0) ?_
    rotate_left
    · intro w; simp only [List.getElem?_toArray, List.getElem?_cons_succ, List.getElem?_cons_zero, Option.map_some, Option.some.injEq]; (first | (go_simp; done) | (go_simp; with_reducible rfl))
    try simp only [Act.put, List.setIfInBounds_toArray, List.set_cons_zero, List.set_cons_succ]
    refine lPure (i := 5) (some 25) (v := ?_) (by rfl) (by kernel_rfl) (by kernel_rfl) (by kernel_rfl) (by kernel_rfl) (fun _ _ _ h => h) (by rfl) ?_ (keep_of hH0) ?_
    rotate_left
    · intro w; simp only [List.getElem?_toArray, List.getElem?_cons_succ, List.getElem?_cons_zero, Option.map_some, Option.some.injEq]; (first | (go_simp; done) | (go_simp; with_reducible rfl))
    try simp only [Act.put, List.setIfInBounds_toArray, List.set_cons_zero, List.set_cons_succ]
    refine lPure (i := 9) (some 29) (v := ?_) (by rfl) (by kernel_rfl) (by kernel_rfl) (by kernel_rfl) (by kernel_rfl) (fun _ _ _ h => h) (by rfl) ?_ (keep_of hH0) ?_
    rotate_left
    · intro w; simp only [List.getElem?_toArray, List.getElem?_cons_succ, List.getElem?_cons_zero, Option.map_some, Option.some.injEq]; (first | (go_simp; done) | (go_simp; with_reducible rfl))
    try simp only [Act.put, List.setIfInBounds_toArray, List.set_cons_zero, List.set_cons_succ]
    refine lPure (i := 10) (some 30) (v := ?_) (by rfl) (by kernel_rfl) (by kernel_rfl) (by kernel_rfl) (by kernel_rfl) (fun _ _ _ h => h) (by rfl) ?_ (keep_of hH0) ?_
    rotate_left
    · intro w; simp only [List.getElem?_toArray, List.getElem?_cons_succ, List.getElem?_cons_zero, Option.map_some, Option.some.injEq]; (first | (go_simp; done) | (go_simp; with_reducible rfl))
    try simp only [Act.put, List.setIfInBounds_toArray, List.set_cons_zero, List.set_cons_succ]
    refine lPure (i := 11) (some 31) (v := ?_) (by rfl) (by kernel_rfl) (by kernel_rfl) (by kernel_rfl) (by kernel_rfl) (fun _ _ _ h => h) (by rfl) ?_ (keep_of hH0) ?_
    rotate_left
    · intro w; simp only [List.getElem?_toArray, List.getElem?_cons_succ, List.getElem?_cons_zero, Option.map_some, Option.some.injEq]; (first | (go_simp; done) | (go_simp; with_reducible rfl))
    try simp only [Act.put, List.setIfInBounds_toArray, List.set_cons_zero, List.set_cons_succ]
    refine lPure (i := 12) (some 32) (v := ?_) (by rfl) (by kernel_rfl) (by kernel_rfl) (by kernel_rfl) (by kernel_rfl) (fun _ _ _ h => h) (by rfl) ?_ (keep_of hH0) ?_
    rotate_left
    · intro w; simp only [List.getElem?_toArray, List.getElem?_cons_succ, List.getElem?_cons_zero, Option.map_some, Option.some.injEq]; (first | (go_simp; done) | (go_simp; with_reducible rfl))
    try simp only [Act.put, List.setIfInBounds_toArray, List.set_cons_zero, List.set_cons_succ]
    refine lPure (i := 14) (some 34) (v := ?_) (by rfl) (by kernel_rfl) (by kernel_rfl) (by kernel_rfl) (by kernel_rfl) (fun _ _ _ h => h) (by rfl) ?_ (keep_of hH0) ?_
    rotate_left
    · intro w; simp only [List.getElem?_toArray, List.getElem?_cons_succ, List.getElem?_cons_zero, Option.map_some, Option.some.injEq]; (first | (go_simp; done) | (go_simp; with_reducible rfl))
    try simp only [Act.put, List.setIfInBounds_toArray, List.set_cons_zero, List.set_cons_succ]
    refine lTake (i := 4) (some 24) (v := ?_) (by rfl) (by kernel_rfl) (by kernel_rfl) (by kernel_rfl) (by kernel_rfl) (by kernel_rfl) (fun _ _ _ h => h) (by rfl) ?_ hH0 ?_
    rotate_left
    · intro w hSw; (try dsimp only at hSw); simp only [List.getElem?_toArray, List.getElem?_cons_succ, List.getElem?_cons_zero, Option.map_some, Option.some.injEq]; (first | (go_simp; done) | (go_simp; with_reducible rfl))
    try simp only [Act.put, List.setIfInBounds_toArray, List.set_cons_zero, List.set_cons_succ]
    refine lTake (i := 6) (some 26) (v := ?_) (by rfl) (by kernel_rfl) (by kernel_rfl) (by kernel_rfl) (by kernel_rfl) (by kernel_rfl) (fun _ _ _ h => h) (by rfl) ?_ hH0 ?_
    rotate_left
    · intro w hSw; (try dsimp only at hSw); simp only [List.getElem?_toArray, List.getElem?_cons_succ, List.getElem?_cons_zero, Option.map_some, Option.some.injEq]; (first | (go_simp; done) | (go_simp; with_reducible rfl))
    try simp only [Act.put, List.setIfInBounds_toArray, List.set_cons_zero, List.set_cons_succ]
    refine lPure (i := 7) (some 27) (v := ?_) (by rfl) (by kernel_rfl) (by kernel_rfl) (by kernel_rfl) (by kernel_rfl) (fun _ _ _ h => h) (by rfl) ?_ (keep_of hH0) ?_
    rotate_left
    · intro w; simp only [List.getElem?_toArray, List.getElem?_cons_succ, List.getElem?_cons_zero, Option.map_some, Option.some.injEq]; (first | (go_simp; done) | (go_simp; with_reducible rfl))
    try simp only [Act.put, List.setIfInBounds_toArray, List.set_cons_zero, List.set_cons_succ]
    refine lTake (i := 8) (some 28) (v := ?_) (by rfl) (by kernel_rfl) (by kernel_rfl) (by kernel_rfl) (by kernel_rfl) (by kernel_rfl) (fun _ _ _ h => h) (by rfl) ?_ hH0 ?_
    rotate_left
    · intro w hSw; (try dsimp only at hSw); simp only [List.getElem?_toArray, List.getElem?_cons_succ, List.getElem?_cons_zero, Option.map_some, Option.some.injEq]; (first | (go_simp; done) | (go_simp; with_reducible rfl))
    try simp only [Act.put, List.setIfInBounds_toArray, List.set_cons_zero, List.set_cons_succ]
    refine lTake (i := 13) (some 33) (v := ?_) (by rfl) (by kernel_rfl) (by kernel_rfl) (by kernel_rfl) (by kernel_rfl) (by kernel_rfl) (fun _ _ _ h => h) (by rfl) ?_ hH0 ?_
    rotate_left
    · intro w hSw; (try dsimp only at hSw); simp only [List.getElem?_toArray, List.getElem?_cons_succ, List.getElem?_cons_zero, Option.map_some, Option.some.injEq]; (first | (go_simp; done) | (go_simp; with_reducible rfl))
    try simp only [Act.put, List.setIfInBounds_toArray, List.set_cons_zero, List.set_cons_succ]
    refine lTake (i := 15) (some 35) (v := ?_) (by rfl) (by kernel_rfl) (by kernel_rfl) (by kernel_rfl) (by kernel_rfl) (by kernel_rfl) (fun _ _ _ h => h) (by rfl) ?_ hH0 ?_
    rotate_left
    · intro w hSw; (try dsimp only at hSw); simp only [List.getElem?_toArray, List.getElem?_cons_succ, List.getElem?_cons_zero, Option.map_some, Option.some.injEq]; (first | (go_simp; done) | (go_simp; with_reducible rfl))
    try simp only [Act.put, List.setIfInBounds_toArray, List.set_cons_zero, List.set_cons_succ]
    refine lPure (i := 16) (some 36) (v := ?_) (by rfl) (by kernel_rfl) (by kernel_rfl) (by kernel_rfl) (by kernel_rfl) (fun _ _ _ h => h) (by rfl) ?_ (keep_of hH0) ?_
    rotate_left
    · intro w; simp only [List.getElem?_toArray, List.getElem?_cons_succ, List.getElem?_cons_zero, Option.map_some, Option.some.injEq]; (first | (go_simp; done) | (go_simp; with_reducible rfl))
    try simp only [Act.put, List.setIfInBounds_toArray, List.set_cons_zero, List.set_cons_succ]
    refine lTake (i := 17) (some 37) (v := ?_) (by rfl) (by kernel_rfl) (by kernel_rfl) (by kernel_rfl) (by kernel_rfl) (by kernel_rfl) (fun _ _ _ h => h) (by rfl) ?_ hH0 ?_
    rotate_left
    · intro w hSw; (try dsimp only at hSw); simp only [List.getElem?_toArray, List.getElem?_cons_succ, List.getElem?_cons_zero, Option.map_some, Option.some.injEq]; (first | (go_simp; done) | (go_simp; with_reducible rfl))
    try simp only [Act.put, List.setIfInBounds_toArray, List.set_cons_zero, List.set_cons_succ]
    refine lTwo 18 19 (by kernel_rfl) (LStep.op (fun K hK => ?_)) (LStep.op (fun K hK => ?_))
    · -- 5
      go_simp
      have G1 := Tre.hid (G0.out.allocR #[.int .i64 0, .string ⟨#[]⟩, .slice none 0 0, .slice none 0 0, .bool false] 39)
      generalize hb : wg0.heap.size = bn5 at G1 ⊢
      generalize hw : wg0.alloc (.cells #[.int .i64 0, .string ⟨#[]⟩, .slice none 0 0, .slice none 0 0, .bool false] 39) = wg1 at G1 ⊢
      clear hb hw
      refine hK.out _ _ ?_ (fun hH1 => ?_)
      · exact ⟨G1.out.cell 2 rfl 0 rfl, G1.out.cell 2 rfl 2 rfl, G1.out.cell 1 rfl 0 rfl, G1.out.cell 1 rfl 1 rfl, cell_below G1.out.below x0, cell_below G1.out.below x1, cell_below G1.out.below x2, cell_below G1.out.below x3, cell_below G1.out.below x4, HYC.out _ (G1.out.at_ 6 rfl)⟩
      clear hK K hH0
      try simp only [Act.put, List.setIfInBounds_toArray, List.set_cons_zero, List.set_cons_succ]
      refine lOne 19 (by kernel_rfl) (LStep.op (fun K hK => ?_))
      go_simp
      have G2 := Tre.hid (G1.out.allocR #[.int .i64 0, .string ⟨#[]⟩, .slice none 0 0, .slice none 0 0, .bool false] 39)
      generalize hb : wg1.heap.size = bn6 at G2 ⊢
      generalize hw : wg1.alloc (.cells #[.int .i64 0, .string ⟨#[]⟩, .slice none 0 0, .slice none 0 0, .bool false] 39) = wg2 at G2 ⊢
      clear hb hw
      refine hK.out _ _ ?_ (fun hH2 => ?_)
      · exact ⟨G2.out.cell 3 rfl 0 rfl, G2.out.cell 3 rfl 2 rfl, G2.out.cell 2 rfl 0 rfl, G2.out.cell 2 rfl 1 rfl, cell_below G2.out.below x0, cell_below G2.out.below x1, cell_below G2.out.below x2, cell_below G2.out.below x3, cell_below G2.out.below x4, HYC.out _ (G2.out.at_ 7 rfl)⟩
      clear hK K hH1
      try simp only [Act.put, List.setIfInBounds_toArray, List.set_cons_zero, List.set_cons_succ]
      refine lOne 20 (by kernel_rfl) (LStep.op (fun K hK => ?_))
      obtain ⟨z0, z1, z2, z3, z4⟩ := five G2.out 1 rfl
      have zf0 := G2.out.free 1 rfl 0
      have zf1 := G2.out.free 1 rfl 1
      have zf2 := G2.out.free 1 rfl 2
      have zf3 := G2.out.free 1 rfl 3
      have zf4 := G2.out.free 1 rfl 4
      go_simp
      have G3 := Tre.hid (((((G2.out.setCell 1 rfl 0 (.int .i64 kd)).setCell 1 rfl 1 (.string nm)).setCell 1 rfl 2 (.slice ax as1.length cx)).setCell 1 rfl 3 (.slice lx ls.length dx)).setCell 1 rfl 4 (.bool op))
      generalize hw : (((((wg2.setCell ⟨bn5, 0, none⟩ (.int .i64 kd)).setCell ⟨bn5, 1, none⟩ (.string nm)).setCell ⟨bn5, 2, none⟩ (.slice ax as1.length cx)).setCell ⟨bn5, 3, none⟩ (.slice lx ls.length dx)).setCell ⟨bn5, 4, none⟩ (.bool op)) = wg3 at G3 ⊢
      clear hw z0 z1 z2 z3 z4 zf0 zf1 zf2 zf3 zf4
      refine hK.out _ _ ?_ (fun hH3 => ?_)
      · exact ⟨G3.out.cell 3 rfl 0 rfl, G3.out.cell 3 rfl 2 rfl, G3.out.cell 2 rfl 0 rfl, G3.out.cell 2 rfl 1 rfl, cell_below G3.out.below x0, cell_below G3.out.below x1, cell_below G3.out.below x2, cell_below G3.out.below x3, cell_below G3.out.below x4, HYC.out _ (G3.out.at_ 7 rfl)⟩
      clear hK K hH2
      try simp only [Act.put, List.setIfInBounds_toArray, List.set_cons_zero, List.set_cons_succ]
      refine lOne 21 (by kernel_rfl) (LFall.op (by kernel_rfl) (fun K hK => ?_))
      obtain ⟨z0, z1, z2, z3, z4⟩ := five G3.out 0 rfl
      have zf0 := G3.out.free 0 rfl 0
      have zf1 := G3.out.free 0 rfl 1
      have zf2 := G3.out.free 0 rfl 2
      have zf3 := G3.out.free 0 rfl 3
      have zf4 := G3.out.free 0 rfl 4
      go_simp
      have G4 := Tre.hid (((((G3.out.setCell 0 rfl 0 (.int .i64 kd)).setCell 0 rfl 1 (.string nm)).setCell 0 rfl 2 (.slice ay as2.length cy)).setCell 0 rfl 3 (.slice ly ls.length dy)).setCell 0 rfl 4 (.bool op))
      generalize hw : (((((wg3.setCell ⟨bn6, 0, none⟩ (.int .i64 kd)).setCell ⟨bn6, 1, none⟩ (.string nm)).setCell ⟨bn6, 2, none⟩ (.slice ay as2.length cy)).setCell ⟨bn6, 3, none⟩ (.slice ly ls.length dy)).setCell ⟨bn6, 4, none⟩ (.bool op)) = wg4 at G4 ⊢
      clear hw z0 z1 z2 z3 z4 zf0 zf1 zf2 zf3 zf4
      refine hK.out _ _ ?_
      clear hK K hH3
      try simp only [Act.put, List.setIfInBounds_toArray, List.set_cons_zero, List.set_cons_succ]
      refine lDone (by kernel_rfl) ?_
      go_wp2_with fail
      go_meet
      exact ⟨bn5, bn6, rfl, rfl, G4.out⟩
    · -- 6
      go_simp
      have G1 := Tre.hid (G0.out.allocR #[.int .i64 0, .string ⟨#[]⟩, .slice none 0 0, .slice none 0 0, .bool false] 39)
      generalize hb : wg0.heap.size = bn6 at G1 ⊢
      generalize hw : wg0.alloc (.cells #[.int .i64 0, .string ⟨#[]⟩, .slice none 0 0, .slice none 0 0, .bool false] 39) = wg1 at G1 ⊢
      clear hb hw
      refine hK.out _ _ ?_ (fun hH4 => ?_)
      · exact ⟨G1.out.cell 2 rfl 0 rfl, G1.out.cell 2 rfl 2 rfl, G1.out.cell 1 rfl 0 rfl, G1.out.cell 1 rfl 1 rfl, cell_below G1.out.below x0, cell_below G1.out.below x1, cell_below G1.out.below x2, cell_below G1.out.below x3, cell_below G1.out.below x4, HYC.out _ (G1.out.at_ 6 rfl)⟩
      clear hK K hH0
      try simp only [Act.put, List.setIfInBounds_toArray, List.set_cons_zero, List.set_cons_succ]
      refine lOne 18 (by kernel_rfl) (LStep.op (fun K hK => ?_))
      go_simp
      have G2 := Tre.hid (G1.out.allocR #[.int .i64 0, .string ⟨#[]⟩, .slice none 0 0, .slice none 0 0, .bool false] 39)
      generalize hb : wg1.heap.size = bn5 at G2 ⊢
      generalize hw : wg1.alloc (.cells #[.int .i64 0, .string ⟨#[]⟩, .slice none 0 0, .slice none 0 0, .bool false] 39) = wg2 at G2 ⊢
      clear hb hw
      refine hK.out _ _ ?_ (fun hH5 => ?_)
      · exact ⟨G2.out.cell 3 rfl 0 rfl, G2.out.cell 3 rfl 2 rfl, G2.out.cell 2 rfl 0 rfl, G2.out.cell 2 rfl 1 rfl, cell_below G2.out.below x0, cell_below G2.out.below x1, cell_below G2.out.below x2, cell_below G2.out.below x3, cell_below G2.out.below x4, HYC.out _ (G2.out.at_ 7 rfl)⟩
      clear hK K hH4
      try simp only [Act.put, List.setIfInBounds_toArray, List.set_cons_zero, List.set_cons_succ]
      refine lOne 20 (by kernel_rfl) (LStep.op (fun K hK => ?_))
      obtain ⟨z0, z1, z2, z3, z4⟩ := five G2.out 0 rfl
      have zf0 := G2.out.free 0 rfl 0
      have zf1 := G2.out.free 0 rfl 1
      have zf2 := G2.out.free 0 rfl 2
      have zf3 := G2.out.free 0 rfl 3
      have zf4 := G2.out.free 0 rfl 4
      go_simp
      have G3 := Tre.hid (((((G2.out.setCell 0 rfl 0 (.int .i64 kd)).setCell 0 rfl 1 (.string nm)).setCell 0 rfl 2 (.slice ax as1.length cx)).setCell 0 rfl 3 (.slice lx ls.length dx)).setCell 0 rfl 4 (.bool op))
      generalize hw : (((((wg2.setCell ⟨bn5, 0, none⟩ (.int .i64 kd)).setCell ⟨bn5, 1, none⟩ (.string nm)).setCell ⟨bn5, 2, none⟩ (.slice ax as1.length cx)).setCell ⟨bn5, 3, none⟩ (.slice lx ls.length dx)).setCell ⟨bn5, 4, none⟩ (.bool op)) = wg3 at G3 ⊢
      clear hw z0 z1 z2 z3 z4 zf0 zf1 zf2 zf3 zf4
      refine hK.out _ _ ?_ (fun hH6 => ?_)
      · exact ⟨G3.out.cell 3 rfl 0 rfl, G3.out.cell 3 rfl 2 rfl, G3.out.cell 2 rfl 0 rfl, G3.out.cell 2 rfl 1 rfl, cell_below G3.out.below x0, cell_below G3.out.below x1, cell_below G3.out.below x2, cell_below G3.out.below x3, cell_below G3.out.below x4, HYC.out _ (G3.out.at_ 7 rfl)⟩
      clear hK K hH5
      try simp only [Act.put, List.setIfInBounds_toArray, List.set_cons_zero, List.set_cons_succ]
      refine lOne 21 (by kernel_rfl) (LFall.op (by kernel_rfl) (fun K hK => ?_))
      obtain ⟨z0, z1, z2, z3, z4⟩ := five G3.out 1 rfl
      have zf0 := G3.out.free 1 rfl 0
      have zf1 := G3.out.free 1 rfl 1
      have zf2 := G3.out.free 1 rfl 2
      have zf3 := G3.out.free 1 rfl 3
      have zf4 := G3.out.free 1 rfl 4
      go_simp
      have G4 := Tre.hid (((((G3.out.setCell 1 rfl 0 (.int .i64 kd)).setCell 1 rfl 1 (.string nm)).setCell 1 rfl 2 (.slice ay as2.length cy)).setCell 1 rfl 3 (.slice ly ls.length dy)).setCell 1 rfl 4 (.bool op))
      generalize hw : (((((wg3.setCell ⟨bn6, 0, none⟩ (.int .i64 kd)).setCell ⟨bn6, 1, none⟩ (.string nm)).setCell ⟨bn6, 2, none⟩ (.slice ay as2.length cy)).setCell ⟨bn6, 3, none⟩ (.slice ly ls.length dy)).setCell ⟨bn6, 4, none⟩ (.bool op)) = wg4 at G4 ⊢
      clear hw z0 z1 z2 z3 z4 zf0 zf1 zf2 zf3 zf4
      refine hK.out _ _ ?_
      clear hK K hH6
      try simp only [Act.put, List.setIfInBounds_toArray, List.set_cons_zero, List.set_cons_succ]
      refine lDone (by kernel_rfl) ?_
      go_wp2_with fail
      go_meet
      exact ⟨bn5, bn6, rfl, rfl, (G4.out.front 1 rfl)⟩
  case rest =>
    obtain ⟨bn5, bn6, rfl, rfl, HC⟩ := hcut
    obtain ⟨t0, t1, t2, t3, t4⟩ := five HC.out 1 rfl
    by_cases hk : kd = 1
    · have e1 : (kd == 1) = true := by simp [hk]
      have HKK := Tre.hid hk
      clear hk
      rcases HFX.out with hfx | hfx
      · have hfx := Tre.hid hfx
        have HLK6 : Hid (∀ (W : World), MapIs Tryd.prog 3 en en W bw n2 f → (Instr.lookup 33 (.map (some bw)) (.int .i64 (x : Int)) true).run Tryd.prog W = .ok (.tuple #[.int .i64 0, .bool false]) W) := fun W h => by
          have h2 := h.run_look_ok KI injN Tryd.underlying33 (zi W) (kn x (by omega))
          rw [hfx.out] at h2
          exact h2
        go_wp2_with fail
        refine wp_region_keep (S := (fun w' => w'.cell? ⟨bM, 5, none⟩ = some (.map (some bw)) ∧ w'.cell? ⟨w.heap.size, 0, none⟩ = some (.int .i64 (x : Int)) ∧ (Instr.lookup 33 (.map (some bw)) (.int .i64 (x : Int)) true).run Tryd.prog w' = .ok (.tuple #[.int .i64 0, .bool false]) w')) [] (by kernel_rfl) ?_ (fun hH0 => ?_)
        · exact ⟨HC.out.drew.cell 3 rfl 5 rfl, HC.out.drew.cell 2 rfl 0 rfl, HLK6.out _ (HC.out.drew.map 6 rfl)⟩
        have H0 := Tre.hid HC.out.drew
        generalize hq : World.drew _ = wq0 at H0 hH0 ⊢
        clear hq HC
        refine lPure (i := 0) (some 46) (v := ?_) (by rfl) (by kernel_rfl) (by kernel_rfl) (by kernel_rfl) (by kernel_rfl) (fun _ _ _ h => h) (by rfl) ?_ (keep_of hH0) ?_
        rotate_left
        · intro w; simp only [List.getElem?_toArray, List.getElem?_cons_zero, Option.map_some, Option.some.injEq]; (first | (go_simp; done) | (go_simp; with_reducible rfl))
        try simp only [Act.put, List.setIfInBounds_toArray, List.set_cons_zero, List.set_cons_succ]
        refine lPure (i := 1) (some 47) (v := ?_) (by rfl) (by kernel_rfl) (by kernel_rfl) (by kernel_rfl) (by kernel_rfl) (fun _ _ _ h => h) (by rfl) ?_ (keep_of hH0) ?_
        rotate_left
        · intro w; simp only [List.getElem?_toArray, List.getElem?_cons_succ, List.getElem?_cons_zero, Option.map_some, Option.some.injEq]; (first | (go_simp; done) | (go_simp; with_reducible rfl))
        try simp only [Act.put, List.setIfInBounds_toArray, List.set_cons_zero, List.set_cons_succ]
        refine lPure (i := 2) (some 48) (v := ?_) (by rfl) (by kernel_rfl) (by kernel_rfl) (by kernel_rfl) (by kernel_rfl) (fun _ _ _ h => h) (by rfl) ?_ (keep_of hH0) ?_
        rotate_left
        · intro w; simp only [List.getElem?_toArray, List.getElem?_cons_succ, List.getElem?_cons_zero, Option.map_some, Option.some.injEq]; (first | (go_simp; done) | (go_simp; with_reducible rfl))
        try simp only [Act.put, List.setIfInBounds_toArray, List.set_cons_zero, List.set_cons_succ]
        refine lPure (i := 4) (some 50) (v := ?_) (by rfl) (by kernel_rfl) (by kernel_rfl) (by kernel_rfl) (by kernel_rfl) (fun _ _ _ h => h) (by rfl) ?_ (keep_of hH0) ?_
        rotate_left
        · intro w; simp only [List.getElem?_toArray, List.getElem?_cons_succ, List.getElem?_cons_zero, Option.map_some, Option.some.injEq]; (first | (go_simp; done) | (go_simp; with_reducible rfl))
        try simp only [Act.put, List.setIfInBounds_toArray, List.set_cons_zero, List.set_cons_succ]
        refine lTake (i := 3) (some 49) (v := ?_) (by rfl) (by kernel_rfl) (by kernel_rfl) (by kernel_rfl) (by kernel_rfl) (by kernel_rfl) (fun _ _ _ h => h) (by rfl) ?_ hH0 ?_
        rotate_left
        · intro w hSw; (try dsimp only at hSw); simp only [List.getElem?_toArray, List.getElem?_cons_succ, List.getElem?_cons_zero, Option.map_some, Option.some.injEq]; (first | (go_simp; done) | (go_simp; with_reducible rfl))
        try simp only [Act.put, List.setIfInBounds_toArray, List.set_cons_zero, List.set_cons_succ]
        refine lTake (i := 5) (some 51) (v := ?_) (by rfl) (by kernel_rfl) (by kernel_rfl) (by kernel_rfl) (by kernel_rfl) (by kernel_rfl) (fun _ _ _ h => h) (by rfl) ?_ hH0 ?_
        rotate_left
        · intro w hSw; (try dsimp only at hSw); simp only [List.getElem?_toArray, List.getElem?_cons_succ, List.getElem?_cons_zero, Option.map_some, Option.some.injEq]; (first | (go_simp; done) | (go_simp; with_reducible rfl))
        try simp only [Act.put, List.setIfInBounds_toArray, List.set_cons_zero, List.set_cons_succ]
        refine lTake (i := 6) (some 52) (v := ?_) (by rfl) (by kernel_rfl) (by kernel_rfl) (by kernel_rfl) (by kernel_rfl) (by kernel_rfl) (fun _ _ _ h => h) (by rfl) ?_ hH0 ?_
        rotate_left
        · intro w hSw; (try dsimp only at hSw); simp only [List.getElem?_toArray, List.getElem?_cons_succ, List.getElem?_cons_zero, Option.map_some, Option.some.injEq]; (first | (go_simp; done) | (go_simp; with_reducible rfl))
        try simp only [Act.put, List.setIfInBounds_toArray, List.set_cons_zero, List.set_cons_succ]
        refine lPure (i := 7) (some 45) (v := ?_) (by rfl) (by kernel_rfl) (by kernel_rfl) (by kernel_rfl) (by kernel_rfl) (fun _ _ _ h => h) (by rfl) ?_ (keep_of hH0) ?_
        rotate_left
        · intro w; simp only [List.getElem?_toArray, List.getElem?_cons_succ, List.getElem?_cons_zero, Option.map_some, Option.some.injEq]; (first | (go_simp; done) | (go_simp; with_reducible rfl))
        try simp only [Act.put, List.setIfInBounds_toArray, List.set_cons_zero, List.set_cons_succ]
        refine lPure (i := 8) (some 53) (v := ?_) (by rfl) (by kernel_rfl) (by kernel_rfl) (by kernel_rfl) (by kernel_rfl) (fun _ _ _ h => h) (by rfl) ?_ (keep_of hH0) ?_
        rotate_left
        · intro w; simp only [List.getElem?_toArray, List.getElem?_cons_succ, List.getElem?_cons_zero, Option.map_some, Option.some.injEq]; (first | (go_simp; done) | (go_simp; with_reducible rfl))
        try simp only [Act.put, List.setIfInBounds_toArray, List.set_cons_zero, List.set_cons_succ]
        refine lPure (i := 9) (some 54) (v := ?_) (by rfl) (by kernel_rfl) (by kernel_rfl) (by kernel_rfl) (by kernel_rfl) (fun _ _ _ h => h) (by rfl) ?_ (keep_of hH0) ?_
        rotate_left
        · intro w; simp only [List.getElem?_toArray, List.getElem?_cons_succ, List.getElem?_cons_zero, Option.map_some, Option.some.injEq]; (first | (go_simp; done) | (go_simp; with_reducible rfl))
        try simp only [Act.put, List.setIfInBounds_toArray, List.set_cons_zero, List.set_cons_succ]
        refine lPure (i := 10) (some 7) (v := ?_) (by rfl) (by kernel_rfl) (by kernel_rfl) (by kernel_rfl) (by kernel_rfl) (fun _ _ _ h => h) (by rfl) ?_ (keep_of hH0) ?_
        rotate_left
        · intro w; simp only [List.getElem?_toArray, List.getElem?_cons_succ, List.getElem?_cons_zero, Option.map_some, Option.some.injEq]; (first | (go_simp; done) | (go_simp; with_reducible rfl))
        try simp only [Act.put, List.setIfInBounds_toArray, List.set_cons_zero, List.set_cons_succ]
        refine lPure (i := 11) (some 8) (v := ?_) (by rfl) (by kernel_rfl) (by kernel_rfl) (by kernel_rfl) (by kernel_rfl) (fun _ _ _ h => h) (by rfl) ?_ (keep_of hH0) ?_
        rotate_left
        · intro w; simp only [List.getElem?_toArray, List.getElem?_cons_succ, List.getElem?_cons_zero, Option.map_some, Option.some.injEq]; (first | (go_simp; done) | (go_simp; with_reducible rfl))
        try simp only [Act.put, List.setIfInBounds_toArray, List.set_cons_zero, List.set_cons_succ]
        refine lDone (by kernel_rfl) ?_
        clear hH0
        have HC := H0
        clear H0
        go_wp2_with fail
        refine wp_region_keep (S := (fun w' => w'.cell? ⟨bM, 5, none⟩ = some (.map (some bw)) ∧ w'.cell? ⟨w.heap.size, 0, none⟩ = some (.int .i64 (x : Int)) ∧ w'.cell? ⟨w.heap.size, 1, none⟩ = some (.int .i64 (y : Int)))) [8] (by kernel_rfl) ?_ (fun hH0 => ?_)
        · exact ⟨HC.out.drew.cell 3 rfl 5 rfl, HC.out.drew.cell 2 rfl 0 rfl, HC.out.drew.cell 2 rfl 1 rfl⟩
        have G0 := Tre.hid HC.out.drew
        generalize hq : World.drew _ = wg0 at G0 hH0 ⊢
        clear hq HC
        refine lPure (i := 0) (some 62) (v := ?_) (by rfl) (by kernel_rfl) (by kernel_rfl) (by kernel_rfl) (by kernel_rfl) (fun _ _ _ h => h) (by rfl) ?_ (keep_of hH0) ?_
        rotate_left
        · intro w; simp only [List.getElem?_toArray, List.getElem?_cons_zero, Option.map_some, Option.some.injEq]; (first | (go_simp; done) | (go_simp; with_reducible rfl))
        try simp only [Act.put, List.setIfInBounds_toArray, List.set_cons_zero, List.set_cons_succ]
        refine lPure (i := 1) (some 63) (v := ?_) (by rfl) (by kernel_rfl) (by kernel_rfl) (by kernel_rfl) (by kernel_rfl) (fun _ _ _ h => h) (by rfl) ?_ (keep_of hH0) ?_
        rotate_left
        · intro w; simp only [List.getElem?_toArray, List.getElem?_cons_succ, List.getElem?_cons_zero, Option.map_some, Option.some.injEq]; (first | (go_simp; done) | (go_simp; with_reducible rfl))
        try simp only [Act.put, List.setIfInBounds_toArray, List.set_cons_zero, List.set_cons_succ]
        refine lPure (i := 2) (some 64) (v := ?_) (by rfl) (by kernel_rfl) (by kernel_rfl) (by kernel_rfl) (by kernel_rfl) (fun _ _ _ h => h) (by rfl) ?_ (keep_of hH0) ?_
        rotate_left
        · intro w; simp only [List.getElem?_toArray, List.getElem?_cons_succ, List.getElem?_cons_zero, Option.map_some, Option.some.injEq]; (first | (go_simp; done) | (go_simp; with_reducible rfl))
        try simp only [Act.put, List.setIfInBounds_toArray, List.set_cons_zero, List.set_cons_succ]
        refine lPure (i := 4) (some 66) (v := ?_) (by rfl) (by kernel_rfl) (by kernel_rfl) (by kernel_rfl) (by kernel_rfl) (fun _ _ _ h => h) (by rfl) ?_ (keep_of hH0) ?_
        rotate_left
        · intro w; simp only [List.getElem?_toArray, List.getElem?_cons_succ, List.getElem?_cons_zero, Option.map_some, Option.some.injEq]; (first | (go_simp; done) | (go_simp; with_reducible rfl))
        try simp only [Act.put, List.setIfInBounds_toArray, List.set_cons_zero, List.set_cons_succ]
        refine lPure (i := 6) (some 68) (v := ?_) (by rfl) (by kernel_rfl) (by kernel_rfl) (by kernel_rfl) (by kernel_rfl) (fun _ _ _ h => h) (by rfl) ?_ (keep_of hH0) ?_
        rotate_left
        · intro w; simp only [List.getElem?_toArray, List.getElem?_cons_succ, List.getElem?_cons_zero, Option.map_some, Option.some.injEq]; (first | (go_simp; done) | (go_simp; with_reducible rfl))
        try simp only [Act.put, List.setIfInBounds_toArray, List.set_cons_zero, List.set_cons_succ]
        refine lTake (i := 3) (some 65) (v := ?_) (by rfl) (by kernel_rfl) (by kernel_rfl) (by kernel_rfl) (by kernel_rfl) (by kernel_rfl) (fun _ _ _ h => h) (by rfl) ?_ hH0 ?_
        rotate_left
        · intro w hSw; (try dsimp only at hSw); simp only [List.getElem?_toArray, List.getElem?_cons_succ, List.getElem?_cons_zero, Option.map_some, Option.some.injEq]; (first | (go_simp; done) | (go_simp; with_reducible rfl))
        try simp only [Act.put, List.setIfInBounds_toArray, List.set_cons_zero, List.set_cons_succ]
        refine lTake (i := 5) (some 67) (v := ?_) (by rfl) (by kernel_rfl) (by kernel_rfl) (by kernel_rfl) (by kernel_rfl) (by kernel_rfl) (fun _ _ _ h => h) (by rfl) ?_ hH0 ?_
        rotate_left
        · intro w hSw; (try dsimp only at hSw); simp only [List.getElem?_toArray, List.getElem?_cons_succ, List.getElem?_cons_zero, Option.map_some, Option.some.injEq]; (first | (go_simp; done) | (go_simp; with_reducible rfl))
        try simp only [Act.put, List.setIfInBounds_toArray, List.set_cons_zero, List.set_cons_succ]
        refine lTake (i := 7) (some 69) (v := ?_) (by rfl) (by kernel_rfl) (by kernel_rfl) (by kernel_rfl) (by kernel_rfl) (by kernel_rfl) (fun _ _ _ h => h) (by rfl) ?_ hH0 ?_
        rotate_left
        · intro w hSw; (try dsimp only at hSw); simp only [List.getElem?_toArray, List.getElem?_cons_succ, List.getElem?_cons_zero, Option.map_some, Option.some.injEq]; (first | (go_simp; done) | (go_simp; with_reducible rfl))
        try simp only [Act.put, List.setIfInBounds_toArray, List.set_cons_zero, List.set_cons_succ]
        refine lOne 8 (by kernel_rfl) (LFall.op (by kernel_rfl) (fun K hK => ?_))
        obtain ⟨W2, hrun, hm2, hg2⟩ := (G0.out.map 6 rfl).run_store KI injN Tryd.underlying33 (kn x (by omega)) y
        go_simp
        have G1 := Tre.hid (G0.out.put 6 rfl hg2 hm2)
        clear hrun hm2 hg2
        refine hK.out _ _ ?_
        clear hK K hH0
        try simp only [Act.put, List.setIfInBounds_toArray, List.set_cons_zero, List.set_cons_succ]
        refine lDone (by kernel_rfl) ?_
        generalize hnn : (if (f x).isSome = true then n2 else n2 + 1) = n2' at G1
        have HD := G1
        clear hnn G0 G1
        have FW : Hid (∀ a b, upd f x y a = some b → f a = some b ∨ (a = x ∧ b = y)) := fun a b h => by
          unfold upd at h
          split at h
          · rename_i e; cases h; exact .inr ⟨e, rfl⟩
          · exact .inl h
        obtain ⟨x0, x1, x2, x3, x4⟩ := five HD.out 1 rfl
        go_wp2_with fail
        go_ret
        exact ⟨rfl, v, l, _, _, n1', n2', rfl, .inl rfl, FW.out, ((HD.out.del 0).del 0).del 0⟩
      · have hfx := Tre.hid hfx
        have HLK6 : Hid (∀ (W : World), MapIs Tryd.prog 3 en en W bw n2 f → (Instr.lookup 33 (.map (some bw)) (.int .i64 (x : Int)) true).run Tryd.prog W = .ok (.tuple #[.int .i64 (y : Int), .bool true]) W) := fun W h => by
          have h2 := h.run_look_ok KI injN Tryd.underlying33 (zi W) (kn x (by omega))
          rw [hfx.out] at h2
          exact h2
        go_wp2_with fail
        refine wp_region_keep (S := (fun w' => w'.cell? ⟨bM, 5, none⟩ = some (.map (some bw)) ∧ w'.cell? ⟨w.heap.size, 0, none⟩ = some (.int .i64 (x : Int)) ∧ (Instr.lookup 33 (.map (some bw)) (.int .i64 (x : Int)) true).run Tryd.prog w' = .ok (.tuple #[.int .i64 (y : Int), .bool true]) w')) [] (by kernel_rfl) ?_ (fun hH0 => ?_)
        · exact ⟨HC.out.drew.cell 3 rfl 5 rfl, HC.out.drew.cell 2 rfl 0 rfl, HLK6.out _ (HC.out.drew.map 6 rfl)⟩
        have H0 := Tre.hid HC.out.drew
        generalize hq : World.drew _ = wq0 at H0 hH0 ⊢
        clear hq HC
        refine lPure (i := 0) (some 46) (v := ?_) (by rfl) (by kernel_rfl) (by kernel_rfl) (by kernel_rfl) (by kernel_rfl) (fun _ _ _ h => h) (by rfl) ?_ (keep_of hH0) ?_
        rotate_left
        · intro w; simp only [List.getElem?_toArray, List.getElem?_cons_zero, Option.map_some, Option.some.injEq]; (first | (go_simp; done) | (go_simp; with_reducible rfl))
        try simp only [Act.put, List.setIfInBounds_toArray, List.set_cons_zero, List.set_cons_succ]
        refine lPure (i := 1) (some 47) (v := ?_) (by rfl) (by kernel_rfl) (by kernel_rfl) (by kernel_rfl) (by kernel_rfl) (fun _ _ _ h => h) (by rfl) ?_ (keep_of hH0) ?_
        rotate_left
        · intro w; simp only [List.getElem?_toArray, List.getElem?_cons_succ, List.getElem?_cons_zero, Option.map_some, Option.some.injEq]; (first | (go_simp; done) | (go_simp; with_reducible rfl))
        try simp only [Act.put, List.setIfInBounds_toArray, List.set_cons_zero, List.set_cons_succ]
        refine lPure (i := 2) (some 48) (v := ?_) (by rfl) (by kernel_rfl) (by kernel_rfl) (by kernel_rfl) (by kernel_rfl) (fun _ _ _ h => h) (by rfl) ?_ (keep_of hH0) ?_
        rotate_left
        · intro w; simp only [List.getElem?_toArray, List.getElem?_cons_succ, List.getElem?_cons_zero, Option.map_some, Option.some.injEq]; (first | (go_simp; done) | (go_simp; with_reducible rfl))
        try simp only [Act.put, List.setIfInBounds_toArray, List.set_cons_zero, List.set_cons_succ]
        refine lPure (i := 4) (some 50) (v := ?_) (by rfl) (by kernel_rfl) (by kernel_rfl) (by kernel_rfl) (by kernel_rfl) (fun _ _ _ h => h) (by rfl) ?_ (keep_of hH0) ?_
        rotate_left
        · intro w; simp only [List.getElem?_toArray, List.getElem?_cons_succ, List.getElem?_cons_zero, Option.map_some, Option.some.injEq]; (first | (go_simp; done) | (go_simp; with_reducible rfl))
        try simp only [Act.put, List.setIfInBounds_toArray, List.set_cons_zero, List.set_cons_succ]
        refine lTake (i := 3) (some 49) (v := ?_) (by rfl) (by kernel_rfl) (by kernel_rfl) (by kernel_rfl) (by kernel_rfl) (by kernel_rfl) (fun _ _ _ h => h) (by rfl) ?_ hH0 ?_
        rotate_left
        · intro w hSw; (try dsimp only at hSw); simp only [List.getElem?_toArray, List.getElem?_cons_succ, List.getElem?_cons_zero, Option.map_some, Option.some.injEq]; (first | (go_simp; done) | (go_simp; with_reducible rfl))
        try simp only [Act.put, List.setIfInBounds_toArray, List.set_cons_zero, List.set_cons_succ]
        refine lTake (i := 5) (some 51) (v := ?_) (by rfl) (by kernel_rfl) (by kernel_rfl) (by kernel_rfl) (by kernel_rfl) (by kernel_rfl) (fun _ _ _ h => h) (by rfl) ?_ hH0 ?_
        rotate_left
        · intro w hSw; (try dsimp only at hSw); simp only [List.getElem?_toArray, List.getElem?_cons_succ, List.getElem?_cons_zero, Option.map_some, Option.some.injEq]; (first | (go_simp; done) | (go_simp; with_reducible rfl))
        try simp only [Act.put, List.setIfInBounds_toArray, List.set_cons_zero, List.set_cons_succ]
        refine lTake (i := 6) (some 52) (v := ?_) (by rfl) (by kernel_rfl) (by kernel_rfl) (by kernel_rfl) (by kernel_rfl) (by kernel_rfl) (fun _ _ _ h => h) (by rfl) ?_ hH0 ?_
        rotate_left
        · intro w hSw; (try dsimp only at hSw); simp only [List.getElem?_toArray, List.getElem?_cons_succ, List.getElem?_cons_zero, Option.map_some, Option.some.injEq]; (first | (go_simp; done) | (go_simp; with_reducible rfl))
        try simp only [Act.put, List.setIfInBounds_toArray, List.set_cons_zero, List.set_cons_succ]
        refine lPure (i := 7) (some 45) (v := ?_) (by rfl) (by kernel_rfl) (by kernel_rfl) (by kernel_rfl) (by kernel_rfl) (fun _ _ _ h => h) (by rfl) ?_ (keep_of hH0) ?_
        rotate_left
        · intro w; simp only [List.getElem?_toArray, List.getElem?_cons_succ, List.getElem?_cons_zero, Option.map_some, Option.some.injEq]; (first | (go_simp; done) | (go_simp; with_reducible rfl))
        try simp only [Act.put, List.setIfInBounds_toArray, List.set_cons_zero, List.set_cons_succ]
        refine lPure (i := 8) (some 53) (v := ?_) (by rfl) (by kernel_rfl) (by kernel_rfl) (by kernel_rfl) (by kernel_rfl) (fun _ _ _ h => h) (by rfl) ?_ (keep_of hH0) ?_
        rotate_left
        · intro w; simp only [List.getElem?_toArray, List.getElem?_cons_succ, List.getElem?_cons_zero, Option.map_some, Option.some.injEq]; (first | (go_simp; done) | (go_simp; with_reducible rfl))
        try simp only [Act.put, List.setIfInBounds_toArray, List.set_cons_zero, List.set_cons_succ]
        refine lPure (i := 9) (some 54) (v := ?_) (by rfl) (by kernel_rfl) (by kernel_rfl) (by kernel_rfl) (by kernel_rfl) (fun _ _ _ h => h) (by rfl) ?_ (keep_of hH0) ?_
        rotate_left
        · intro w; simp only [List.getElem?_toArray, List.getElem?_cons_succ, List.getElem?_cons_zero, Option.map_some, Option.some.injEq]; (first | (go_simp; done) | (go_simp; with_reducible rfl))
        try simp only [Act.put, List.setIfInBounds_toArray, List.set_cons_zero, List.set_cons_succ]
        refine lPure (i := 10) (some 7) (v := ?_) (by rfl) (by kernel_rfl) (by kernel_rfl) (by kernel_rfl) (by kernel_rfl) (fun _ _ _ h => h) (by rfl) ?_ (keep_of hH0) ?_
        rotate_left
        · intro w; simp only [List.getElem?_toArray, List.getElem?_cons_succ, List.getElem?_cons_zero, Option.map_some, Option.some.injEq]; (first | (go_simp; done) | (go_simp; with_reducible rfl))
        try simp only [Act.put, List.setIfInBounds_toArray, List.set_cons_zero, List.set_cons_succ]
        refine lPure (i := 11) (some 8) (v := ?_) (by rfl) (by kernel_rfl) (by kernel_rfl) (by kernel_rfl) (by kernel_rfl) (fun _ _ _ h => h) (by rfl) ?_ (keep_of hH0) ?_
        rotate_left
        · intro w; simp only [List.getElem?_toArray, List.getElem?_cons_succ, List.getElem?_cons_zero, Option.map_some, Option.some.injEq]; (first | (go_simp; done) | (go_simp; with_reducible rfl))
        try simp only [Act.put, List.setIfInBounds_toArray, List.set_cons_zero, List.set_cons_succ]
        refine lDone (by kernel_rfl) ?_
        clear hH0
        have HC := H0
        clear H0
        have pb := HC.out.cell 2 rfl 1 rfl
        go_wp2_with fail
        refine wp_region_keep (S := (fun w' => w'.cell? ⟨bM, 5, none⟩ = some (.map (some bw)) ∧ w'.cell? ⟨w.heap.size, 0, none⟩ = some (.int .i64 (x : Int)) ∧ w'.cell? ⟨w.heap.size, 1, none⟩ = some (.int .i64 (y : Int)))) [8] (by kernel_rfl) ?_ (fun hH0 => ?_)
        · exact ⟨HC.out.drew.cell 3 rfl 5 rfl, HC.out.drew.cell 2 rfl 0 rfl, HC.out.drew.cell 2 rfl 1 rfl⟩
        have G0 := Tre.hid HC.out.drew
        generalize hq : World.drew _ = wg0 at G0 hH0 ⊢
        clear hq HC
        refine lPure (i := 0) (some 62) (v := ?_) (by rfl) (by kernel_rfl) (by kernel_rfl) (by kernel_rfl) (by kernel_rfl) (fun _ _ _ h => h) (by rfl) ?_ (keep_of hH0) ?_
        rotate_left
        · intro w; simp only [List.getElem?_toArray, List.getElem?_cons_zero, Option.map_some, Option.some.injEq]; (first | (go_simp; done) | (go_simp; with_reducible rfl))
        try simp only [Act.put, List.setIfInBounds_toArray, List.set_cons_zero, List.set_cons_succ]
        refine lPure (i := 1) (some 63) (v := ?_) (by rfl) (by kernel_rfl) (by kernel_rfl) (by kernel_rfl) (by kernel_rfl) (fun _ _ _ h => h) (by rfl) ?_ (keep_of hH0) ?_
        rotate_left
        · intro w; simp only [List.getElem?_toArray, List.getElem?_cons_succ, List.getElem?_cons_zero, Option.map_some, Option.some.injEq]; (first | (go_simp; done) | (go_simp; with_reducible rfl))
        try simp only [Act.put, List.setIfInBounds_toArray, List.set_cons_zero, List.set_cons_succ]
        refine lPure (i := 2) (some 64) (v := ?_) (by rfl) (by kernel_rfl) (by kernel_rfl) (by kernel_rfl) (by kernel_rfl) (fun _ _ _ h => h) (by rfl) ?_ (keep_of hH0) ?_
        rotate_left
        · intro w; simp only [List.getElem?_toArray, List.getElem?_cons_succ, List.getElem?_cons_zero, Option.map_some, Option.some.injEq]; (first | (go_simp; done) | (go_simp; with_reducible rfl))
        try simp only [Act.put, List.setIfInBounds_toArray, List.set_cons_zero, List.set_cons_succ]
        refine lPure (i := 4) (some 66) (v := ?_) (by rfl) (by kernel_rfl) (by kernel_rfl) (by kernel_rfl) (by kernel_rfl) (fun _ _ _ h => h) (by rfl) ?_ (keep_of hH0) ?_
        rotate_left
        · intro w; simp only [List.getElem?_toArray, List.getElem?_cons_succ, List.getElem?_cons_zero, Option.map_some, Option.some.injEq]; (first | (go_simp; done) | (go_simp; with_reducible rfl))
        try simp only [Act.put, List.setIfInBounds_toArray, List.set_cons_zero, List.set_cons_succ]
        refine lPure (i := 6) (some 68) (v := ?_) (by rfl) (by kernel_rfl) (by kernel_rfl) (by kernel_rfl) (by kernel_rfl) (fun _ _ _ h => h) (by rfl) ?_ (keep_of hH0) ?_
        rotate_left
        · intro w; simp only [List.getElem?_toArray, List.getElem?_cons_succ, List.getElem?_cons_zero, Option.map_some, Option.some.injEq]; (first | (go_simp; done) | (go_simp; with_reducible rfl))
        try simp only [Act.put, List.setIfInBounds_toArray, List.set_cons_zero, List.set_cons_succ]
        refine lTake (i := 3) (some 65) (v := ?_) (by rfl) (by kernel_rfl) (by kernel_rfl) (by kernel_rfl) (by kernel_rfl) (by kernel_rfl) (fun _ _ _ h => h) (by rfl) ?_ hH0 ?_
        rotate_left
        · intro w hSw; (try dsimp only at hSw); simp only [List.getElem?_toArray, List.getElem?_cons_succ, List.getElem?_cons_zero, Option.map_some, Option.some.injEq]; (first | (go_simp; done) | (go_simp; with_reducible rfl))
        try simp only [Act.put, List.setIfInBounds_toArray, List.set_cons_zero, List.set_cons_succ]
        refine lTake (i := 5) (some 67) (v := ?_) (by rfl) (by kernel_rfl) (by kernel_rfl) (by kernel_rfl) (by kernel_rfl) (by kernel_rfl) (fun _ _ _ h => h) (by rfl) ?_ hH0 ?_
        rotate_left
        · intro w hSw; (try dsimp only at hSw); simp only [List.getElem?_toArray, List.getElem?_cons_succ, List.getElem?_cons_zero, Option.map_some, Option.some.injEq]; (first | (go_simp; done) | (go_simp; with_reducible rfl))
        try simp only [Act.put, List.setIfInBounds_toArray, List.set_cons_zero, List.set_cons_succ]
        refine lTake (i := 7) (some 69) (v := ?_) (by rfl) (by kernel_rfl) (by kernel_rfl) (by kernel_rfl) (by kernel_rfl) (by kernel_rfl) (fun _ _ _ h => h) (by rfl) ?_ hH0 ?_
        rotate_left
        · intro w hSw; (try dsimp only at hSw); simp only [List.getElem?_toArray, List.getElem?_cons_succ, List.getElem?_cons_zero, Option.map_some, Option.some.injEq]; (first | (go_simp; done) | (go_simp; with_reducible rfl))
        try simp only [Act.put, List.setIfInBounds_toArray, List.set_cons_zero, List.set_cons_succ]
        refine lOne 8 (by kernel_rfl) (LFall.op (by kernel_rfl) (fun K hK => ?_))
        obtain ⟨W2, hrun, hm2, hg2⟩ := (G0.out.map 6 rfl).run_store KI injN Tryd.underlying33 (kn x (by omega)) y
        go_simp
        have G1 := Tre.hid (G0.out.put 6 rfl hg2 hm2)
        clear hrun hm2 hg2
        refine hK.out _ _ ?_
        clear hK K hH0
        try simp only [Act.put, List.setIfInBounds_toArray, List.set_cons_zero, List.set_cons_succ]
        refine lDone (by kernel_rfl) ?_
        generalize hnn : (if (f x).isSome = true then n2 else n2 + 1) = n2' at G1
        have HD := G1
        clear hnn G0 G1
        have FW : Hid (∀ a b, upd f x y a = some b → f a = some b ∨ (a = x ∧ b = y)) := fun a b h => by
          unfold upd at h
          split at h
          · rename_i e; cases h; exact .inr ⟨e, rfl⟩
          · exact .inl h
        obtain ⟨x0, x1, x2, x3, x4⟩ := five HD.out 1 rfl
        go_wp2_with fail
        go_ret
        exact ⟨rfl, v, l, _, _, n1', n2', rfl, .inl rfl, FW.out, ((HD.out.del 0).del 0).del 0⟩
    · have e1 : (kd == 1) = false := by simp [hk]
      have HKK := Tre.hid hk
      clear hk
      cases op
      · skip
        have HD := HC
        have FW : Hid (∀ a b, f a = some b → f a = some b ∨ (a = x ∧ b = y)) := fun a b h => .inl h
        skip
        obtain ⟨x0, x1, x2, x3, x4⟩ := five HD.out 1 rfl
        obtain ⟨y0, y1, y2, y3, y4⟩ := five HD.out 0 rfl
        go_wp2_with fail
        refine (equalStrs lx ly dx dy ls ls _ (HXL.out.below HD.out.below) (HYW.out _ (HD.out.at_ 7 rfl) (HD.out.at_ 8 rfl)).2 (by omega) (by omega)).mono ?_
        rintro e w8 ⟨rfl, b8⟩
        rw [decide_eq_true (rfl : ls = ls)]
        have HD := Tre.hid (HD.out.quiet b8)
        clear b8
        obtain ⟨x0, x1, x2, x3, x4⟩ := five HD.out 1 rfl
        obtain ⟨y0, y1, y2, y3, y4⟩ := five HD.out 0 rfl
        go_wp2_with fail
        have HA : Mem w0 _ (cellsR bM 64 #[.slice (some ⟨b1, o1, none⟩) g.ns.length cg, .int .i64 g.root, .slice (some ⟨b2, 0, none⟩) hn ch, .int .i64 hr, .map (some bm), .map (some bw), v] :: rowR 66 2 v l.length (pcells l) :: mapR Tryd.prog 66 ep (fun _ : Unit => .bool true) bm n1' (upd m (x, y) ()) :: mapR Tryd.prog 3 en en bw n2 (f) :: nodesR (.slice (some ⟨b2, 0, none⟩) hn ch) dh :: kidsR dh :: rs) := ((HD.out.del 0).del 0).del 0
        have CA := args_any ⟨kd, nm, as1, ls, false⟩ ⟨kd, nm, as2, ls, false⟩ ax ay lx ly cx cy dx dy xs ys bM _ _ _ _ _ _ v l _ w0 _ HA HXA.out HXL.out (fun W r1 r2 r3 r4 h => HYW.out W (h.at_ 6 rfl) (h.at_ 7 rfl)) HXE.out HYE.out HAL.out rfl HK3.out hb1 hb2 hll
        have HCA := Tre.hid CA
        clear HA CA
        refine HCA.out.mono ?_
        rintro e w9 ⟨rfl, v', M9⟩
        have HM9 := Tre.hid M9
        clear M9
        go_wp2_with fail
        go_ret
        exact ⟨rfl, v', _, _, _, n1', n2, rfl, .inr rfl, FW.out, HM9.out⟩
      · rcases HFX.out with hfx | hfx
        · have hfx := Tre.hid hfx
          have HLK6 : Hid (∀ (W : World), MapIs Tryd.prog 3 en en W bw n2 f → (Instr.lookup 33 (.map (some bw)) (.int .i64 (x : Int)) true).run Tryd.prog W = .ok (.tuple #[.int .i64 0, .bool false]) W) := fun W h => by
            have h2 := h.run_look_ok KI injN Tryd.underlying33 (zi W) (kn x (by omega))
            rw [hfx.out] at h2
            exact h2
          go_wp2_with fail
          refine wp_region_keep (S := (fun w' => w'.cell? ⟨bM, 5, none⟩ = some (.map (some bw)) ∧ w'.cell? ⟨w.heap.size, 0, none⟩ = some (.int .i64 (x : Int)) ∧ (Instr.lookup 33 (.map (some bw)) (.int .i64 (x : Int)) true).run Tryd.prog w' = .ok (.tuple #[.int .i64 0, .bool false]) w')) [] (by kernel_rfl) ?_ (fun hH0 => ?_)
          · exact ⟨HC.out.drew.cell 3 rfl 5 rfl, HC.out.drew.cell 2 rfl 0 rfl, HLK6.out _ (HC.out.drew.map 6 rfl)⟩
          have H0 := Tre.hid HC.out.drew
          generalize hq : World.drew _ = wq0 at H0 hH0 ⊢
          clear hq HC
          refine lPure (i := 0) (some 46) (v := ?_) (by rfl) (by kernel_rfl) (by kernel_rfl) (by kernel_rfl) (by kernel_rfl) (fun _ _ _ h => h) (by rfl) ?_ (keep_of hH0) ?_
          rotate_left
          · intro w; simp only [List.getElem?_toArray, List.getElem?_cons_zero, Option.map_some, Option.some.injEq]; (first | (go_simp; done) | (go_simp; with_reducible rfl))
          try simp only [Act.put, List.setIfInBounds_toArray, List.set_cons_zero, List.set_cons_succ]
          refine lPure (i := 1) (some 47) (v := ?_) (by rfl) (by kernel_rfl) (by kernel_rfl) (by kernel_rfl) (by kernel_rfl) (fun _ _ _ h => h) (by rfl) ?_ (keep_of hH0) ?_
          rotate_left
          · intro w; simp only [List.getElem?_toArray, List.getElem?_cons_succ, List.getElem?_cons_zero, Option.map_some, Option.some.injEq]; (first | (go_simp; done) | (go_simp; with_reducible rfl))
          try simp only [Act.put, List.setIfInBounds_toArray, List.set_cons_zero, List.set_cons_succ]
          refine lPure (i := 2) (some 48) (v := ?_) (by rfl) (by kernel_rfl) (by kernel_rfl) (by kernel_rfl) (by kernel_rfl) (fun _ _ _ h => h) (by rfl) ?_ (keep_of hH0) ?_
          rotate_left
          · intro w; simp only [List.getElem?_toArray, List.getElem?_cons_succ, List.getElem?_cons_zero, Option.map_some, Option.some.injEq]; (first | (go_simp; done) | (go_simp; with_reducible rfl))
          try simp only [Act.put, List.setIfInBounds_toArray, List.set_cons_zero, List.set_cons_succ]
          refine lPure (i := 4) (some 50) (v := ?_) (by rfl) (by kernel_rfl) (by kernel_rfl) (by kernel_rfl) (by kernel_rfl) (fun _ _ _ h => h) (by rfl) ?_ (keep_of hH0) ?_
          rotate_left
          · intro w; simp only [List.getElem?_toArray, List.getElem?_cons_succ, List.getElem?_cons_zero, Option.map_some, Option.some.injEq]; (first | (go_simp; done) | (go_simp; with_reducible rfl))
          try simp only [Act.put, List.setIfInBounds_toArray, List.set_cons_zero, List.set_cons_succ]
          refine lTake (i := 3) (some 49) (v := ?_) (by rfl) (by kernel_rfl) (by kernel_rfl) (by kernel_rfl) (by kernel_rfl) (by kernel_rfl) (fun _ _ _ h => h) (by rfl) ?_ hH0 ?_
          rotate_left
          · intro w hSw; (try dsimp only at hSw); simp only [List.getElem?_toArray, List.getElem?_cons_succ, List.getElem?_cons_zero, Option.map_some, Option.some.injEq]; (first | (go_simp; done) | (go_simp; with_reducible rfl))
          try simp only [Act.put, List.setIfInBounds_toArray, List.set_cons_zero, List.set_cons_succ]
          refine lTake (i := 5) (some 51) (v := ?_) (by rfl) (by kernel_rfl) (by kernel_rfl) (by kernel_rfl) (by kernel_rfl) (by kernel_rfl) (fun _ _ _ h => h) (by rfl) ?_ hH0 ?_
          rotate_left
          · intro w hSw; (try dsimp only at hSw); simp only [List.getElem?_toArray, List.getElem?_cons_succ, List.getElem?_cons_zero, Option.map_some, Option.some.injEq]; (first | (go_simp; done) | (go_simp; with_reducible rfl))
          try simp only [Act.put, List.setIfInBounds_toArray, List.set_cons_zero, List.set_cons_succ]
          refine lTake (i := 6) (some 52) (v := ?_) (by rfl) (by kernel_rfl) (by kernel_rfl) (by kernel_rfl) (by kernel_rfl) (by kernel_rfl) (fun _ _ _ h => h) (by rfl) ?_ hH0 ?_
          rotate_left
          · intro w hSw; (try dsimp only at hSw); simp only [List.getElem?_toArray, List.getElem?_cons_succ, List.getElem?_cons_zero, Option.map_some, Option.some.injEq]; (first | (go_simp; done) | (go_simp; with_reducible rfl))
          try simp only [Act.put, List.setIfInBounds_toArray, List.set_cons_zero, List.set_cons_succ]
          refine lPure (i := 7) (some 45) (v := ?_) (by rfl) (by kernel_rfl) (by kernel_rfl) (by kernel_rfl) (by kernel_rfl) (fun _ _ _ h => h) (by rfl) ?_ (keep_of hH0) ?_
          rotate_left
          · intro w; simp only [List.getElem?_toArray, List.getElem?_cons_succ, List.getElem?_cons_zero, Option.map_some, Option.some.injEq]; (first | (go_simp; done) | (go_simp; with_reducible rfl))
          try simp only [Act.put, List.setIfInBounds_toArray, List.set_cons_zero, List.set_cons_succ]
          refine lPure (i := 8) (some 53) (v := ?_) (by rfl) (by kernel_rfl) (by kernel_rfl) (by kernel_rfl) (by kernel_rfl) (fun _ _ _ h => h) (by rfl) ?_ (keep_of hH0) ?_
          rotate_left
          · intro w; simp only [List.getElem?_toArray, List.getElem?_cons_succ, List.getElem?_cons_zero, Option.map_some, Option.some.injEq]; (first | (go_simp; done) | (go_simp; with_reducible rfl))
          try simp only [Act.put, List.setIfInBounds_toArray, List.set_cons_zero, List.set_cons_succ]
          refine lPure (i := 9) (some 54) (v := ?_) (by rfl) (by kernel_rfl) (by kernel_rfl) (by kernel_rfl) (by kernel_rfl) (fun _ _ _ h => h) (by rfl) ?_ (keep_of hH0) ?_
          rotate_left
          · intro w; simp only [List.getElem?_toArray, List.getElem?_cons_succ, List.getElem?_cons_zero, Option.map_some, Option.some.injEq]; (first | (go_simp; done) | (go_simp; with_reducible rfl))
          try simp only [Act.put, List.setIfInBounds_toArray, List.set_cons_zero, List.set_cons_succ]
          refine lPure (i := 10) (some 7) (v := ?_) (by rfl) (by kernel_rfl) (by kernel_rfl) (by kernel_rfl) (by kernel_rfl) (fun _ _ _ h => h) (by rfl) ?_ (keep_of hH0) ?_
          rotate_left
          · intro w; simp only [List.getElem?_toArray, List.getElem?_cons_succ, List.getElem?_cons_zero, Option.map_some, Option.some.injEq]; (first | (go_simp; done) | (go_simp; with_reducible rfl))
          try simp only [Act.put, List.setIfInBounds_toArray, List.set_cons_zero, List.set_cons_succ]
          refine lPure (i := 11) (some 8) (v := ?_) (by rfl) (by kernel_rfl) (by kernel_rfl) (by kernel_rfl) (by kernel_rfl) (fun _ _ _ h => h) (by rfl) ?_ (keep_of hH0) ?_
          rotate_left
          · intro w; simp only [List.getElem?_toArray, List.getElem?_cons_succ, List.getElem?_cons_zero, Option.map_some, Option.some.injEq]; (first | (go_simp; done) | (go_simp; with_reducible rfl))
          try simp only [Act.put, List.setIfInBounds_toArray, List.set_cons_zero, List.set_cons_succ]
          refine lDone (by kernel_rfl) ?_
          clear hH0
          have HC := H0
          clear H0
          go_wp2_with fail
          refine wp_region_keep (S := (fun w' => w'.cell? ⟨bM, 5, none⟩ = some (.map (some bw)) ∧ w'.cell? ⟨w.heap.size, 0, none⟩ = some (.int .i64 (x : Int)) ∧ w'.cell? ⟨w.heap.size, 1, none⟩ = some (.int .i64 (y : Int)))) [8] (by kernel_rfl) ?_ (fun hH0 => ?_)
          · exact ⟨HC.out.drew.cell 3 rfl 5 rfl, HC.out.drew.cell 2 rfl 0 rfl, HC.out.drew.cell 2 rfl 1 rfl⟩
          have G0 := Tre.hid HC.out.drew
          generalize hq : World.drew _ = wg0 at G0 hH0 ⊢
          clear hq HC
          refine lPure (i := 0) (some 62) (v := ?_) (by rfl) (by kernel_rfl) (by kernel_rfl) (by kernel_rfl) (by kernel_rfl) (fun _ _ _ h => h) (by rfl) ?_ (keep_of hH0) ?_
          rotate_left
          · intro w; simp only [List.getElem?_toArray, List.getElem?_cons_zero, Option.map_some, Option.some.injEq]; (first | (go_simp; done) | (go_simp; with_reducible rfl))
          try simp only [Act.put, List.setIfInBounds_toArray, List.set_cons_zero, List.set_cons_succ]
          refine lPure (i := 1) (some 63) (v := ?_) (by rfl) (by kernel_rfl) (by kernel_rfl) (by kernel_rfl) (by kernel_rfl) (fun _ _ _ h => h) (by rfl) ?_ (keep_of hH0) ?_
          rotate_left
          · intro w; simp only [List.getElem?_toArray, List.getElem?_cons_succ, List.getElem?_cons_zero, Option.map_some, Option.some.injEq]; (first | (go_simp; done) | (go_simp; with_reducible rfl))
          try simp only [Act.put, List.setIfInBounds_toArray, List.set_cons_zero, List.set_cons_succ]
          refine lPure (i := 2) (some 64) (v := ?_) (by rfl) (by kernel_rfl) (by kernel_rfl) (by kernel_rfl) (by kernel_rfl) (fun _ _ _ h => h) (by rfl) ?_ (keep_of hH0) ?_
          rotate_left
          · intro w; simp only [List.getElem?_toArray, List.getElem?_cons_succ, List.getElem?_cons_zero, Option.map_some, Option.some.injEq]; (first | (go_simp; done) | (go_simp; with_reducible rfl))
          try simp only [Act.put, List.setIfInBounds_toArray, List.set_cons_zero, List.set_cons_succ]
          refine lPure (i := 4) (some 66) (v := ?_) (by rfl) (by kernel_rfl) (by kernel_rfl) (by kernel_rfl) (by kernel_rfl) (fun _ _ _ h => h) (by rfl) ?_ (keep_of hH0) ?_
          rotate_left
          · intro w; simp only [List.getElem?_toArray, List.getElem?_cons_succ, List.getElem?_cons_zero, Option.map_some, Option.some.injEq]; (first | (go_simp; done) | (go_simp; with_reducible rfl))
          try simp only [Act.put, List.setIfInBounds_toArray, List.set_cons_zero, List.set_cons_succ]
          refine lPure (i := 6) (some 68) (v := ?_) (by rfl) (by kernel_rfl) (by kernel_rfl) (by kernel_rfl) (by kernel_rfl) (fun _ _ _ h => h) (by rfl) ?_ (keep_of hH0) ?_
          rotate_left
          · intro w; simp only [List.getElem?_toArray, List.getElem?_cons_succ, List.getElem?_cons_zero, Option.map_some, Option.some.injEq]; (first | (go_simp; done) | (go_simp; with_reducible rfl))
          try simp only [Act.put, List.setIfInBounds_toArray, List.set_cons_zero, List.set_cons_succ]
          refine lTake (i := 3) (some 65) (v := ?_) (by rfl) (by kernel_rfl) (by kernel_rfl) (by kernel_rfl) (by kernel_rfl) (by kernel_rfl) (fun _ _ _ h => h) (by rfl) ?_ hH0 ?_
          rotate_left
          · intro w hSw; (try dsimp only at hSw); simp only [List.getElem?_toArray, List.getElem?_cons_succ, List.getElem?_cons_zero, Option.map_some, Option.some.injEq]; (first | (go_simp; done) | (go_simp; with_reducible rfl))
          try simp only [Act.put, List.setIfInBounds_toArray, List.set_cons_zero, List.set_cons_succ]
          refine lTake (i := 5) (some 67) (v := ?_) (by rfl) (by kernel_rfl) (by kernel_rfl) (by kernel_rfl) (by kernel_rfl) (by kernel_rfl) (fun _ _ _ h => h) (by rfl) ?_ hH0 ?_
          rotate_left
          · intro w hSw; (try dsimp only at hSw); simp only [List.getElem?_toArray, List.getElem?_cons_succ, List.getElem?_cons_zero, Option.map_some, Option.some.injEq]; (first | (go_simp; done) | (go_simp; with_reducible rfl))
          try simp only [Act.put, List.setIfInBounds_toArray, List.set_cons_zero, List.set_cons_succ]
          refine lTake (i := 7) (some 69) (v := ?_) (by rfl) (by kernel_rfl) (by kernel_rfl) (by kernel_rfl) (by kernel_rfl) (by kernel_rfl) (fun _ _ _ h => h) (by rfl) ?_ hH0 ?_
          rotate_left
          · intro w hSw; (try dsimp only at hSw); simp only [List.getElem?_toArray, List.getElem?_cons_succ, List.getElem?_cons_zero, Option.map_some, Option.some.injEq]; (first | (go_simp; done) | (go_simp; with_reducible rfl))
          try simp only [Act.put, List.setIfInBounds_toArray, List.set_cons_zero, List.set_cons_succ]
          refine lOne 8 (by kernel_rfl) (LFall.op (by kernel_rfl) (fun K hK => ?_))
          obtain ⟨W2, hrun, hm2, hg2⟩ := (G0.out.map 6 rfl).run_store KI injN Tryd.underlying33 (kn x (by omega)) y
          go_simp
          have G1 := Tre.hid (G0.out.put 6 rfl hg2 hm2)
          clear hrun hm2 hg2
          refine hK.out _ _ ?_
          clear hK K hH0
          try simp only [Act.put, List.setIfInBounds_toArray, List.set_cons_zero, List.set_cons_succ]
          refine lDone (by kernel_rfl) ?_
          generalize hnn : (if (f x).isSome = true then n2 else n2 + 1) = n2' at G1
          have HD := G1
          clear hnn G0 G1
          have FW : Hid (∀ a b, upd f x y a = some b → f a = some b ∨ (a = x ∧ b = y)) := fun a b h => by
            unfold upd at h
            split at h
            · rename_i e; cases h; exact .inr ⟨e, rfl⟩
            · exact .inl h
          obtain ⟨x0, x1, x2, x3, x4⟩ := five HD.out 1 rfl
          obtain ⟨y0, y1, y2, y3, y4⟩ := five HD.out 0 rfl
          go_wp2_with fail
          have HA : Mem w0 _ (cellsR bM 64 #[.slice (some ⟨b1, o1, none⟩) g.ns.length cg, .int .i64 g.root, .slice (some ⟨b2, 0, none⟩) hn ch, .int .i64 hr, .map (some bm), .map (some bw), v] :: rowR 66 2 v l.length (pcells l) :: mapR Tryd.prog 66 ep (fun _ : Unit => .bool true) bm n1' (upd m (x, y) ()) :: mapR Tryd.prog 3 en en bw n2' (upd f x y) :: nodesR (.slice (some ⟨b2, 0, none⟩) hn ch) dh :: kidsR dh :: rs) := ((HD.out.del 0).del 0).del 0
          have CA := args_any ⟨kd, nm, as1, ls, true⟩ ⟨kd, nm, as2, ls, true⟩ ax ay lx ly cx cy dx dy xs ys bM _ _ _ _ _ _ v l _ w0 _ HA HXA.out HXL.out (fun W r1 r2 r3 r4 h => HYW.out W (h.at_ 6 rfl) (h.at_ 7 rfl)) HXE.out HYE.out HAL.out rfl HK3.out hb1 hb2 hll
          have HCA := Tre.hid CA
          clear HA CA
          refine HCA.out.mono ?_
          rintro e w9 ⟨rfl, v', M9⟩
          have HM9 := Tre.hid M9
          clear M9
          go_wp2_with fail
          go_ret
          exact ⟨rfl, v', _, _, _, n1', n2', rfl, .inr rfl, FW.out, HM9.out⟩
        · have hfx := Tre.hid hfx
          have HLK6 : Hid (∀ (W : World), MapIs Tryd.prog 3 en en W bw n2 f → (Instr.lookup 33 (.map (some bw)) (.int .i64 (x : Int)) true).run Tryd.prog W = .ok (.tuple #[.int .i64 (y : Int), .bool true]) W) := fun W h => by
            have h2 := h.run_look_ok KI injN Tryd.underlying33 (zi W) (kn x (by omega))
            rw [hfx.out] at h2
            exact h2
          go_wp2_with fail
          refine wp_region_keep (S := (fun w' => w'.cell? ⟨bM, 5, none⟩ = some (.map (some bw)) ∧ w'.cell? ⟨w.heap.size, 0, none⟩ = some (.int .i64 (x : Int)) ∧ (Instr.lookup 33 (.map (some bw)) (.int .i64 (x : Int)) true).run Tryd.prog w' = .ok (.tuple #[.int .i64 (y : Int), .bool true]) w')) [] (by kernel_rfl) ?_ (fun hH0 => ?_)
          · exact ⟨HC.out.drew.cell 3 rfl 5 rfl, HC.out.drew.cell 2 rfl 0 rfl, HLK6.out _ (HC.out.drew.map 6 rfl)⟩
          have H0 := Tre.hid HC.out.drew
          generalize hq : World.drew _ = wq0 at H0 hH0 ⊢
          clear hq HC
          refine lPure (i := 0) (some 46) (v := ?_) (by rfl) (by kernel_rfl) (by kernel_rfl) (by kernel_rfl) (by kernel_rfl) (fun _ _ _ h => h) (by rfl) ?_ (keep_of hH0) ?_
          rotate_left
          · intro w; simp only [List.getElem?_toArray, List.getElem?_cons_zero, Option.map_some, Option.some.injEq]; (first | (go_simp; done) | (go_simp; with_reducible rfl))
          try simp only [Act.put, List.setIfInBounds_toArray, List.set_cons_zero, List.set_cons_succ]
          refine lPure (i := 1) (some 47) (v := ?_) (by rfl) (by kernel_rfl) (by kernel_rfl) (by kernel_rfl) (by kernel_rfl) (fun _ _ _ h => h) (by rfl) ?_ (keep_of hH0) ?_
          rotate_left
          · intro w; simp only [List.getElem?_toArray, List.getElem?_cons_succ, List.getElem?_cons_zero, Option.map_some, Option.some.injEq]; (first | (go_simp; done) | (go_simp; with_reducible rfl))
          try simp only [Act.put, List.setIfInBounds_toArray, List.set_cons_zero, List.set_cons_succ]
          refine lPure (i := 2) (some 48) (v := ?_) (by rfl) (by kernel_rfl) (by kernel_rfl) (by kernel_rfl) (by kernel_rfl) (fun _ _ _ h => h) (by rfl) ?_ (keep_of hH0) ?_
          rotate_left
          · intro w; simp only [List.getElem?_toArray, List.getElem?_cons_succ, List.getElem?_cons_zero, Option.map_some, Option.some.injEq]; (first | (go_simp; done) | (go_simp; with_reducible rfl))
          try simp only [Act.put, List.setIfInBounds_toArray, List.set_cons_zero, List.set_cons_succ]
          refine lPure (i := 4) (some 50) (v := ?_) (by rfl) (by kernel_rfl) (by kernel_rfl) (by kernel_rfl) (by kernel_rfl) (fun _ _ _ h => h) (by rfl) ?_ (keep_of hH0) ?_
          rotate_left
          · intro w; simp only [List.getElem?_toArray, List.getElem?_cons_succ, List.getElem?_cons_zero, Option.map_some, Option.some.injEq]; (first | (go_simp; done) | (go_simp; with_reducible rfl))
          try simp only [Act.put, List.setIfInBounds_toArray, List.set_cons_zero, List.set_cons_succ]
          refine lTake (i := 3) (some 49) (v := ?_) (by rfl) (by kernel_rfl) (by kernel_rfl) (by kernel_rfl) (by kernel_rfl) (by kernel_rfl) (fun _ _ _ h => h) (by rfl) ?_ hH0 ?_
          rotate_left
          · intro w hSw; (try dsimp only at hSw); simp only [List.getElem?_toArray, List.getElem?_cons_succ, List.getElem?_cons_zero, Option.map_some, Option.some.injEq]; (first | (go_simp; done) | (go_simp; with_reducible rfl))
          try simp only [Act.put, List.setIfInBounds_toArray, List.set_cons_zero, List.set_cons_succ]
          refine lTake (i := 5) (some 51) (v := ?_) (by rfl) (by kernel_rfl) (by kernel_rfl) (by kernel_rfl) (by kernel_rfl) (by kernel_rfl) (fun _ _ _ h => h) (by rfl) ?_ hH0 ?_
          rotate_left
          · intro w hSw; (try dsimp only at hSw); simp only [List.getElem?_toArray, List.getElem?_cons_succ, List.getElem?_cons_zero, Option.map_some, Option.some.injEq]; (first | (go_simp; done) | (go_simp; with_reducible rfl))
          try simp only [Act.put, List.setIfInBounds_toArray, List.set_cons_zero, List.set_cons_succ]
          refine lTake (i := 6) (some 52) (v := ?_) (by rfl) (by kernel_rfl) (by kernel_rfl) (by kernel_rfl) (by kernel_rfl) (by kernel_rfl) (fun _ _ _ h => h) (by rfl) ?_ hH0 ?_
          rotate_left
          · intro w hSw; (try dsimp only at hSw); simp only [List.getElem?_toArray, List.getElem?_cons_succ, List.getElem?_cons_zero, Option.map_some, Option.some.injEq]; (first | (go_simp; done) | (go_simp; with_reducible rfl))
          try simp only [Act.put, List.setIfInBounds_toArray, List.set_cons_zero, List.set_cons_succ]
          refine lPure (i := 7) (some 45) (v := ?_) (by rfl) (by kernel_rfl) (by kernel_rfl) (by kernel_rfl) (by kernel_rfl) (fun _ _ _ h => h) (by rfl) ?_ (keep_of hH0) ?_
          rotate_left
          · intro w; simp only [List.getElem?_toArray, List.getElem?_cons_succ, List.getElem?_cons_zero, Option.map_some, Option.some.injEq]; (first | (go_simp; done) | (go_simp; with_reducible rfl))
          try simp only [Act.put, List.setIfInBounds_toArray, List.set_cons_zero, List.set_cons_succ]
          refine lPure (i := 8) (some 53) (v := ?_) (by rfl) (by kernel_rfl) (by kernel_rfl) (by kernel_rfl) (by kernel_rfl) (fun _ _ _ h => h) (by rfl) ?_ (keep_of hH0) ?_
          rotate_left
          · intro w; simp only [List.getElem?_toArray, List.getElem?_cons_succ, List.getElem?_cons_zero, Option.map_some, Option.some.injEq]; (first | (go_simp; done) | (go_simp; with_reducible rfl))
          try simp only [Act.put, List.setIfInBounds_toArray, List.set_cons_zero, List.set_cons_succ]
          refine lPure (i := 9) (some 54) (v := ?_) (by rfl) (by kernel_rfl) (by kernel_rfl) (by kernel_rfl) (by kernel_rfl) (fun _ _ _ h => h) (by rfl) ?_ (keep_of hH0) ?_
          rotate_left
          · intro w; simp only [List.getElem?_toArray, List.getElem?_cons_succ, List.getElem?_cons_zero, Option.map_some, Option.some.injEq]; (first | (go_simp; done) | (go_simp; with_reducible rfl))
          try simp only [Act.put, List.setIfInBounds_toArray, List.set_cons_zero, List.set_cons_succ]
          refine lPure (i := 10) (some 7) (v := ?_) (by rfl) (by kernel_rfl) (by kernel_rfl) (by kernel_rfl) (by kernel_rfl) (fun _ _ _ h => h) (by rfl) ?_ (keep_of hH0) ?_
          rotate_left
          · intro w; simp only [List.getElem?_toArray, List.getElem?_cons_succ, List.getElem?_cons_zero, Option.map_some, Option.some.injEq]; (first | (go_simp; done) | (go_simp; with_reducible rfl))
          try simp only [Act.put, List.setIfInBounds_toArray, List.set_cons_zero, List.set_cons_succ]
          refine lPure (i := 11) (some 8) (v := ?_) (by rfl) (by kernel_rfl) (by kernel_rfl) (by kernel_rfl) (by kernel_rfl) (fun _ _ _ h => h) (by rfl) ?_ (keep_of hH0) ?_
          rotate_left
          · intro w; simp only [List.getElem?_toArray, List.getElem?_cons_succ, List.getElem?_cons_zero, Option.map_some, Option.some.injEq]; (first | (go_simp; done) | (go_simp; with_reducible rfl))
          try simp only [Act.put, List.setIfInBounds_toArray, List.set_cons_zero, List.set_cons_succ]
          refine lDone (by kernel_rfl) ?_
          clear hH0
          have HC := H0
          clear H0
          have pb := HC.out.cell 2 rfl 1 rfl
          go_wp2_with fail
          refine wp_region_keep (S := (fun w' => w'.cell? ⟨bM, 5, none⟩ = some (.map (some bw)) ∧ w'.cell? ⟨w.heap.size, 0, none⟩ = some (.int .i64 (x : Int)) ∧ w'.cell? ⟨w.heap.size, 1, none⟩ = some (.int .i64 (y : Int)))) [8] (by kernel_rfl) ?_ (fun hH0 => ?_)
          · exact ⟨HC.out.drew.cell 3 rfl 5 rfl, HC.out.drew.cell 2 rfl 0 rfl, HC.out.drew.cell 2 rfl 1 rfl⟩
          have G0 := Tre.hid HC.out.drew
          generalize hq : World.drew _ = wg0 at G0 hH0 ⊢
          clear hq HC
          refine lPure (i := 0) (some 62) (v := ?_) (by rfl) (by kernel_rfl) (by kernel_rfl) (by kernel_rfl) (by kernel_rfl) (fun _ _ _ h => h) (by rfl) ?_ (keep_of hH0) ?_
          rotate_left
          · intro w; simp only [List.getElem?_toArray, List.getElem?_cons_zero, Option.map_some, Option.some.injEq]; (first | (go_simp; done) | (go_simp; with_reducible rfl))
          try simp only [Act.put, List.setIfInBounds_toArray, List.set_cons_zero, List.set_cons_succ]
          refine lPure (i := 1) (some 63) (v := ?_) (by rfl) (by kernel_rfl) (by kernel_rfl) (by kernel_rfl) (by kernel_rfl) (fun _ _ _ h => h) (by rfl) ?_ (keep_of hH0) ?_
          rotate_left
          · intro w; simp only [List.getElem?_toArray, List.getElem?_cons_succ, List.getElem?_cons_zero, Option.map_some, Option.some.injEq]; (first | (go_simp; done) | (go_simp; with_reducible rfl))
          try simp only [Act.put, List.setIfInBounds_toArray, List.set_cons_zero, List.set_cons_succ]
          refine lPure (i := 2) (some 64) (v := ?_) (by rfl) (by kernel_rfl) (by kernel_rfl) (by kernel_rfl) (by kernel_rfl) (fun _ _ _ h => h) (by rfl) ?_ (keep_of hH0) ?_
          rotate_left
          · intro w; simp only [List.getElem?_toArray, List.getElem?_cons_succ, List.getElem?_cons_zero, Option.map_some, Option.some.injEq]; (first | (go_simp; done) | (go_simp; with_reducible rfl))
          try simp only [Act.put, List.setIfInBounds_toArray, List.set_cons_zero, List.set_cons_succ]
          refine lPure (i := 4) (some 66) (v := ?_) (by rfl) (by kernel_rfl) (by kernel_rfl) (by kernel_rfl) (by kernel_rfl) (fun _ _ _ h => h) (by rfl) ?_ (keep_of hH0) ?_
          rotate_left
          · intro w; simp only [List.getElem?_toArray, List.getElem?_cons_succ, List.getElem?_cons_zero, Option.map_some, Option.some.injEq]; (first | (go_simp; done) | (go_simp; with_reducible rfl))
          try simp only [Act.put, List.setIfInBounds_toArray, List.set_cons_zero, List.set_cons_succ]
          refine lPure (i := 6) (some 68) (v := ?_) (by rfl) (by kernel_rfl) (by kernel_rfl) (by kernel_rfl) (by kernel_rfl) (fun _ _ _ h => h) (by rfl) ?_ (keep_of hH0) ?_
          rotate_left
          · intro w; simp only [List.getElem?_toArray, List.getElem?_cons_succ, List.getElem?_cons_zero, Option.map_some, Option.some.injEq]; (first | (go_simp; done) | (go_simp; with_reducible rfl))
          try simp only [Act.put, List.setIfInBounds_toArray, List.set_cons_zero, List.set_cons_succ]
          refine lTake (i := 3) (some 65) (v := ?_) (by rfl) (by kernel_rfl) (by kernel_rfl) (by kernel_rfl) (by kernel_rfl) (by kernel_rfl) (fun _ _ _ h => h) (by rfl) ?_ hH0 ?_
          rotate_left
          · intro w hSw; (try dsimp only at hSw); simp only [List.getElem?_toArray, List.getElem?_cons_succ, List.getElem?_cons_zero, Option.map_some, Option.some.injEq]; (first | (go_simp; done) | (go_simp; with_reducible rfl))
          try simp only [Act.put, List.setIfInBounds_toArray, List.set_cons_zero, List.set_cons_succ]
          refine lTake (i := 5) (some 67) (v := ?_) (by rfl) (by kernel_rfl) (by kernel_rfl) (by kernel_rfl) (by kernel_rfl) (by kernel_rfl) (fun _ _ _ h => h) (by rfl) ?_ hH0 ?_
          rotate_left
          · intro w hSw; (try dsimp only at hSw); simp only [List.getElem?_toArray, List.getElem?_cons_succ, List.getElem?_cons_zero, Option.map_some, Option.some.injEq]; (first | (go_simp; done) | (go_simp; with_reducible rfl))
          try simp only [Act.put, List.setIfInBounds_toArray, List.set_cons_zero, List.set_cons_succ]
          refine lTake (i := 7) (some 69) (v := ?_) (by rfl) (by kernel_rfl) (by kernel_rfl) (by kernel_rfl) (by kernel_rfl) (by kernel_rfl) (fun _ _ _ h => h) (by rfl) ?_ hH0 ?_
          rotate_left
          · intro w hSw; (try dsimp only at hSw); simp only [List.getElem?_toArray, List.getElem?_cons_succ, List.getElem?_cons_zero, Option.map_some, Option.some.injEq]; (first | (go_simp; done) | (go_simp; with_reducible rfl))
          try simp only [Act.put, List.setIfInBounds_toArray, List.set_cons_zero, List.set_cons_succ]
          refine lOne 8 (by kernel_rfl) (LFall.op (by kernel_rfl) (fun K hK => ?_))
          obtain ⟨W2, hrun, hm2, hg2⟩ := (G0.out.map 6 rfl).run_store KI injN Tryd.underlying33 (kn x (by omega)) y
          go_simp
          have G1 := Tre.hid (G0.out.put 6 rfl hg2 hm2)
          clear hrun hm2 hg2
          refine hK.out _ _ ?_
          clear hK K hH0
          try simp only [Act.put, List.setIfInBounds_toArray, List.set_cons_zero, List.set_cons_succ]
          refine lDone (by kernel_rfl) ?_
          generalize hnn : (if (f x).isSome = true then n2 else n2 + 1) = n2' at G1
          have HD := G1
          clear hnn G0 G1
          have FW : Hid (∀ a b, upd f x y a = some b → f a = some b ∨ (a = x ∧ b = y)) := fun a b h => by
            unfold upd at h
            split at h
            · rename_i e; cases h; exact .inr ⟨e, rfl⟩
            · exact .inl h
          obtain ⟨x0, x1, x2, x3, x4⟩ := five HD.out 1 rfl
          obtain ⟨y0, y1, y2, y3, y4⟩ := five HD.out 0 rfl
          go_wp2_with fail
          have HA : Mem w0 _ (cellsR bM 64 #[.slice (some ⟨b1, o1, none⟩) g.ns.length cg, .int .i64 g.root, .slice (some ⟨b2, 0, none⟩) hn ch, .int .i64 hr, .map (some bm), .map (some bw), v] :: rowR 66 2 v l.length (pcells l) :: mapR Tryd.prog 66 ep (fun _ : Unit => .bool true) bm n1' (upd m (x, y) ()) :: mapR Tryd.prog 3 en en bw n2' (upd f x y) :: nodesR (.slice (some ⟨b2, 0, none⟩) hn ch) dh :: kidsR dh :: rs) := ((HD.out.del 0).del 0).del 0
          have CA := args_any ⟨kd, nm, as1, ls, true⟩ ⟨kd, nm, as2, ls, true⟩ ax ay lx ly cx cy dx dy xs ys bM _ _ _ _ _ _ v l _ w0 _ HA HXA.out HXL.out (fun W r1 r2 r3 r4 h => HYW.out W (h.at_ 6 rfl) (h.at_ 7 rfl)) HXE.out HYE.out HAL.out rfl HK3.out hb1 hb2 hll
          have HCA := Tre.hid CA
          clear HA CA
          refine HCA.out.mono ?_
          rintro e w9 ⟨rfl, v', M9⟩
          have HM9 := Tre.hid M9
          clear M9
          go_wp2_with fail
          go_ret
          exact ⟨rfl, v', _, _, _, n1', n2', rfl, .inr rfl, FW.out, HM9.out⟩
end Go.Proofs.YtlkfhbmjemjohaaDoor.gr
