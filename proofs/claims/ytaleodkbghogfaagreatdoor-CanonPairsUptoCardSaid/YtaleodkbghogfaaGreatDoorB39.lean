/- CanonPairs: the walk. -/
import Derived.Test.YtaleodkbghogfaaGreatDoorB37
import Derived.Test.YtaleodkbghogfaaGreatDoorB01
import Derived.Test.YtaleodkbghogfaaGreatDoorB38
import Derived.Test.YtaleodkbghogfaaGreatDoorB35
import Derived.Test.YtaleodkbghogfaaGreatDoorB09
import Derived.Test.YtaleodkbghogfaaGreatDoorB26
import Derived.Deep.DeepCutAuto
import Derived.IntWalk
set_option linter.unusedVariables false
namespace Go.Proofs.YtaleodkbghogfaaGreatDoor.gr
open Go.RowKit Go.Shelf Go.Maps Go.Tre lex
theorem infoNode : (Tryz.prog.info? 33).map (fun i => (i.zero, i.size, i.bytes)) = some (some (.agg #[.int .i64 0, .string ⟨#[]⟩, .slice none 0 0, .slice none 0 0, .bool false]), 5, 80) := by kernel_rfl
theorem nrow5 {w : World} {a : Option Addr} {c n : Nat} {L : List Value} (h : w.ownsRow 0 33 5 (.slice a n c) n L) : Row w 5 a n L := by
 obtain ⟨a', c', e, _, r⟩ := row_read h
 cases e
 exact r
abbrev gbR (b : Nat) (a : Option Addr) (n c : Nat) (r : Int) : Res := cellsR b 24 #[.slice a n c, .int .i64 r]
abbrev noR (a : Option Addr) (n c : Nat) (xs : List Value) : Res := rowR 33 5 (.slice a n c) n xs
abbrev stA (b : Nat) : Array Value := #[.int .i64 2, .string { data := #[42] }, .slice (some ⟨b, 0, none⟩) 2 2, .slice none 0 0, .bool false]
abbrev unA (b c : Nat) : Array Value := #[.int .i64 3, .string { data := #[] }, .slice (some ⟨b, 0, none⟩) 1 1, .slice (some ⟨c, 0, none⟩) 1 1, .bool false]
abbrev usA (b c d : Nat) : Array Value := #[.int .i64 3, .string { data := #[] }, .slice (some ⟨b, 0, none⟩) 1 1, .slice (some ⟨c, 0, none⟩) 1 1, .bool false, .int .i64 2, .string { data := #[42] }, .slice (some ⟨d, 0, none⟩) 2 2, .slice none 0 0, .bool false]
theorem st_one (b : Nat) : ∀ u ∈ (stA b).toList, u.oneCell' = true := by simp [Value.oneCell']
theorem us_one (b c d : Nat) : ∀ u ∈ (usA b c d).toList, u.oneCell' = true := by simp [Value.oneCell']
def starV (a b : Int) (k : Nat) : NodeV := ⟨starN a b, .slice (some ⟨k, 0, none⟩) 2 2, .slice none 0 0⟩
theorem starV_val {w : World} {a b : Int} {k : Nat} {t : TypeId} (h : w.heap[k]? = some (.cells #[.int .i64 a, .int .i64 b] t (0, 0))) : NodeVal w (starV a b k) :=
 ⟨some ⟨k, 0, none⟩, 2, none, 0, rfl, rfl, row_lit h 1 2 rfl, row_none _ _, Nat.le_refl _, Nat.le_refl _⟩
def unusV (a : Int) (k l : Nat) : NodeV := ⟨unusN a, .slice (some ⟨k, 0, none⟩) 1 1, .slice (some ⟨l, 0, none⟩) 1 1⟩
theorem unusV_val {w : World} {a : Int} {k l : Nat} {t t' : TypeId} (h : w.heap[k]? = some (.cells #[.int .i64 a] t (0, 0))) (h' : w.heap[l]? = some (.cells #[.string { data := #[117, 110, 117, 115, 117, 97, 108] }] t' (0, 0))) : NodeVal w (unusV a k l) :=
 ⟨some ⟨k, 0, none⟩, 1, some ⟨l, 0, none⟩, 1, rfl, rfl, row_lit h 1 1 rfl, row_lit h' 1 1 rfl, Nat.le_refl _, Nat.le_refl _⟩
theorem pair_nodes {W : World} {a : Option Addr} {n c b r : Nat} {xs : List Value} {ds : List NodeV} (h : W.ownsRow 0 33 5 (.slice a (n + 1) c) (n + 1) (xs ++ (stA b).toList)) (hn : ds.length = n) (hv : ∀ d ∈ ds, NodeVal W d) (hx : ds.flatMap NodeV.cells = xs)
  (hb : W.heap[b]? = some (.cells #[.int .i64 (r : Int), .int .i64 (r : Int)] 3 (0, 0))) : NodesAt W a (ds.map NodeV.n ++ [starN r r]) := by
 subst hn hx
 have e : ds.map NodeV.n ++ [starN r r] = (ds ++ [starV r r b]).map NodeV.n := by rw [List.map_append]; rfl
 rw [e]
 refine nodesAt_of (c := c) ?_ (fun d hd => ?_)
 ·rw [show (ds ++ [starV r r b]).length = ds.length + 1 by simp, nodesR_snoc]; exact h
 ·rcases List.mem_append.1 hd with hd | hd
  ·exact hv d hd
  ·rw [List.mem_singleton] at hd; subst hd; exact starV_val hb
theorem odd_nodes {W : World} {a : Option Addr} {n c b1 b2 b3 r : Nat} {xs : List Value} {ds : List NodeV} (h : W.ownsRow 0 33 5 (.slice a (n + 2) c) (n + 2) (xs ++ (usA b2 b1 b3).toList)) (hn : ds.length = n) (hv : ∀ d ∈ ds, NodeVal W d) (hx : ds.flatMap NodeV.cells = xs)
  (h1 : W.heap[b1]? = some (.cells #[.string { data := #[117, 110, 117, 115, 117, 97, 108] }] 9 (0, 0))) (h2 : W.heap[b2]? = some (.cells #[.int .i64 (n : Int)] 3 (0, 0))) (h3 : W.heap[b3]? = some (.cells #[.int .i64 (r : Int), .int .i64 (n : Int)] 3 (0, 0))) : NodesAt W a (ds.map NodeV.n ++ [unusN n, starN r n]) := by
 subst hx
 have e : ds.map NodeV.n ++ [unusN n, starN r n] = (ds ++ [unusV n b2 b1, starV r n b3]).map NodeV.n := by rw [List.map_append]; rfl
 rw [e]
 refine nodesAt_of (c := c) ?_ (fun d hd => ?_)
 ·have e1 : (ds ++ [unusV n b2 b1, starV r n b3]).length = n + 2 := by simp [hn]
  unfold nodesR
  rw [e1, List.flatMap_append]
  exact h
 ·rcases List.mem_append.1 hd with hd | hd
  ·exact hv d hd
  ·rcases List.mem_cons.1 hd with rfl | hd
   ·exact unusV_val h2 h1
   ·rw [List.mem_singleton] at hd; subst hd; exact starV_val h3
set_option maxRecDepth 100000 in
set_option maxHeartbeats 16000000 in
theorem cpairsLaw (a : Option Addr) (ca : Nat) (g : Tre.Graph) (w : World) (hg : NodesAt w a g.ns) (wg : g.weight ≤ 1048576) (E : LexEnv w) (ht : TabAt w) :
  Calls Tryz.prog 5 #[.agg #[.slice a g.ns.length ca, .int .i64 g.root]] w fun e w' => e = .returned (.bool true) ∧ Below w.heap.size w w' := by
 have M := (Mem.nil w).allocR #[.slice a g.ns.length ca, .int .i64 g.root] 24
 have HX := Tre.hid E.max
 have HT := Tre.hid ht
 have HG := Tre.hid hg
 have HAL := Tre.hid (alive09 _ (E.below M.below) (ht.below M.below))
 have HM0 := Tre.hid M
 clear E ht hg M
 go_enter Tryz.func5, Tryz.ntmps5
 go_wp2_with fail
 refine HAL.out.mono ?_
 rintro e w1 ⟨rfl, b1⟩
 have M1 := HM0.out.quiet b1
 obtain ⟨g0, g1⟩ := M1.two 0 rfl
 have HM1 := Tre.hid M1
 clear M1 b1 HAL
 go_wp2_with fail
 refine (great.great a ca g _ (by omega) (HG.out.below HM1.out.below)).mono ?_
 rintro e w2 ⟨rfl, b2⟩
 clear g0 g1
 have M2 := HM1.out.quiet b2
 obtain ⟨g0, g1⟩ := M2.two 0 rfl
 have HM2 := Tre.hid M2
 clear M2 b2
 by_cases t2 : (300 : Int) < g.great
 ·have t := t2
  go_wp2_with fail
  go_ret
  exact ⟨rfl, HM2.out.below⟩
 have hgl : g.ns.length ≤ 300 := by have := g.great_len; omega
 go_wp2_with fail
 refine (check_any a ca g _ (HG.out.below HM2.out.below) (by omega) (HX.out.below HM2.out.below)).mono ?_
 rintro e w3 ⟨rfl, b3⟩
 clear g0 g1
 have M3 := HM2.out.quiet b3
 have HM3 := Tre.hid M3
 obtain ⟨g0, g1⟩ := M3.two 0 rfl
 clear M3 b3
 by_cases t3 : g.checkC ≠ 0
 ·have t := not_ok t3
  go_wp2_with fail
  go_ret
  exact ⟨rfl, HM3.out.below⟩
 have cg : g.checkC = 0 := by omega
 have u3 : (g.checkC != 0) = false := by rw [cg]; rfl
 have OG := Graph.ok_of cg
 have CG := Tre.hid cg
 obtain ⟨r, hr⟩ : ∃ r : Nat, g.root = (r : Int) := ⟨g.root.toNat, by have := OG.root0; omega⟩
 have hrl : r < g.ns.length := by have := OG.root1; omega
 obtain ⟨ab, ao, rfl, hx0⟩ := HG.out.at_ 0 g.ns[0] (List.getElem?_eq_getElem (by omega))
 clear hx0
 obtain ⟨ds, hds, hcs, hdv⟩ := nodes_vals HG.out
 have hdl : ds.length = g.ns.length := by rw [← hds, List.length_map]
 have HONE := Tre.hid (cells_one ds (fun d hd => ⟨w, hdv d hd⟩))
 have HROW : Hid (∀ W, Below w.heap.size w W → Row W 5 (some ⟨ab, ao, none⟩) g.ns.length (ds.flatMap NodeV.cells)) := fun W hW => ⟨by rw [cells_len, hdl], fun j u hu => ⟨ab, ao, rfl, cell_below hW (hcs j u hu)⟩⟩
 have HDV := Tre.hid hdv
 have HDS := Tre.hid hds
 have HPO := Tre.hid (pair_ok cg (by omega))
 have HPL := Tre.hid (pair_least cg (by omega))
 have HOO := Tre.hid (odd_ok cg (by omega))
 have HOL := Tre.hid (odd_least cg (by omega))
 have HPW : Hid ((pairG g).weight ≤ 2097152) := by show _ ≤ _; have e : (pairG g).weight = g.weight + 4 := by { unfold Graph.weight pairG; rw [List.map_append, List.sum_append]; rfl }; omega
 have HOW : Hid ((oddG g).weight ≤ 2097152) := by show _ ≤ _; have e : (oddG g).weight = g.weight + 14 := by { unfold Graph.weight oddG; rw [List.map_append, List.sum_append]; rfl }; omega
 have HPN : Hid ((pairG g).ns.length = g.ns.length + 1) := by show _ = _; simp [pairG]
 have HON : Hid ((oddG g).ns.length = g.ns.length + 2) := by show _ = _; simp [oddG]
 have HPR : Hid ((pairG g).root = (g.ns.length : Int)) := rfl
 have HOR : Hid ((oddG g).root = (g.ns.length : Int) + 1) := rfl
 have HPNS : Hid ((pairG g).ns = ds.map NodeV.n ++ [starN r r]) := by show g.ns ++ [starN g.root g.root] = _; rw [hds, hr]
 have HONS : Hid ((oddG g).ns = ds.map NodeV.n ++ [unusN g.ns.length, starN r g.ns.length]) := by show g.ns ++ [unusN g.ns.length, starN g.root g.ns.length] = _; rw [hds, hr]
 obtain ⟨ii, I1, I2, I3, I4⟩ := info_parts infoNode
 have J1 := Tre.hid I1
 have J2 := Tre.hid I2
 have J3 := Tre.hid I3
 have J4 := Tre.hid I4
 have HLL := Tre.hid (fun W (h : Below w.heap.size w W) => least_any (some ⟨ab, ao, none⟩) ca g W (HG.out.below h) (by omega) (HX.out.below h) (HT.out.below h) cg)
 rw [hr] at g1
 have HM4 := HM3
 rw [hr] at HM4 HLL
 have HGR := Tre.hid hr
 have HDL := Tre.hid hdl
 generalize hlg : g.leastG.ns.length = LG at *
 have HLG := Tre.hid hlg
 have HL3 : Hid (LG ≤ 300) := by show _ ≤ _; rw [← hlg]; have h1 := least_le cg; have h2 := reach_len_le g; omega
 rw [hr]
 clear t3 OG hr hds hcs hdv hlg I1 I2 I3 I4 HM0 HM1 HM2 HM3 cg HG
 generalize g.ns.length = n at *
 obtain ⟨xs, hxs⟩ : ∃ xs, ds.flatMap NodeV.cells = xs := ⟨_, rfl⟩
 rw [hxs] at HONE HROW
 have HXS := Tre.hid hxs
 clear hxs
 go_upto_region 6 with fail
 go_cut [4] (fun s4 wx => ∃ (b4 : Nat) (a33 : Option Addr) (c33 : Nat) (b30 : Nat), s4 = .pointer (some ⟨b4, 0, none⟩) ∧ Hid (Mem w wx [gbR b4 a33 (n + 1) c33 (n : Int), noR a33 (n + 1) c33 (xs ++ (stA b30).toList), cellsR b30 3 #[.int .i64 (r : Int), .int .i64 (r : Int)], gbR w.heap.size (some ⟨ab, ao, none⟩) n ca r]))
 case first =>
  clear g0 g1 HX HT HPO HPL HOO HOL HPW HOW HPN HON HPR HOR HPNS HONS HLL HDV HDS HLG HGR HDL hdl CG wg t2 u3 hrl
  refine wp_region_keep (S := (fun w' => w'.cell? ⟨w.heap.size, 0, none⟩ = some (.slice (some ⟨ab, ao, none⟩) n ca) ∧ w'.cell? ⟨w.heap.size, 1, none⟩ = some (.int .i64 (r : Int)))) [12, 15] (by kernel_rfl) ?_ (fun hH => ?_)
  ·exact HM4.out.drew.two 0 rfl
  have HC := Tre.hid HM4.out.drew
  generalize hq : World.drew _ = wq0 at HC hH ⊢
  clear hq
  refine lPu 0 (some 21) (.int .i64 (n : Int)) (by kernel_rfl) (fun _ _ _ h => h) (fun w => by kernel_rfl) (keep_of hH) ?_
  refine lPu 2 (some 23) (.pointer (some ⟨w.heap.size, 0, none⟩)) (by kernel_rfl) (fun _ _ _ h => h) (fun w => by kernel_rfl) (keep_of hH) ?_
  try simp only [Act.put, Tre.qf, Tre.qg, Tre.qh]
  refine lTake (i := 3) (some 24) (v := ?_) (by rfl) (by kernel_rfl) (by kernel_rfl) (by kernel_rfl) (by kernel_rfl) (by kernel_rfl) (fun _ _ _ h => h) (by rfl) ?_ hH ?_
  rotate_left
  ·intro w hSw; (try dsimp only at hSw); simp only [Tre.qa, Tre.qb, Tre.qc, Tre.qd, Tre.qe]; (first | (go_simp; done) | (go_simp; with_reducible rfl))
  try simp only [Act.put, Tre.qf, Tre.qg, Tre.qh]
  refine lPu 5 (some 26) (.pointer (some ⟨w.heap.size, 1, none⟩)) (by kernel_rfl) (fun _ _ _ h => h) (fun w => by kernel_rfl) (keep_of hH) ?_
  try simp only [Act.put, Tre.qf, Tre.qg, Tre.qh]
  refine lTake (i := 6) (some 27) (v := ?_) (by rfl) (by kernel_rfl) (by kernel_rfl) (by kernel_rfl) (by kernel_rfl) (by kernel_rfl) (fun _ _ _ h => h) (by rfl) ?_ hH ?_
  rotate_left
  ·intro w hSw; (try dsimp only at hSw); simp only [Tre.qa, Tre.qb, Tre.qc, Tre.qd, Tre.qe]; (first | (go_simp; done) | (go_simp; with_reducible rfl))
  try simp only [Act.put, Tre.qf, Tre.qg, Tre.qh]
  refine lPu 7 (some 28) (.pointer (some ⟨w.heap.size, 1, none⟩)) (by kernel_rfl) (fun _ _ _ h => h) (fun w => by kernel_rfl) (keep_of hH) ?_
  try simp only [Act.put, Tre.qf, Tre.qg, Tre.qh]
  refine lTake (i := 8) (some 29) (v := ?_) (by rfl) (by kernel_rfl) (by kernel_rfl) (by kernel_rfl) (by kernel_rfl) (by kernel_rfl) (fun _ _ _ h => h) (by rfl) ?_ hH ?_
  rotate_left
  ·intro w hSw; (try dsimp only at hSw); simp only [Tre.qa, Tre.qb, Tre.qc, Tre.qd, Tre.qe]; (first | (go_simp; done) | (go_simp; with_reducible rfl))
  try simp only [Act.put, Tre.qf, Tre.qg, Tre.qh]
  try simp only [Act.put, Tre.qf, Tre.qg, Tre.qh]
  refine with_G (G0 := wpAnyL _ _ _ _ _ _) ?_
  intro G hG a0 hA
  have Z0 : Kept (∀ (b22 : Nat) (b30 : Nat) (b32 : Nat) (b4 : Nat) (a25 : Option Addr) (c25 : Nat) (a33 : Option Addr) (c33 : Nat) (wq : World), Hid (Mem w wq [gbR b4 a33 (n + 1) c33 (n : Int), noR a33 (n + 1) c33 (xs ++ (stA b30).toList), cellsR b30 3 #[.int .i64 (r : Int), .int .i64 (r : Int)], gbR w.heap.size (some ⟨ab, ao, none⟩) n ca r]) → G 0 (bt 16 65535) ((((((((a0.put (some 22) (.slice (some ⟨b22, 0, none⟩) 0 0)).put (some 25) (.slice a25 n c25)).put (some 30) (.slice (some ⟨b30, 0, none⟩) 2 2)).put (some 31) (.agg (stA b30))).put (some 32) (.slice (some ⟨b32, 0, none⟩) 1 1)).put (some 33) (.slice a33 (n + 1) c33)).put (some 34) (.agg #[.slice a33 (n + 1) c33, .int .i64 (n : Int)])).put (some 4) (.pointer (some ⟨b4, 0, none⟩))) wq) := ⟨by
   intro b22 b30 b32 b4 a25 c25 a33 c33 wq HC
   refine into_G hG ?_
   rw [hA.out]
   simp only [Act.put, Tre.qf, Tre.qg, Tre.qh]
   refine lDone (by kernel_rfl) ?_
   clear hA hG
   go_wp2_with fail
   go_meet
   exact ⟨b4, a33, c33, b30, rfl, HC.out⟩⟩
  have Z1 : Kept (∀ (b22 : Nat) (b30 : Nat) (b32 : Nat) (b4 : Nat) (a25 : Option Addr) (c25 : Nat) (a33 : Option Addr) (c33 : Nat) (wq : World), Hid (Mem w wq [gbR b4 none 0 0 0, noR a33 (n + 1) c33 (xs ++ (stA b30).toList), cellsR b30 3 #[.int .i64 (r : Int), .int .i64 (r : Int)], gbR w.heap.size (some ⟨ab, ao, none⟩) n ca r]) → G 1 (bt 16 32767) ((((((((a0.put (some 22) (.slice (some ⟨b22, 0, none⟩) 0 0)).put (some 25) (.slice a25 n c25)).put (some 30) (.slice (some ⟨b30, 0, none⟩) 2 2)).put (some 31) (.agg (stA b30))).put (some 32) (.slice (some ⟨b32, 0, none⟩) 1 1)).put (some 33) (.slice a33 (n + 1) c33)).put (some 34) (.agg #[.slice a33 (n + 1) c33, .int .i64 (n : Int)])).put (some 4) (.pointer (some ⟨b4, 0, none⟩))) wq) := ⟨by
   intro b22 b30 b32 b4 a25 c25 a33 c33 wq HC
   refine into_G hG ?_
   rw [hA.out]
   simp only [Act.put, Tre.qf, Tre.qg, Tre.qh]
   refine lOne 15 (by kernel_rfl) ?_
   ·
    refine (LFall.op (by kernel_rfl) (fun K hK => ?_))
    have z0 := HC.out.free 0 rfl 0
    have z1 := HC.out.free 0 rfl 1
    obtain ⟨y0, y1⟩ := HC.out.two 0 rfl
    have HN := Tre.hid ((HC.out.setCell 0 rfl 0 (.slice a33 (n + 1) c33)).setCell 0 rfl 1 (.int .i64 (n : Int)))
    go_simp
    clear z0 z1 y0 y1
    generalize hw : (wq.setCell ⟨b4, 0, none⟩ _).setCell ⟨b4, 1, none⟩ _ = wr at HN ⊢
    clear hw
    refine hK.out _ _ ?_
    exact outof_G hG (Z0.out b22 b30 b32 b4 a25 c25 a33 c33 wr HN) (by kernel_rfl) (by rw [hA.out]; try kernel_rfl)⟩
  have Z2 : Kept (∀ (b22 : Nat) (b30 : Nat) (b32 : Nat) (a25 : Option Addr) (c25 : Nat) (a33 : Option Addr) (c33 : Nat) (wq : World), Hid (Mem w wq [noR a33 (n + 1) c33 (xs ++ (stA b30).toList), cellsR b30 3 #[.int .i64 (r : Int), .int .i64 (r : Int)], gbR w.heap.size (some ⟨ab, ao, none⟩) n ca r]) → G 2 (bt 16 16383) (((((((a0.put (some 22) (.slice (some ⟨b22, 0, none⟩) 0 0)).put (some 25) (.slice a25 n c25)).put (some 30) (.slice (some ⟨b30, 0, none⟩) 2 2)).put (some 31) (.agg (stA b30))).put (some 32) (.slice (some ⟨b32, 0, none⟩) 1 1)).put (some 33) (.slice a33 (n + 1) c33)).put (some 34) (.agg #[.slice a33 (n + 1) c33, .int .i64 (n : Int)])) wq) := ⟨by
   intro b22 b30 b32 a25 c25 a33 c33 wq HC
   refine into_G hG ?_
   rw [hA.out]
   refine lOne 14 (by kernel_rfl) ?_
   ·
    have HN := Tre.hid (HC.out.allocR #[.slice none 0 0, .int .i64 0] 24)
    refine LFall.made (some 4) (.pointer (some ⟨wq.heap.size, 0, none⟩)) (wq.alloc (.cells #[.slice none 0 0, .int .i64 0] 24)) (by kernel_rfl) (by kernel_rfl) (by kernel_rfl) ?_
    exact outof_G hG (Z1.out b22 b30 b32 wq.heap.size a25 c25 a33 c33 _ HN) (by kernel_rfl) (by rw [hA.out]; try kernel_rfl)⟩
  have Z3 : Kept (∀ (b22 : Nat) (b30 : Nat) (b32 : Nat) (b4 : Nat) (a25 : Option Addr) (c25 : Nat) (wq : World), Hid (Mem w wq [gbR b4 none 0 0 0, noR a25 n c25 xs, noR (some ⟨b32, 0, none⟩) 1 1 (stA b30).toList, cellsR b30 3 #[.int .i64 (r : Int), .int .i64 (r : Int)], gbR w.heap.size (some ⟨ab, ao, none⟩) n ca r]) → G 3 (bt 16 20479) ((((((a0.put (some 22) (.slice (some ⟨b22, 0, none⟩) 0 0)).put (some 25) (.slice a25 n c25)).put (some 30) (.slice (some ⟨b30, 0, none⟩) 2 2)).put (some 31) (.agg (stA b30))).put (some 32) (.slice (some ⟨b32, 0, none⟩) 1 1)).put (some 4) (.pointer (some ⟨b4, 0, none⟩))) wq) := ⟨by
   intro b22 b30 b32 b4 a25 c25 wq HC
   refine into_G hG ?_
   rw [hA.out]
   have hH := HC.out.two 4 rfl
   refine lOne 12 (by kernel_rfl) ?_
   ·
    refine LFall.app (by kernel_rfl) (some 33) (.tmp 25) (.tmp 32) 22 (by kernel_rfl) 33 ii _ 5 80 Tryz.underlying22 J1.out J2.out J3.out J4.out rfl (by omega) (.slice a25 n c25) n xs (by kernel_rfl) (HC.out.row 1 rfl) (some ⟨b32, 0, none⟩) 1 1 (stA b30).toList (by kernel_rfl) (nrow5 (HC.out.row 2 rfl)) (st_one _) (by unfold maxLen; omega) (by omega) ?_
    intro v' wr hown4 hgrow4 hat4
    have M4 := HC.out.grow 1 rfl hgrow4 hown4 hat4
    obtain ⟨a33, c33, rfl, _⟩ := M4.val 1 rfl
    have HN := Tre.hid (M4.del 2)
    clear M4 hown4 hgrow4 hat4
    refine lPu 13 (some 34) (.agg #[.slice a33 (n + 1) c33, .int .i64 (n : Int)]) (by kernel_rfl) (fun _ _ _ h => h) (fun w => by kernel_rfl) (keep_fell (by kernel_rfl)) ?_
    exact outof_G hG (Z1.out b22 b30 b32 b4 a25 c25 a33 c33 wr HN) (by kernel_rfl) (by rw [hA.out]; try kernel_rfl)⟩
  have Z4 : Kept (∀ (b22 : Nat) (b30 : Nat) (b32 : Nat) (a25 : Option Addr) (c25 : Nat) (wq : World), Hid (Mem w wq [noR a25 n c25 xs, noR (some ⟨b32, 0, none⟩) 1 1 (stA b30).toList, cellsR b30 3 #[.int .i64 (r : Int), .int .i64 (r : Int)], gbR w.heap.size (some ⟨ab, ao, none⟩) n ca r]) → G 4 (bt 16 4095) (((((a0.put (some 22) (.slice (some ⟨b22, 0, none⟩) 0 0)).put (some 25) (.slice a25 n c25)).put (some 30) (.slice (some ⟨b30, 0, none⟩) 2 2)).put (some 31) (.agg (stA b30))).put (some 32) (.slice (some ⟨b32, 0, none⟩) 1 1)) wq) := ⟨by
   intro b22 b30 b32 a25 c25 wq HC
   refine into_G hG ?_
   rw [hA.out]
   have hH := HC.out.two 3 rfl
   refine lTwo 12 14 (by kernel_rfl) ?_ ?_
   ·
    refine LFall.app (by kernel_rfl) (some 33) (.tmp 25) (.tmp 32) 22 (by kernel_rfl) 33 ii _ 5 80 Tryz.underlying22 J1.out J2.out J3.out J4.out rfl (by omega) (.slice a25 n c25) n xs (by kernel_rfl) (HC.out.row 0 rfl) (some ⟨b32, 0, none⟩) 1 1 (stA b30).toList (by kernel_rfl) (nrow5 (HC.out.row 1 rfl)) (st_one _) (by unfold maxLen; omega) (by omega) ?_
    intro v' wr hown4 hgrow4 hat4
    have M4 := HC.out.grow 0 rfl hgrow4 hown4 hat4
    obtain ⟨a33, c33, rfl, _⟩ := M4.val 0 rfl
    have HN := Tre.hid (M4.del 1)
    clear M4 hown4 hgrow4 hat4
    refine lPu 13 (some 34) (.agg #[.slice a33 (n + 1) c33, .int .i64 (n : Int)]) (by kernel_rfl) (fun _ _ _ h => h) (fun w => by kernel_rfl) (keep_fell (by kernel_rfl)) ?_
    exact outof_G hG (Z2.out b22 b30 b32 a25 c25 a33 c33 wr HN) (by kernel_rfl) (by rw [hA.out]; try kernel_rfl)
   ·
    have HN := Tre.hid (HC.out.allocR #[.slice none 0 0, .int .i64 0] 24)
    have hH2 := HN.out.two 4 rfl
    refine LStep.made (some 4) (.pointer (some ⟨wq.heap.size, 0, none⟩)) _ (by kernel_rfl) (by kernel_rfl) hH2 ?_
    exact outof_G hG (Z3.out b22 b30 b32 wq.heap.size a25 c25 _ HN) (by kernel_rfl) (by rw [hA.out]; try kernel_rfl)⟩
  have Z5 : Kept (∀ (b22 : Nat) (b30 : Nat) (b4 : Nat) (a25 : Option Addr) (c25 : Nat) (wq : World), Hid (Mem w wq [gbR b4 none 0 0 0, noR a25 n c25 xs, cellsR b30 3 #[.int .i64 (r : Int), .int .i64 (r : Int)], gbR w.heap.size (some ⟨ab, ao, none⟩) n ca r]) → G 4 (bt 16 18431) (((((a0.put (some 22) (.slice (some ⟨b22, 0, none⟩) 0 0)).put (some 25) (.slice a25 n c25)).put (some 30) (.slice (some ⟨b30, 0, none⟩) 2 2)).put (some 31) (.agg (stA b30))).put (some 4) (.pointer (some ⟨b4, 0, none⟩))) wq) := ⟨by
   intro b22 b30 b4 a25 c25 wq HC
   refine into_G hG ?_
   rw [hA.out]
   have hH := HC.out.two 3 rfl
   refine lOne 11 (by kernel_rfl) ?_
   ·
    have HN := Tre.hid (HC.out.allocRow (stA b30) 33 5 1 (by unfold maxLen; omega) rfl)
    have HC := Tre.hid (((HN.out.front 0 rfl).front 2 rfl).front 2 rfl)
    clear HN
    have hH2 := HC.out.two 4 rfl
    refine LStep.made (some 32) (.slice (some ⟨wq.heap.size, 0, none⟩) 1 1) _ (by kernel_rfl) (by kernel_rfl) hH2 ?_
    exact outof_G hG (Z3.out b22 b30 wq.heap.size b4 a25 c25 _ HC) (by kernel_rfl) (by rw [hA.out]; try kernel_rfl)⟩
  have Z6 : Kept (∀ (b22 : Nat) (b30 : Nat) (b32 : Nat) (b4 : Nat) (wq : World), Hid (Mem w wq [gbR b4 none 0 0 0, noR (some ⟨b22, 0, none⟩) 0 0 [], noR (some ⟨b32, 0, none⟩) 1 1 (stA b30).toList, cellsR b30 3 #[.int .i64 (r : Int), .int .i64 (r : Int)], gbR w.heap.size (some ⟨ab, ao, none⟩) n ca r]) → G 4 (bt 16 20463) (((((a0.put (some 22) (.slice (some ⟨b22, 0, none⟩) 0 0)).put (some 30) (.slice (some ⟨b30, 0, none⟩) 2 2)).put (some 31) (.agg (stA b30))).put (some 32) (.slice (some ⟨b32, 0, none⟩) 1 1)).put (some 4) (.pointer (some ⟨b4, 0, none⟩))) wq) := ⟨by
   intro b22 b30 b32 b4 wq HC
   refine into_G hG ?_
   rw [hA.out]
   have hH := HC.out.two 4 rfl
   refine lOne 4 (by kernel_rfl) ?_
   ·
    refine LStep.app (some 25) (.tmp 22) (.tmp 24) 22 (by kernel_rfl) 33 ii _ 5 80 Tryz.underlying22 J1.out J2.out J3.out J4.out rfl (by omega) (.slice (some ⟨b22, 0, none⟩) 0 0) 0 [] (by kernel_rfl) (HC.out.row 1 rfl) (some ⟨ab, ao, none⟩) n ca xs (by kernel_rfl) (HROW.out _ HC.out.below) HONE.out (by unfold maxLen; omega) (by omega) ?_
    intro v' wr hown4 hgrow4 hat4
    simp only [Nat.zero_add, List.nil_append] at hown4
    have M4 := HC.out.grow 1 rfl hgrow4 hown4 hat4
    obtain ⟨a25, c25, rfl, _⟩ := M4.val 1 rfl
    have HN := Tre.hid M4
    clear M4 hown4 hgrow4 hat4
    refine ⟨HN.out.two 4 rfl, fun hH2 => ?_⟩
    exact outof_G hG (Z3.out b22 b30 b32 b4 a25 c25 wr HN) (by kernel_rfl) (by rw [hA.out]; try kernel_rfl)⟩
  have Z7 : Kept (∀ (b22 : Nat) (b30 : Nat) (a25 : Option Addr) (c25 : Nat) (wq : World), Hid (Mem w wq [noR a25 n c25 xs, cellsR b30 3 #[.int .i64 (r : Int), .int .i64 (r : Int)], gbR w.heap.size (some ⟨ab, ao, none⟩) n ca r]) → G 5 (bt 16 2047) ((((a0.put (some 22) (.slice (some ⟨b22, 0, none⟩) 0 0)).put (some 25) (.slice a25 n c25)).put (some 30) (.slice (some ⟨b30, 0, none⟩) 2 2)).put (some 31) (.agg (stA b30))) wq) := ⟨by
   intro b22 b30 a25 c25 wq HC
   refine into_G hG ?_
   rw [hA.out]
   have hH := HC.out.two 2 rfl
   refine lTwo 11 14 (by kernel_rfl) ?_ ?_
   ·
    have HN := Tre.hid (HC.out.allocRow (stA b30) 33 5 1 (by unfold maxLen; omega) rfl)
    have HC := Tre.hid ((HN.out.front 0 rfl).front 1 rfl)
    clear HN
    have hH2 := HC.out.two 3 rfl
    refine LStep.made (some 32) (.slice (some ⟨wq.heap.size, 0, none⟩) 1 1) _ (by kernel_rfl) (by kernel_rfl) hH2 ?_
    exact outof_G hG (Z4.out b22 b30 wq.heap.size a25 c25 _ HC) (by kernel_rfl) (by rw [hA.out]; try kernel_rfl)
   ·
    have HN := Tre.hid (HC.out.allocR #[.slice none 0 0, .int .i64 0] 24)
    have hH2 := HN.out.two 3 rfl
    refine LStep.made (some 4) (.pointer (some ⟨wq.heap.size, 0, none⟩)) _ (by kernel_rfl) (by kernel_rfl) hH2 ?_
    exact outof_G hG (Z5.out b22 b30 wq.heap.size a25 c25 _ HN) (by kernel_rfl) (by rw [hA.out]; try kernel_rfl)⟩
  have Z8 : Kept (∀ (b22 : Nat) (b30 : Nat) (b32 : Nat) (wq : World), Hid (Mem w wq [noR (some ⟨b22, 0, none⟩) 0 0 [], noR (some ⟨b32, 0, none⟩) 1 1 (stA b30).toList, cellsR b30 3 #[.int .i64 (r : Int), .int .i64 (r : Int)], gbR w.heap.size (some ⟨ab, ao, none⟩) n ca r]) → G 5 (bt 16 4079) ((((a0.put (some 22) (.slice (some ⟨b22, 0, none⟩) 0 0)).put (some 30) (.slice (some ⟨b30, 0, none⟩) 2 2)).put (some 31) (.agg (stA b30))).put (some 32) (.slice (some ⟨b32, 0, none⟩) 1 1)) wq) := ⟨by
   intro b22 b30 b32 wq HC
   refine into_G hG ?_
   rw [hA.out]
   have hH := HC.out.two 3 rfl
   refine lTwo 4 14 (by kernel_rfl) ?_ ?_
   ·
    refine LStep.app (some 25) (.tmp 22) (.tmp 24) 22 (by kernel_rfl) 33 ii _ 5 80 Tryz.underlying22 J1.out J2.out J3.out J4.out rfl (by omega) (.slice (some ⟨b22, 0, none⟩) 0 0) 0 [] (by kernel_rfl) (HC.out.row 0 rfl) (some ⟨ab, ao, none⟩) n ca xs (by kernel_rfl) (HROW.out _ HC.out.below) HONE.out (by unfold maxLen; omega) (by omega) ?_
    intro v' wr hown4 hgrow4 hat4
    simp only [Nat.zero_add, List.nil_append] at hown4
    have M4 := HC.out.grow 0 rfl hgrow4 hown4 hat4
    obtain ⟨a25, c25, rfl, _⟩ := M4.val 0 rfl
    have HN := Tre.hid M4
    clear M4 hown4 hgrow4 hat4
    refine ⟨HN.out.two 3 rfl, fun hH2 => ?_⟩
    exact outof_G hG (Z4.out b22 b30 b32 a25 c25 wr HN) (by kernel_rfl) (by rw [hA.out]; try kernel_rfl)
   ·
    have HN := Tre.hid (HC.out.allocR #[.slice none 0 0, .int .i64 0] 24)
    have hH2 := HN.out.two 4 rfl
    refine LStep.made (some 4) (.pointer (some ⟨wq.heap.size, 0, none⟩)) _ (by kernel_rfl) (by kernel_rfl) hH2 ?_
    exact outof_G hG (Z6.out b22 b30 b32 wq.heap.size _ HN) (by kernel_rfl) (by rw [hA.out]; try kernel_rfl)⟩
  have Z9 : Kept (∀ (b22 : Nat) (b30 : Nat) (b4 : Nat) (wq : World), Hid (Mem w wq [gbR b4 none 0 0 0, noR (some ⟨b22, 0, none⟩) 0 0 [], cellsR b30 3 #[.int .i64 (r : Int), .int .i64 (r : Int)], gbR w.heap.size (some ⟨ab, ao, none⟩) n ca r]) → G 5 (bt 16 18415) ((((a0.put (some 22) (.slice (some ⟨b22, 0, none⟩) 0 0)).put (some 30) (.slice (some ⟨b30, 0, none⟩) 2 2)).put (some 31) (.agg (stA b30))).put (some 4) (.pointer (some ⟨b4, 0, none⟩))) wq) := ⟨by
   intro b22 b30 b4 wq HC
   refine into_G hG ?_
   rw [hA.out]
   have hH := HC.out.two 3 rfl
   refine lTwo 4 11 (by kernel_rfl) ?_ ?_
   ·
    refine LStep.app (some 25) (.tmp 22) (.tmp 24) 22 (by kernel_rfl) 33 ii _ 5 80 Tryz.underlying22 J1.out J2.out J3.out J4.out rfl (by omega) (.slice (some ⟨b22, 0, none⟩) 0 0) 0 [] (by kernel_rfl) (HC.out.row 1 rfl) (some ⟨ab, ao, none⟩) n ca xs (by kernel_rfl) (HROW.out _ HC.out.below) HONE.out (by unfold maxLen; omega) (by omega) ?_
    intro v' wr hown4 hgrow4 hat4
    simp only [Nat.zero_add, List.nil_append] at hown4
    have M4 := HC.out.grow 1 rfl hgrow4 hown4 hat4
    obtain ⟨a25, c25, rfl, _⟩ := M4.val 1 rfl
    have HN := Tre.hid M4
    clear M4 hown4 hgrow4 hat4
    refine ⟨HN.out.two 3 rfl, fun hH2 => ?_⟩
    exact outof_G hG (Z5.out b22 b30 b4 a25 c25 wr HN) (by kernel_rfl) (by rw [hA.out]; try kernel_rfl)
   ·
    have HN := Tre.hid (HC.out.allocRow (stA b30) 33 5 1 (by unfold maxLen; omega) rfl)
    have HC := Tre.hid (((HN.out.front 0 rfl).front 2 rfl).front 2 rfl)
    clear HN
    have hH2 := HC.out.two 4 rfl
    refine LStep.made (some 32) (.slice (some ⟨wq.heap.size, 0, none⟩) 1 1) _ (by kernel_rfl) (by kernel_rfl) hH2 ?_
    exact outof_G hG (Z6.out b22 b30 wq.heap.size b4 _ HC) (by kernel_rfl) (by rw [hA.out]; try kernel_rfl)⟩
  have Z10 : Kept (∀ (b30 : Nat) (b32 : Nat) (b4 : Nat) (wq : World), Hid (Mem w wq [gbR b4 none 0 0 0, noR (some ⟨b32, 0, none⟩) 1 1 (stA b30).toList, cellsR b30 3 #[.int .i64 (r : Int), .int .i64 (r : Int)], gbR w.heap.size (some ⟨ab, ao, none⟩) n ca r]) → G 5 (bt 16 20461) ((((a0.put (some 30) (.slice (some ⟨b30, 0, none⟩) 2 2)).put (some 31) (.agg (stA b30))).put (some 32) (.slice (some ⟨b32, 0, none⟩) 1 1)).put (some 4) (.pointer (some ⟨b4, 0, none⟩))) wq) := ⟨by
   intro b30 b32 b4 wq HC
   refine into_G hG ?_
   rw [hA.out]
   have hH := HC.out.two 3 rfl
   refine lOne 1 (by kernel_rfl) ?_
   ·
    have HN := Tre.hid (HC.out.allocRow #[] 33 5 0 (by unfold maxLen; omega) rfl)
    have HC := Tre.hid ((HN.out.front 0 rfl).front 1 rfl)
    clear HN
    have hH2 := HC.out.two 4 rfl
    refine LStep.made (some 22) (.slice (some ⟨wq.heap.size, 0, none⟩) 0 0) _ (by kernel_rfl) (by kernel_rfl) hH2 ?_
    exact outof_G hG (Z6.out wq.heap.size b30 b32 b4 _ HC) (by kernel_rfl) (by rw [hA.out]; try kernel_rfl)⟩
  have Z11 : Kept (∀ (b22 : Nat) (b4 : Nat) (a25 : Option Addr) (c25 : Nat) (wq : World), Hid (Mem w wq [gbR b4 none 0 0 0, noR a25 n c25 xs, gbR w.heap.size (some ⟨ab, ao, none⟩) n ca r]) → G 6 (bt 16 16895) (((a0.put (some 22) (.slice (some ⟨b22, 0, none⟩) 0 0)).put (some 25) (.slice a25 n c25)).put (some 4) (.pointer (some ⟨b4, 0, none⟩))) wq) := ⟨by
   intro b22 b4 a25 c25 wq HC
   refine into_G hG ?_
   rw [hA.out]
   have hH := HC.out.two 2 rfl
   refine lOne 9 (by kernel_rfl) ?_
   ·
    have HN := Tre.hid (HC.out.allocR #[.int .i64 (r : Int), .int .i64 (r : Int)] 3)
    have HC := Tre.hid (((HN.out.front 0 rfl).front 2 rfl).front 2 rfl)
    clear HN
    have hH2 := HC.out.two 3 rfl
    refine LStep.made (some 30) (.slice (some ⟨wq.heap.size, 0, none⟩) 2 2) _ (by kernel_rfl) (by kernel_rfl) hH2 ?_
    refine lPu 10 (some 31) (.agg (stA wq.heap.size)) (by kernel_rfl) (fun _ _ _ h => h) (fun w => by kernel_rfl) (keep_of hH2) ?_
    exact outof_G hG (Z5.out b22 wq.heap.size b4 a25 c25 _ HC) (by kernel_rfl) (by rw [hA.out]; try kernel_rfl)⟩
  have Z12 : Kept (∀ (b22 : Nat) (b30 : Nat) (wq : World), Hid (Mem w wq [noR (some ⟨b22, 0, none⟩) 0 0 [], cellsR b30 3 #[.int .i64 (r : Int), .int .i64 (r : Int)], gbR w.heap.size (some ⟨ab, ao, none⟩) n ca r]) → G 6 (bt 16 2031) (((a0.put (some 22) (.slice (some ⟨b22, 0, none⟩) 0 0)).put (some 30) (.slice (some ⟨b30, 0, none⟩) 2 2)).put (some 31) (.agg (stA b30))) wq) := ⟨by
   intro b22 b30 wq HC
   refine into_G hG ?_
   rw [hA.out]
   have hH := HC.out.two 2 rfl
   refine lThree 4 11 14 (by kernel_rfl) ?_ ?_ ?_
   ·
    refine LStep.app (some 25) (.tmp 22) (.tmp 24) 22 (by kernel_rfl) 33 ii _ 5 80 Tryz.underlying22 J1.out J2.out J3.out J4.out rfl (by omega) (.slice (some ⟨b22, 0, none⟩) 0 0) 0 [] (by kernel_rfl) (HC.out.row 0 rfl) (some ⟨ab, ao, none⟩) n ca xs (by kernel_rfl) (HROW.out _ HC.out.below) HONE.out (by unfold maxLen; omega) (by omega) ?_
    intro v' wr hown4 hgrow4 hat4
    simp only [Nat.zero_add, List.nil_append] at hown4
    have M4 := HC.out.grow 0 rfl hgrow4 hown4 hat4
    obtain ⟨a25, c25, rfl, _⟩ := M4.val 0 rfl
    have HN := Tre.hid M4
    clear M4 hown4 hgrow4 hat4
    refine ⟨HN.out.two 2 rfl, fun hH2 => ?_⟩
    exact outof_G hG (Z7.out b22 b30 a25 c25 wr HN) (by kernel_rfl) (by rw [hA.out]; try kernel_rfl)
   ·
    have HN := Tre.hid (HC.out.allocRow (stA b30) 33 5 1 (by unfold maxLen; omega) rfl)
    have HC := Tre.hid ((HN.out.front 0 rfl).front 1 rfl)
    clear HN
    have hH2 := HC.out.two 3 rfl
    refine LStep.made (some 32) (.slice (some ⟨wq.heap.size, 0, none⟩) 1 1) _ (by kernel_rfl) (by kernel_rfl) hH2 ?_
    exact outof_G hG (Z8.out b22 b30 wq.heap.size _ HC) (by kernel_rfl) (by rw [hA.out]; try kernel_rfl)
   ·
    have HN := Tre.hid (HC.out.allocR #[.slice none 0 0, .int .i64 0] 24)
    have hH2 := HN.out.two 3 rfl
    refine LStep.made (some 4) (.pointer (some ⟨wq.heap.size, 0, none⟩)) _ (by kernel_rfl) (by kernel_rfl) hH2 ?_
    exact outof_G hG (Z9.out b22 b30 wq.heap.size _ HN) (by kernel_rfl) (by rw [hA.out]; try kernel_rfl)⟩
  have Z13 : Kept (∀ (b30 : Nat) (b32 : Nat) (wq : World), Hid (Mem w wq [noR (some ⟨b32, 0, none⟩) 1 1 (stA b30).toList, cellsR b30 3 #[.int .i64 (r : Int), .int .i64 (r : Int)], gbR w.heap.size (some ⟨ab, ao, none⟩) n ca r]) → G 6 (bt 16 4077) (((a0.put (some 30) (.slice (some ⟨b30, 0, none⟩) 2 2)).put (some 31) (.agg (stA b30))).put (some 32) (.slice (some ⟨b32, 0, none⟩) 1 1)) wq) := ⟨by
   intro b30 b32 wq HC
   refine into_G hG ?_
   rw [hA.out]
   have hH := HC.out.two 2 rfl
   refine lTwo 1 14 (by kernel_rfl) ?_ ?_
   ·
    have HN := Tre.hid (HC.out.allocRow #[] 33 5 0 (by unfold maxLen; omega) rfl)
    have hH2 := HN.out.two 3 rfl
    refine LStep.made (some 22) (.slice (some ⟨wq.heap.size, 0, none⟩) 0 0) _ (by kernel_rfl) (by kernel_rfl) hH2 ?_
    exact outof_G hG (Z8.out wq.heap.size b30 b32 _ HN) (by kernel_rfl) (by rw [hA.out]; try kernel_rfl)
   ·
    have HN := Tre.hid (HC.out.allocR #[.slice none 0 0, .int .i64 0] 24)
    have hH2 := HN.out.two 3 rfl
    refine LStep.made (some 4) (.pointer (some ⟨wq.heap.size, 0, none⟩)) _ (by kernel_rfl) (by kernel_rfl) hH2 ?_
    exact outof_G hG (Z10.out b30 b32 wq.heap.size _ HN) (by kernel_rfl) (by rw [hA.out]; try kernel_rfl)⟩
  have Z14 : Kept (∀ (b30 : Nat) (b4 : Nat) (wq : World), Hid (Mem w wq [gbR b4 none 0 0 0, cellsR b30 3 #[.int .i64 (r : Int), .int .i64 (r : Int)], gbR w.heap.size (some ⟨ab, ao, none⟩) n ca r]) → G 6 (bt 16 18413) (((a0.put (some 30) (.slice (some ⟨b30, 0, none⟩) 2 2)).put (some 31) (.agg (stA b30))).put (some 4) (.pointer (some ⟨b4, 0, none⟩))) wq) := ⟨by
   intro b30 b4 wq HC
   refine into_G hG ?_
   rw [hA.out]
   have hH := HC.out.two 2 rfl
   refine lTwo 1 11 (by kernel_rfl) ?_ ?_
   ·
    have HN := Tre.hid (HC.out.allocRow #[] 33 5 0 (by unfold maxLen; omega) rfl)
    have HC := Tre.hid ((HN.out.front 0 rfl).front 1 rfl)
    clear HN
    have hH2 := HC.out.two 3 rfl
    refine LStep.made (some 22) (.slice (some ⟨wq.heap.size, 0, none⟩) 0 0) _ (by kernel_rfl) (by kernel_rfl) hH2 ?_
    exact outof_G hG (Z9.out wq.heap.size b30 b4 _ HC) (by kernel_rfl) (by rw [hA.out]; try kernel_rfl)
   ·
    have HN := Tre.hid (HC.out.allocRow (stA b30) 33 5 1 (by unfold maxLen; omega) rfl)
    have HC := Tre.hid ((HN.out.front 0 rfl).front 1 rfl)
    clear HN
    have hH2 := HC.out.two 3 rfl
    refine LStep.made (some 32) (.slice (some ⟨wq.heap.size, 0, none⟩) 1 1) _ (by kernel_rfl) (by kernel_rfl) hH2 ?_
    exact outof_G hG (Z10.out b30 wq.heap.size b4 _ HC) (by kernel_rfl) (by rw [hA.out]; try kernel_rfl)⟩
  have Z15 : Kept (∀ (b22 : Nat) (a25 : Option Addr) (c25 : Nat) (wq : World), Hid (Mem w wq [noR a25 n c25 xs, gbR w.heap.size (some ⟨ab, ao, none⟩) n ca r]) → G 7 (bt 16 511) ((a0.put (some 22) (.slice (some ⟨b22, 0, none⟩) 0 0)).put (some 25) (.slice a25 n c25)) wq) := ⟨by
   intro b22 a25 c25 wq HC
   refine into_G hG ?_
   rw [hA.out]
   have hH := HC.out.two 1 rfl
   refine lTwo 9 14 (by kernel_rfl) ?_ ?_
   ·
    have HN := Tre.hid (HC.out.allocR #[.int .i64 (r : Int), .int .i64 (r : Int)] 3)
    have HC := Tre.hid ((HN.out.front 0 rfl).front 1 rfl)
    clear HN
    have hH2 := HC.out.two 2 rfl
    refine LStep.made (some 30) (.slice (some ⟨wq.heap.size, 0, none⟩) 2 2) _ (by kernel_rfl) (by kernel_rfl) hH2 ?_
    refine lPu 10 (some 31) (.agg (stA wq.heap.size)) (by kernel_rfl) (fun _ _ _ h => h) (fun w => by kernel_rfl) (keep_of hH2) ?_
    exact outof_G hG (Z7.out b22 wq.heap.size a25 c25 _ HC) (by kernel_rfl) (by rw [hA.out]; try kernel_rfl)
   ·
    have HN := Tre.hid (HC.out.allocR #[.slice none 0 0, .int .i64 0] 24)
    have hH2 := HN.out.two 2 rfl
    refine LStep.made (some 4) (.pointer (some ⟨wq.heap.size, 0, none⟩)) _ (by kernel_rfl) (by kernel_rfl) hH2 ?_
    exact outof_G hG (Z11.out b22 wq.heap.size a25 c25 _ HN) (by kernel_rfl) (by rw [hA.out]; try kernel_rfl)⟩
  have Z16 : Kept (∀ (b22 : Nat) (b4 : Nat) (wq : World), Hid (Mem w wq [gbR b4 none 0 0 0, noR (some ⟨b22, 0, none⟩) 0 0 [], gbR w.heap.size (some ⟨ab, ao, none⟩) n ca r]) → G 7 (bt 16 16879) ((a0.put (some 22) (.slice (some ⟨b22, 0, none⟩) 0 0)).put (some 4) (.pointer (some ⟨b4, 0, none⟩))) wq) := ⟨by
   intro b22 b4 wq HC
   refine into_G hG ?_
   rw [hA.out]
   have hH := HC.out.two 2 rfl
   refine lTwo 4 9 (by kernel_rfl) ?_ ?_
   ·
    refine LStep.app (some 25) (.tmp 22) (.tmp 24) 22 (by kernel_rfl) 33 ii _ 5 80 Tryz.underlying22 J1.out J2.out J3.out J4.out rfl (by omega) (.slice (some ⟨b22, 0, none⟩) 0 0) 0 [] (by kernel_rfl) (HC.out.row 1 rfl) (some ⟨ab, ao, none⟩) n ca xs (by kernel_rfl) (HROW.out _ HC.out.below) HONE.out (by unfold maxLen; omega) (by omega) ?_
    intro v' wr hown4 hgrow4 hat4
    simp only [Nat.zero_add, List.nil_append] at hown4
    have M4 := HC.out.grow 1 rfl hgrow4 hown4 hat4
    obtain ⟨a25, c25, rfl, _⟩ := M4.val 1 rfl
    have HN := Tre.hid M4
    clear M4 hown4 hgrow4 hat4
    refine ⟨HN.out.two 2 rfl, fun hH2 => ?_⟩
    exact outof_G hG (Z11.out b22 b4 a25 c25 wr HN) (by kernel_rfl) (by rw [hA.out]; try kernel_rfl)
   ·
    have HN := Tre.hid (HC.out.allocR #[.int .i64 (r : Int), .int .i64 (r : Int)] 3)
    have HC := Tre.hid (((HN.out.front 0 rfl).front 2 rfl).front 2 rfl)
    clear HN
    have hH2 := HC.out.two 3 rfl
    refine LStep.made (some 30) (.slice (some ⟨wq.heap.size, 0, none⟩) 2 2) _ (by kernel_rfl) (by kernel_rfl) hH2 ?_
    refine lPu 10 (some 31) (.agg (stA wq.heap.size)) (by kernel_rfl) (fun _ _ _ h => h) (fun w => by kernel_rfl) (keep_of hH2) ?_
    exact outof_G hG (Z9.out b22 wq.heap.size b4 _ HC) (by kernel_rfl) (by rw [hA.out]; try kernel_rfl)⟩
  have Z17 : Kept (∀ (b30 : Nat) (wq : World), Hid (Mem w wq [cellsR b30 3 #[.int .i64 (r : Int), .int .i64 (r : Int)], gbR w.heap.size (some ⟨ab, ao, none⟩) n ca r]) → G 7 (bt 16 2029) ((a0.put (some 30) (.slice (some ⟨b30, 0, none⟩) 2 2)).put (some 31) (.agg (stA b30))) wq) := ⟨by
   intro b30 wq HC
   refine into_G hG ?_
   rw [hA.out]
   have hH := HC.out.two 1 rfl
   refine lThree 1 11 14 (by kernel_rfl) ?_ ?_ ?_
   ·
    have HN := Tre.hid (HC.out.allocRow #[] 33 5 0 (by unfold maxLen; omega) rfl)
    have hH2 := HN.out.two 2 rfl
    refine LStep.made (some 22) (.slice (some ⟨wq.heap.size, 0, none⟩) 0 0) _ (by kernel_rfl) (by kernel_rfl) hH2 ?_
    exact outof_G hG (Z12.out wq.heap.size b30 _ HN) (by kernel_rfl) (by rw [hA.out]; try kernel_rfl)
   ·
    have HN := Tre.hid (HC.out.allocRow (stA b30) 33 5 1 (by unfold maxLen; omega) rfl)
    have hH2 := HN.out.two 2 rfl
    refine LStep.made (some 32) (.slice (some ⟨wq.heap.size, 0, none⟩) 1 1) _ (by kernel_rfl) (by kernel_rfl) hH2 ?_
    exact outof_G hG (Z13.out b30 wq.heap.size _ HN) (by kernel_rfl) (by rw [hA.out]; try kernel_rfl)
   ·
    have HN := Tre.hid (HC.out.allocR #[.slice none 0 0, .int .i64 0] 24)
    have hH2 := HN.out.two 2 rfl
    refine LStep.made (some 4) (.pointer (some ⟨wq.heap.size, 0, none⟩)) _ (by kernel_rfl) (by kernel_rfl) hH2 ?_
    exact outof_G hG (Z14.out b30 wq.heap.size _ HN) (by kernel_rfl) (by rw [hA.out]; try kernel_rfl)⟩
  have Z18 : Kept (∀ (b22 : Nat) (wq : World), Hid (Mem w wq [noR (some ⟨b22, 0, none⟩) 0 0 [], gbR w.heap.size (some ⟨ab, ao, none⟩) n ca r]) → G 8 (bt 16 495) (a0.put (some 22) (.slice (some ⟨b22, 0, none⟩) 0 0)) wq) := ⟨by
   intro b22 wq HC
   refine into_G hG ?_
   rw [hA.out]
   have hH := HC.out.two 1 rfl
   refine lThree 4 9 14 (by kernel_rfl) ?_ ?_ ?_
   ·
    refine LStep.app (some 25) (.tmp 22) (.tmp 24) 22 (by kernel_rfl) 33 ii _ 5 80 Tryz.underlying22 J1.out J2.out J3.out J4.out rfl (by omega) (.slice (some ⟨b22, 0, none⟩) 0 0) 0 [] (by kernel_rfl) (HC.out.row 0 rfl) (some ⟨ab, ao, none⟩) n ca xs (by kernel_rfl) (HROW.out _ HC.out.below) HONE.out (by unfold maxLen; omega) (by omega) ?_
    intro v' wr hown4 hgrow4 hat4
    simp only [Nat.zero_add, List.nil_append] at hown4
    have M4 := HC.out.grow 0 rfl hgrow4 hown4 hat4
    obtain ⟨a25, c25, rfl, _⟩ := M4.val 0 rfl
    have HN := Tre.hid M4
    clear M4 hown4 hgrow4 hat4
    refine ⟨HN.out.two 1 rfl, fun hH2 => ?_⟩
    exact outof_G hG (Z15.out b22 a25 c25 wr HN) (by kernel_rfl) (by rw [hA.out]; try kernel_rfl)
   ·
    have HN := Tre.hid (HC.out.allocR #[.int .i64 (r : Int), .int .i64 (r : Int)] 3)
    have HC := Tre.hid ((HN.out.front 0 rfl).front 1 rfl)
    clear HN
    have hH2 := HC.out.two 2 rfl
    refine LStep.made (some 30) (.slice (some ⟨wq.heap.size, 0, none⟩) 2 2) _ (by kernel_rfl) (by kernel_rfl) hH2 ?_
    refine lPu 10 (some 31) (.agg (stA wq.heap.size)) (by kernel_rfl) (fun _ _ _ h => h) (fun w => by kernel_rfl) (keep_of hH2) ?_
    exact outof_G hG (Z12.out b22 wq.heap.size _ HC) (by kernel_rfl) (by rw [hA.out]; try kernel_rfl)
   ·
    have HN := Tre.hid (HC.out.allocR #[.slice none 0 0, .int .i64 0] 24)
    have hH2 := HN.out.two 2 rfl
    refine LStep.made (some 4) (.pointer (some ⟨wq.heap.size, 0, none⟩)) _ (by kernel_rfl) (by kernel_rfl) hH2 ?_
    exact outof_G hG (Z16.out b22 wq.heap.size _ HN) (by kernel_rfl) (by rw [hA.out]; try kernel_rfl)⟩
  have Z19 : Kept (∀ (b4 : Nat) (wq : World), Hid (Mem w wq [gbR b4 none 0 0 0, gbR w.heap.size (some ⟨ab, ao, none⟩) n ca r]) → G 8 (bt 16 16877) (a0.put (some 4) (.pointer (some ⟨b4, 0, none⟩))) wq) := ⟨by
   intro b4 wq HC
   refine into_G hG ?_
   rw [hA.out]
   have hH := HC.out.two 1 rfl
   refine lTwo 1 9 (by kernel_rfl) ?_ ?_
   ·
    have HN := Tre.hid (HC.out.allocRow #[] 33 5 0 (by unfold maxLen; omega) rfl)
    have HC := Tre.hid ((HN.out.front 0 rfl).front 1 rfl)
    clear HN
    have hH2 := HC.out.two 2 rfl
    refine LStep.made (some 22) (.slice (some ⟨wq.heap.size, 0, none⟩) 0 0) _ (by kernel_rfl) (by kernel_rfl) hH2 ?_
    exact outof_G hG (Z16.out wq.heap.size b4 _ HC) (by kernel_rfl) (by rw [hA.out]; try kernel_rfl)
   ·
    have HN := Tre.hid (HC.out.allocR #[.int .i64 (r : Int), .int .i64 (r : Int)] 3)
    have HC := Tre.hid ((HN.out.front 0 rfl).front 1 rfl)
    clear HN
    have hH2 := HC.out.two 2 rfl
    refine LStep.made (some 30) (.slice (some ⟨wq.heap.size, 0, none⟩) 2 2) _ (by kernel_rfl) (by kernel_rfl) hH2 ?_
    refine lPu 10 (some 31) (.agg (stA wq.heap.size)) (by kernel_rfl) (fun _ _ _ h => h) (fun w => by kernel_rfl) (keep_of hH2) ?_
    exact outof_G hG (Z14.out wq.heap.size b4 _ HC) (by kernel_rfl) (by rw [hA.out]; try kernel_rfl)⟩
  have Z20 : Kept (∀ (wq : World), Hid (Mem w wq [gbR w.heap.size (some ⟨ab, ao, none⟩) n ca r]) → G 9 (bt 16 493) (a0) wq) := ⟨by
   intro  wq HC
   refine into_G hG ?_
   rw [hA.out]
   have hH := HC.out.two 0 rfl
   refine lThree 1 9 14 (by kernel_rfl) ?_ ?_ ?_
   ·
    have HN := Tre.hid (HC.out.allocRow #[] 33 5 0 (by unfold maxLen; omega) rfl)
    have hH2 := HN.out.two 1 rfl
    refine LStep.made (some 22) (.slice (some ⟨wq.heap.size, 0, none⟩) 0 0) _ (by kernel_rfl) (by kernel_rfl) hH2 ?_
    exact outof_G hG (Z18.out wq.heap.size _ HN) (by kernel_rfl) (by rw [hA.out]; try kernel_rfl)
   ·
    have HN := Tre.hid (HC.out.allocR #[.int .i64 (r : Int), .int .i64 (r : Int)] 3)
    have hH2 := HN.out.two 1 rfl
    refine LStep.made (some 30) (.slice (some ⟨wq.heap.size, 0, none⟩) 2 2) _ (by kernel_rfl) (by kernel_rfl) hH2 ?_
    refine lPu 10 (some 31) (.agg (stA wq.heap.size)) (by kernel_rfl) (fun _ _ _ h => h) (fun w => by kernel_rfl) (keep_of hH2) ?_
    exact outof_G hG (Z17.out wq.heap.size _ HN) (by kernel_rfl) (by rw [hA.out]; try kernel_rfl)
   ·
    have HN := Tre.hid (HC.out.allocR #[.slice none 0 0, .int .i64 0] 24)
    have hH2 := HN.out.two 1 rfl
    refine LStep.made (some 4) (.pointer (some ⟨wq.heap.size, 0, none⟩)) _ (by kernel_rfl) (by kernel_rfl) hH2 ?_
    exact outof_G hG (Z19.out wq.heap.size _ HN) (by kernel_rfl) (by rw [hA.out]; try kernel_rfl)⟩
  exact Z20.out  wq0 HC
 case rest =>
  clear g0 g1
  obtain ⟨b4, a33, c33, b30, rfl, HM5⟩ := hcut
  clear HM4
  obtain ⟨g0, g1⟩ := HM5.out.two 3 rfl
  go_upto_region 7 with fail
  go_cut [5] (fun s5 wx => ∃ (b5 : Nat) (a51 : Option Addr) (c51 : Nat) (b41 b43 b48 : Nat), s5 = .pointer (some ⟨b5, 0, none⟩) ∧ Hid (Mem w wx [gbR b5 a51 (n + 2) c51 ((n : Int) + 1), noR a51 (n + 2) c51 (xs ++ (usA b43 b41 b48).toList), cellsR b41 9 #[.string { data := #[117, 110, 117, 115, 117, 97, 108] }], cellsR b43 3 #[.int .i64 (n : Int)], cellsR b48 3 #[.int .i64 (r : Int), .int .i64 (n : Int)], gbR b4 a33 (n + 1) c33 n, noR a33 (n + 1) c33 (xs ++ (stA b30).toList), cellsR b30 3 #[.int .i64 (r : Int), .int .i64 (r : Int)], gbR w.heap.size (some ⟨ab, ao, none⟩) n ca r]))
  case first =>
   clear g0 g1 HX HT HPO HPL HOO HOL HPW HOW HPN HON HPR HOR HPNS HONS HLL HDV HDS HLG HGR HDL hdl CG wg t2 u3 hrl
   refine wp_region_keep (S := (fun w' => w'.cell? ⟨w.heap.size, 0, none⟩ = some (.slice (some ⟨ab, ao, none⟩) n ca) ∧ w'.cell? ⟨w.heap.size, 1, none⟩ = some (.int .i64 (r : Int)))) [16, 19] (by kernel_rfl) ?_ (fun hH => ?_)
   ·exact HM5.out.drew.two 3 rfl
   have HC := Tre.hid HM5.out.drew
   generalize hq : World.drew _ = wq0 at HC hH ⊢
   clear hq
   refine lPu 0 (some 35) (.int .i64 (n : Int)) (by kernel_rfl) (fun _ _ _ h => h) (fun w => by kernel_rfl) (keep_of hH) ?_
   refine lPu 1 (some 36) (.int .i64 ((n : Int) + 1)) (by kernel_rfl) (fun _ _ _ h => h) (fun w => Eq.trans (b := some (true, .ok (.value (.int .i64 (IntKind.i64.wrap ((n : Int) + 1)))) w)) (by kernel_rfl) (by rw [IntWalk.i64_in ((n : Int) + 1) (by omega)])) (keep_of hH) ?_
   refine lPu 3 (some 38) (.pointer (some ⟨w.heap.size, 0, none⟩)) (by kernel_rfl) (fun _ _ _ h => h) (fun w => by kernel_rfl) (keep_of hH) ?_
   try simp only [Act.put, Tre.qf, Tre.qg, Tre.qh]
   refine lTake (i := 4) (some 39) (v := ?_) (by rfl) (by kernel_rfl) (by kernel_rfl) (by kernel_rfl) (by kernel_rfl) (by kernel_rfl) (fun _ _ _ h => h) (by rfl) ?_ hH ?_
   rotate_left
   ·intro w hSw; (try dsimp only at hSw); simp only [Tre.qa, Tre.qb, Tre.qc, Tre.qd, Tre.qe]; (first | (go_simp; done) | (go_simp; with_reducible rfl))
   try simp only [Act.put, Tre.qf, Tre.qg, Tre.qh]
   refine lPu 7 (some 42) (.int .i64 (n : Int)) (by kernel_rfl) (fun _ _ _ h => h) (fun w => by kernel_rfl) (keep_of hH) ?_
   refine lPu 10 (some 45) (.pointer (some ⟨w.heap.size, 1, none⟩)) (by kernel_rfl) (fun _ _ _ h => h) (fun w => by kernel_rfl) (keep_of hH) ?_
   try simp only [Act.put, Tre.qf, Tre.qg, Tre.qh]
   refine lTake (i := 11) (some 46) (v := ?_) (by rfl) (by kernel_rfl) (by kernel_rfl) (by kernel_rfl) (by kernel_rfl) (by kernel_rfl) (fun _ _ _ h => h) (by rfl) ?_ hH ?_
   rotate_left
   ·intro w hSw; (try dsimp only at hSw); simp only [Tre.qa, Tre.qb, Tre.qc, Tre.qd, Tre.qe]; (first | (go_simp; done) | (go_simp; with_reducible rfl))
   try simp only [Act.put, Tre.qf, Tre.qg, Tre.qh]
   refine lPu 12 (some 47) (.int .i64 (n : Int)) (by kernel_rfl) (fun _ _ _ h => h) (fun w => by kernel_rfl) (keep_of hH) ?_
   try simp only [Act.put, Tre.qf, Tre.qg, Tre.qh]
   refine with_G (G0 := wpAnyL _ _ _ _ _ _) ?_
   intro G hG a0 hA
   have Z0 : Kept (∀ (b37 : Nat) (b41 : Nat) (b43 : Nat) (b48 : Nat) (b50 : Nat) (b5 : Nat) (a40 : Option Addr) (c40 : Nat) (a51 : Option Addr) (c51 : Nat) (wq : World), Hid (Mem w wq [gbR b5 a51 (n + 2) c51 ((n : Int) + 1), noR a51 (n + 2) c51 (xs ++ (usA b43 b41 b48).toList), cellsR b41 9 #[.string { data := #[117, 110, 117, 115, 117, 97, 108] }], cellsR b43 3 #[.int .i64 (n : Int)], cellsR b48 3 #[.int .i64 (r : Int), .int .i64 (n : Int)], gbR b4 a33 (n + 1) c33 n, noR a33 (n + 1) c33 (xs ++ (stA b30).toList), cellsR b30 3 #[.int .i64 (r : Int), .int .i64 (r : Int)], gbR w.heap.size (some ⟨ab, ao, none⟩) n ca r]) → G 0 (bt 20 1048575) (((((((((((a0.put (some 37) (.slice (some ⟨b37, 0, none⟩) 0 0)).put (some 40) (.slice a40 n c40)).put (some 41) (.slice (some ⟨b41, 0, none⟩) 1 1)).put (some 43) (.slice (some ⟨b43, 0, none⟩) 1 1)).put (some 44) (.agg (unA b43 b41))).put (some 48) (.slice (some ⟨b48, 0, none⟩) 2 2)).put (some 49) (.agg (stA b48))).put (some 50) (.slice (some ⟨b50, 0, none⟩) 2 2)).put (some 51) (.slice a51 (n + 2) c51)).put (some 52) (.agg #[.slice a51 (n + 2) c51, .int .i64 ((n : Int) + 1)])).put (some 5) (.pointer (some ⟨b5, 0, none⟩))) wq) := ⟨by
    intro b37 b41 b43 b48 b50 b5 a40 c40 a51 c51 wq HC
    refine into_G hG ?_
    rw [hA.out]
    simp only [Act.put, Tre.qf, Tre.qg, Tre.qh]
    refine lDone (by kernel_rfl) ?_
    clear hA hG
    go_wp2_with fail
    go_meet
    exact ⟨b5, a51, c51, b41, b43, b48, rfl, HC.out⟩⟩
   have Z1 : Kept (∀ (b37 : Nat) (b41 : Nat) (b43 : Nat) (b48 : Nat) (b50 : Nat) (b5 : Nat) (a40 : Option Addr) (c40 : Nat) (a51 : Option Addr) (c51 : Nat) (wq : World), Hid (Mem w wq [gbR b5 none 0 0 0, noR a51 (n + 2) c51 (xs ++ (usA b43 b41 b48).toList), cellsR b41 9 #[.string { data := #[117, 110, 117, 115, 117, 97, 108] }], cellsR b43 3 #[.int .i64 (n : Int)], cellsR b48 3 #[.int .i64 (r : Int), .int .i64 (n : Int)], gbR b4 a33 (n + 1) c33 n, noR a33 (n + 1) c33 (xs ++ (stA b30).toList), cellsR b30 3 #[.int .i64 (r : Int), .int .i64 (r : Int)], gbR w.heap.size (some ⟨ab, ao, none⟩) n ca r]) → G 1 (bt 20 524287) (((((((((((a0.put (some 37) (.slice (some ⟨b37, 0, none⟩) 0 0)).put (some 40) (.slice a40 n c40)).put (some 41) (.slice (some ⟨b41, 0, none⟩) 1 1)).put (some 43) (.slice (some ⟨b43, 0, none⟩) 1 1)).put (some 44) (.agg (unA b43 b41))).put (some 48) (.slice (some ⟨b48, 0, none⟩) 2 2)).put (some 49) (.agg (stA b48))).put (some 50) (.slice (some ⟨b50, 0, none⟩) 2 2)).put (some 51) (.slice a51 (n + 2) c51)).put (some 52) (.agg #[.slice a51 (n + 2) c51, .int .i64 ((n : Int) + 1)])).put (some 5) (.pointer (some ⟨b5, 0, none⟩))) wq) := ⟨by
    intro b37 b41 b43 b48 b50 b5 a40 c40 a51 c51 wq HC
    refine into_G hG ?_
    rw [hA.out]
    simp only [Act.put, Tre.qf, Tre.qg, Tre.qh]
    refine lOne 19 (by kernel_rfl) ?_
    ·
     refine (LFall.op (by kernel_rfl) (fun K hK => ?_))
     have z0 := HC.out.free 0 rfl 0
     have z1 := HC.out.free 0 rfl 1
     obtain ⟨y0, y1⟩ := HC.out.two 0 rfl
     have HN := Tre.hid ((HC.out.setCell 0 rfl 0 (.slice a51 (n + 2) c51)).setCell 0 rfl 1 (.int .i64 ((n : Int) + 1)))
     go_simp
     clear z0 z1 y0 y1
     generalize hw : (wq.setCell ⟨b5, 0, none⟩ _).setCell ⟨b5, 1, none⟩ _ = wr at HN ⊢
     clear hw
     refine hK.out _ _ ?_
     exact outof_G hG (Z0.out b37 b41 b43 b48 b50 b5 a40 c40 a51 c51 wr HN) (by kernel_rfl) (by rw [hA.out]; try kernel_rfl)⟩
   have Z2 : Kept (∀ (b37 : Nat) (b41 : Nat) (b43 : Nat) (b48 : Nat) (b50 : Nat) (a40 : Option Addr) (c40 : Nat) (a51 : Option Addr) (c51 : Nat) (wq : World), Hid (Mem w wq [noR a51 (n + 2) c51 (xs ++ (usA b43 b41 b48).toList), cellsR b41 9 #[.string { data := #[117, 110, 117, 115, 117, 97, 108] }], cellsR b43 3 #[.int .i64 (n : Int)], cellsR b48 3 #[.int .i64 (r : Int), .int .i64 (n : Int)], gbR b4 a33 (n + 1) c33 n, noR a33 (n + 1) c33 (xs ++ (stA b30).toList), cellsR b30 3 #[.int .i64 (r : Int), .int .i64 (r : Int)], gbR w.heap.size (some ⟨ab, ao, none⟩) n ca r]) → G 2 (bt 20 262143) ((((((((((a0.put (some 37) (.slice (some ⟨b37, 0, none⟩) 0 0)).put (some 40) (.slice a40 n c40)).put (some 41) (.slice (some ⟨b41, 0, none⟩) 1 1)).put (some 43) (.slice (some ⟨b43, 0, none⟩) 1 1)).put (some 44) (.agg (unA b43 b41))).put (some 48) (.slice (some ⟨b48, 0, none⟩) 2 2)).put (some 49) (.agg (stA b48))).put (some 50) (.slice (some ⟨b50, 0, none⟩) 2 2)).put (some 51) (.slice a51 (n + 2) c51)).put (some 52) (.agg #[.slice a51 (n + 2) c51, .int .i64 ((n : Int) + 1)])) wq) := ⟨by
    intro b37 b41 b43 b48 b50 a40 c40 a51 c51 wq HC
    refine into_G hG ?_
    rw [hA.out]
    refine lOne 18 (by kernel_rfl) ?_
    ·
     have HN := Tre.hid (HC.out.allocR #[.slice none 0 0, .int .i64 0] 24)
     refine LFall.made (some 5) (.pointer (some ⟨wq.heap.size, 0, none⟩)) (wq.alloc (.cells #[.slice none 0 0, .int .i64 0] 24)) (by kernel_rfl) (by kernel_rfl) (by kernel_rfl) ?_
     exact outof_G hG (Z1.out b37 b41 b43 b48 b50 wq.heap.size a40 c40 a51 c51 _ HN) (by kernel_rfl) (by rw [hA.out]; try kernel_rfl)⟩
   have Z3 : Kept (∀ (b37 : Nat) (b41 : Nat) (b43 : Nat) (b48 : Nat) (b50 : Nat) (b5 : Nat) (a40 : Option Addr) (c40 : Nat) (wq : World), Hid (Mem w wq [gbR b5 none 0 0 0, noR a40 n c40 xs, noR (some ⟨b50, 0, none⟩) 2 2 (usA b43 b41 b48).toList, cellsR b41 9 #[.string { data := #[117, 110, 117, 115, 117, 97, 108] }], cellsR b43 3 #[.int .i64 (n : Int)], cellsR b48 3 #[.int .i64 (r : Int), .int .i64 (n : Int)], gbR b4 a33 (n + 1) c33 n, noR a33 (n + 1) c33 (xs ++ (stA b30).toList), cellsR b30 3 #[.int .i64 (r : Int), .int .i64 (r : Int)], gbR w.heap.size (some ⟨ab, ao, none⟩) n ca r]) → G 3 (bt 20 327679) (((((((((a0.put (some 37) (.slice (some ⟨b37, 0, none⟩) 0 0)).put (some 40) (.slice a40 n c40)).put (some 41) (.slice (some ⟨b41, 0, none⟩) 1 1)).put (some 43) (.slice (some ⟨b43, 0, none⟩) 1 1)).put (some 44) (.agg (unA b43 b41))).put (some 48) (.slice (some ⟨b48, 0, none⟩) 2 2)).put (some 49) (.agg (stA b48))).put (some 50) (.slice (some ⟨b50, 0, none⟩) 2 2)).put (some 5) (.pointer (some ⟨b5, 0, none⟩))) wq) := ⟨by
    intro b37 b41 b43 b48 b50 b5 a40 c40 wq HC
    refine into_G hG ?_
    rw [hA.out]
    have hH := HC.out.two 9 rfl
    refine lOne 16 (by kernel_rfl) ?_
    ·
     refine LFall.app (by kernel_rfl) (some 51) (.tmp 40) (.tmp 50) 22 (by kernel_rfl) 33 ii _ 5 80 Tryz.underlying22 J1.out J2.out J3.out J4.out rfl (by omega) (.slice a40 n c40) n xs (by kernel_rfl) (HC.out.row 1 rfl) (some ⟨b50, 0, none⟩) 2 2 (usA b43 b41 b48).toList (by kernel_rfl) (nrow5 (HC.out.row 2 rfl)) (us_one _ _ _) (by unfold maxLen; omega) (by omega) ?_
     intro v' wr hown4 hgrow4 hat4
     have M4 := HC.out.grow 1 rfl hgrow4 hown4 hat4
     obtain ⟨a51, c51, rfl, _⟩ := M4.val 1 rfl
     have HN := Tre.hid (M4.del 2)
     clear M4 hown4 hgrow4 hat4
     refine lPu 17 (some 52) (.agg #[.slice a51 (n + 2) c51, .int .i64 ((n : Int) + 1)]) (by kernel_rfl) (fun _ _ _ h => h) (fun w => by kernel_rfl) (keep_fell (by kernel_rfl)) ?_
     exact outof_G hG (Z1.out b37 b41 b43 b48 b50 b5 a40 c40 a51 c51 wr HN) (by kernel_rfl) (by rw [hA.out]; try kernel_rfl)⟩
   have Z4 : Kept (∀ (b37 : Nat) (b41 : Nat) (b43 : Nat) (b48 : Nat) (b50 : Nat) (a40 : Option Addr) (c40 : Nat) (wq : World), Hid (Mem w wq [noR a40 n c40 xs, noR (some ⟨b50, 0, none⟩) 2 2 (usA b43 b41 b48).toList, cellsR b41 9 #[.string { data := #[117, 110, 117, 115, 117, 97, 108] }], cellsR b43 3 #[.int .i64 (n : Int)], cellsR b48 3 #[.int .i64 (r : Int), .int .i64 (n : Int)], gbR b4 a33 (n + 1) c33 n, noR a33 (n + 1) c33 (xs ++ (stA b30).toList), cellsR b30 3 #[.int .i64 (r : Int), .int .i64 (r : Int)], gbR w.heap.size (some ⟨ab, ao, none⟩) n ca r]) → G 4 (bt 20 65535) ((((((((a0.put (some 37) (.slice (some ⟨b37, 0, none⟩) 0 0)).put (some 40) (.slice a40 n c40)).put (some 41) (.slice (some ⟨b41, 0, none⟩) 1 1)).put (some 43) (.slice (some ⟨b43, 0, none⟩) 1 1)).put (some 44) (.agg (unA b43 b41))).put (some 48) (.slice (some ⟨b48, 0, none⟩) 2 2)).put (some 49) (.agg (stA b48))).put (some 50) (.slice (some ⟨b50, 0, none⟩) 2 2)) wq) := ⟨by
    intro b37 b41 b43 b48 b50 a40 c40 wq HC
    refine into_G hG ?_
    rw [hA.out]
    have hH := HC.out.two 8 rfl
    refine lTwo 16 18 (by kernel_rfl) ?_ ?_
    ·
     refine LFall.app (by kernel_rfl) (some 51) (.tmp 40) (.tmp 50) 22 (by kernel_rfl) 33 ii _ 5 80 Tryz.underlying22 J1.out J2.out J3.out J4.out rfl (by omega) (.slice a40 n c40) n xs (by kernel_rfl) (HC.out.row 0 rfl) (some ⟨b50, 0, none⟩) 2 2 (usA b43 b41 b48).toList (by kernel_rfl) (nrow5 (HC.out.row 1 rfl)) (us_one _ _ _) (by unfold maxLen; omega) (by omega) ?_
     intro v' wr hown4 hgrow4 hat4
     have M4 := HC.out.grow 0 rfl hgrow4 hown4 hat4
     obtain ⟨a51, c51, rfl, _⟩ := M4.val 0 rfl
     have HN := Tre.hid (M4.del 1)
     clear M4 hown4 hgrow4 hat4
     refine lPu 17 (some 52) (.agg #[.slice a51 (n + 2) c51, .int .i64 ((n : Int) + 1)]) (by kernel_rfl) (fun _ _ _ h => h) (fun w => by kernel_rfl) (keep_fell (by kernel_rfl)) ?_
     exact outof_G hG (Z2.out b37 b41 b43 b48 b50 a40 c40 a51 c51 wr HN) (by kernel_rfl) (by rw [hA.out]; try kernel_rfl)
    ·
     have HN := Tre.hid (HC.out.allocR #[.slice none 0 0, .int .i64 0] 24)
     have hH2 := HN.out.two 9 rfl
     refine LStep.made (some 5) (.pointer (some ⟨wq.heap.size, 0, none⟩)) _ (by kernel_rfl) (by kernel_rfl) hH2 ?_
     exact outof_G hG (Z3.out b37 b41 b43 b48 b50 wq.heap.size a40 c40 _ HN) (by kernel_rfl) (by rw [hA.out]; try kernel_rfl)⟩
   have Z5 : Kept (∀ (b37 : Nat) (b41 : Nat) (b43 : Nat) (b48 : Nat) (b5 : Nat) (a40 : Option Addr) (c40 : Nat) (wq : World), Hid (Mem w wq [gbR b5 none 0 0 0, noR a40 n c40 xs, cellsR b41 9 #[.string { data := #[117, 110, 117, 115, 117, 97, 108] }], cellsR b43 3 #[.int .i64 (n : Int)], cellsR b48 3 #[.int .i64 (r : Int), .int .i64 (n : Int)], gbR b4 a33 (n + 1) c33 n, noR a33 (n + 1) c33 (xs ++ (stA b30).toList), cellsR b30 3 #[.int .i64 (r : Int), .int .i64 (r : Int)], gbR w.heap.size (some ⟨ab, ao, none⟩) n ca r]) → G 4 (bt 20 294911) ((((((((a0.put (some 37) (.slice (some ⟨b37, 0, none⟩) 0 0)).put (some 40) (.slice a40 n c40)).put (some 41) (.slice (some ⟨b41, 0, none⟩) 1 1)).put (some 43) (.slice (some ⟨b43, 0, none⟩) 1 1)).put (some 44) (.agg (unA b43 b41))).put (some 48) (.slice (some ⟨b48, 0, none⟩) 2 2)).put (some 49) (.agg (stA b48))).put (some 5) (.pointer (some ⟨b5, 0, none⟩))) wq) := ⟨by
    intro b37 b41 b43 b48 b5 a40 c40 wq HC
    refine into_G hG ?_
    rw [hA.out]
    have hH := HC.out.two 8 rfl
    refine lOne 15 (by kernel_rfl) ?_
    ·
     have HN := Tre.hid (HC.out.allocRow (usA b43 b41 b48) 33 5 2 (by unfold maxLen; omega) rfl)
     have HC := Tre.hid (((HN.out.front 0 rfl).front 2 rfl).front 2 rfl)
     clear HN
     have hH2 := HC.out.two 9 rfl
     refine LStep.made (some 50) (.slice (some ⟨wq.heap.size, 0, none⟩) 2 2) _ (by kernel_rfl) (by kernel_rfl) hH2 ?_
     exact outof_G hG (Z3.out b37 b41 b43 b48 wq.heap.size b5 a40 c40 _ HC) (by kernel_rfl) (by rw [hA.out]; try kernel_rfl)⟩
   have Z6 : Kept (∀ (b37 : Nat) (b41 : Nat) (b43 : Nat) (b48 : Nat) (b50 : Nat) (b5 : Nat) (wq : World), Hid (Mem w wq [gbR b5 none 0 0 0, noR (some ⟨b37, 0, none⟩) 0 0 [], noR (some ⟨b50, 0, none⟩) 2 2 (usA b43 b41 b48).toList, cellsR b41 9 #[.string { data := #[117, 110, 117, 115, 117, 97, 108] }], cellsR b43 3 #[.int .i64 (n : Int)], cellsR b48 3 #[.int .i64 (r : Int), .int .i64 (n : Int)], gbR b4 a33 (n + 1) c33 n, noR a33 (n + 1) c33 (xs ++ (stA b30).toList), cellsR b30 3 #[.int .i64 (r : Int), .int .i64 (r : Int)], gbR w.heap.size (some ⟨ab, ao, none⟩) n ca r]) → G 4 (bt 20 327647) ((((((((a0.put (some 37) (.slice (some ⟨b37, 0, none⟩) 0 0)).put (some 41) (.slice (some ⟨b41, 0, none⟩) 1 1)).put (some 43) (.slice (some ⟨b43, 0, none⟩) 1 1)).put (some 44) (.agg (unA b43 b41))).put (some 48) (.slice (some ⟨b48, 0, none⟩) 2 2)).put (some 49) (.agg (stA b48))).put (some 50) (.slice (some ⟨b50, 0, none⟩) 2 2)).put (some 5) (.pointer (some ⟨b5, 0, none⟩))) wq) := ⟨by
    intro b37 b41 b43 b48 b50 b5 wq HC
    refine into_G hG ?_
    rw [hA.out]
    have hH := HC.out.two 9 rfl
    refine lOne 5 (by kernel_rfl) ?_
    ·
     refine LStep.app (some 40) (.tmp 37) (.tmp 39) 22 (by kernel_rfl) 33 ii _ 5 80 Tryz.underlying22 J1.out J2.out J3.out J4.out rfl (by omega) (.slice (some ⟨b37, 0, none⟩) 0 0) 0 [] (by kernel_rfl) (HC.out.row 1 rfl) (some ⟨ab, ao, none⟩) n ca xs (by kernel_rfl) (HROW.out _ HC.out.below) HONE.out (by unfold maxLen; omega) (by omega) ?_
     intro v' wr hown4 hgrow4 hat4
     simp only [Nat.zero_add, List.nil_append] at hown4
     have M4 := HC.out.grow 1 rfl hgrow4 hown4 hat4
     obtain ⟨a40, c40, rfl, _⟩ := M4.val 1 rfl
     have HN := Tre.hid M4
     clear M4 hown4 hgrow4 hat4
     refine ⟨HN.out.two 9 rfl, fun hH2 => ?_⟩
     exact outof_G hG (Z3.out b37 b41 b43 b48 b50 b5 a40 c40 wr HN) (by kernel_rfl) (by rw [hA.out]; try kernel_rfl)⟩
   have Z7 : Kept (∀ (b37 : Nat) (b41 : Nat) (b43 : Nat) (b48 : Nat) (a40 : Option Addr) (c40 : Nat) (wq : World), Hid (Mem w wq [noR a40 n c40 xs, cellsR b41 9 #[.string { data := #[117, 110, 117, 115, 117, 97, 108] }], cellsR b43 3 #[.int .i64 (n : Int)], cellsR b48 3 #[.int .i64 (r : Int), .int .i64 (n : Int)], gbR b4 a33 (n + 1) c33 n, noR a33 (n + 1) c33 (xs ++ (stA b30).toList), cellsR b30 3 #[.int .i64 (r : Int), .int .i64 (r : Int)], gbR w.heap.size (some ⟨ab, ao, none⟩) n ca r]) → G 5 (bt 20 32767) (((((((a0.put (some 37) (.slice (some ⟨b37, 0, none⟩) 0 0)).put (some 40) (.slice a40 n c40)).put (some 41) (.slice (some ⟨b41, 0, none⟩) 1 1)).put (some 43) (.slice (some ⟨b43, 0, none⟩) 1 1)).put (some 44) (.agg (unA b43 b41))).put (some 48) (.slice (some ⟨b48, 0, none⟩) 2 2)).put (some 49) (.agg (stA b48))) wq) := ⟨by
    intro b37 b41 b43 b48 a40 c40 wq HC
    refine into_G hG ?_
    rw [hA.out]
    have hH := HC.out.two 7 rfl
    refine lTwo 15 18 (by kernel_rfl) ?_ ?_
    ·
     have HN := Tre.hid (HC.out.allocRow (usA b43 b41 b48) 33 5 2 (by unfold maxLen; omega) rfl)
     have HC := Tre.hid ((HN.out.front 0 rfl).front 1 rfl)
     clear HN
     have hH2 := HC.out.two 8 rfl
     refine LStep.made (some 50) (.slice (some ⟨wq.heap.size, 0, none⟩) 2 2) _ (by kernel_rfl) (by kernel_rfl) hH2 ?_
     exact outof_G hG (Z4.out b37 b41 b43 b48 wq.heap.size a40 c40 _ HC) (by kernel_rfl) (by rw [hA.out]; try kernel_rfl)
    ·
     have HN := Tre.hid (HC.out.allocR #[.slice none 0 0, .int .i64 0] 24)
     have hH2 := HN.out.two 8 rfl
     refine LStep.made (some 5) (.pointer (some ⟨wq.heap.size, 0, none⟩)) _ (by kernel_rfl) (by kernel_rfl) hH2 ?_
     exact outof_G hG (Z5.out b37 b41 b43 b48 wq.heap.size a40 c40 _ HN) (by kernel_rfl) (by rw [hA.out]; try kernel_rfl)⟩
   have Z8 : Kept (∀ (b37 : Nat) (b41 : Nat) (b43 : Nat) (b48 : Nat) (b50 : Nat) (wq : World), Hid (Mem w wq [noR (some ⟨b37, 0, none⟩) 0 0 [], noR (some ⟨b50, 0, none⟩) 2 2 (usA b43 b41 b48).toList, cellsR b41 9 #[.string { data := #[117, 110, 117, 115, 117, 97, 108] }], cellsR b43 3 #[.int .i64 (n : Int)], cellsR b48 3 #[.int .i64 (r : Int), .int .i64 (n : Int)], gbR b4 a33 (n + 1) c33 n, noR a33 (n + 1) c33 (xs ++ (stA b30).toList), cellsR b30 3 #[.int .i64 (r : Int), .int .i64 (r : Int)], gbR w.heap.size (some ⟨ab, ao, none⟩) n ca r]) → G 5 (bt 20 65503) (((((((a0.put (some 37) (.slice (some ⟨b37, 0, none⟩) 0 0)).put (some 41) (.slice (some ⟨b41, 0, none⟩) 1 1)).put (some 43) (.slice (some ⟨b43, 0, none⟩) 1 1)).put (some 44) (.agg (unA b43 b41))).put (some 48) (.slice (some ⟨b48, 0, none⟩) 2 2)).put (some 49) (.agg (stA b48))).put (some 50) (.slice (some ⟨b50, 0, none⟩) 2 2)) wq) := ⟨by
    intro b37 b41 b43 b48 b50 wq HC
    refine into_G hG ?_
    rw [hA.out]
    have hH := HC.out.two 8 rfl
    refine lTwo 5 18 (by kernel_rfl) ?_ ?_
    ·
     refine LStep.app (some 40) (.tmp 37) (.tmp 39) 22 (by kernel_rfl) 33 ii _ 5 80 Tryz.underlying22 J1.out J2.out J3.out J4.out rfl (by omega) (.slice (some ⟨b37, 0, none⟩) 0 0) 0 [] (by kernel_rfl) (HC.out.row 0 rfl) (some ⟨ab, ao, none⟩) n ca xs (by kernel_rfl) (HROW.out _ HC.out.below) HONE.out (by unfold maxLen; omega) (by omega) ?_
     intro v' wr hown4 hgrow4 hat4
     simp only [Nat.zero_add, List.nil_append] at hown4
     have M4 := HC.out.grow 0 rfl hgrow4 hown4 hat4
     obtain ⟨a40, c40, rfl, _⟩ := M4.val 0 rfl
     have HN := Tre.hid M4
     clear M4 hown4 hgrow4 hat4
     refine ⟨HN.out.two 8 rfl, fun hH2 => ?_⟩
     exact outof_G hG (Z4.out b37 b41 b43 b48 b50 a40 c40 wr HN) (by kernel_rfl) (by rw [hA.out]; try kernel_rfl)
    ·
     have HN := Tre.hid (HC.out.allocR #[.slice none 0 0, .int .i64 0] 24)
     have hH2 := HN.out.two 9 rfl
     refine LStep.made (some 5) (.pointer (some ⟨wq.heap.size, 0, none⟩)) _ (by kernel_rfl) (by kernel_rfl) hH2 ?_
     exact outof_G hG (Z6.out b37 b41 b43 b48 b50 wq.heap.size _ HN) (by kernel_rfl) (by rw [hA.out]; try kernel_rfl)⟩
   have Z9 : Kept (∀ (b37 : Nat) (b41 : Nat) (b43 : Nat) (b48 : Nat) (b5 : Nat) (wq : World), Hid (Mem w wq [gbR b5 none 0 0 0, noR (some ⟨b37, 0, none⟩) 0 0 [], cellsR b41 9 #[.string { data := #[117, 110, 117, 115, 117, 97, 108] }], cellsR b43 3 #[.int .i64 (n : Int)], cellsR b48 3 #[.int .i64 (r : Int), .int .i64 (n : Int)], gbR b4 a33 (n + 1) c33 n, noR a33 (n + 1) c33 (xs ++ (stA b30).toList), cellsR b30 3 #[.int .i64 (r : Int), .int .i64 (r : Int)], gbR w.heap.size (some ⟨ab, ao, none⟩) n ca r]) → G 5 (bt 20 294879) (((((((a0.put (some 37) (.slice (some ⟨b37, 0, none⟩) 0 0)).put (some 41) (.slice (some ⟨b41, 0, none⟩) 1 1)).put (some 43) (.slice (some ⟨b43, 0, none⟩) 1 1)).put (some 44) (.agg (unA b43 b41))).put (some 48) (.slice (some ⟨b48, 0, none⟩) 2 2)).put (some 49) (.agg (stA b48))).put (some 5) (.pointer (some ⟨b5, 0, none⟩))) wq) := ⟨by
    intro b37 b41 b43 b48 b5 wq HC
    refine into_G hG ?_
    rw [hA.out]
    have hH := HC.out.two 8 rfl
    refine lTwo 5 15 (by kernel_rfl) ?_ ?_
    ·
     refine LStep.app (some 40) (.tmp 37) (.tmp 39) 22 (by kernel_rfl) 33 ii _ 5 80 Tryz.underlying22 J1.out J2.out J3.out J4.out rfl (by omega) (.slice (some ⟨b37, 0, none⟩) 0 0) 0 [] (by kernel_rfl) (HC.out.row 1 rfl) (some ⟨ab, ao, none⟩) n ca xs (by kernel_rfl) (HROW.out _ HC.out.below) HONE.out (by unfold maxLen; omega) (by omega) ?_
     intro v' wr hown4 hgrow4 hat4
     simp only [Nat.zero_add, List.nil_append] at hown4
     have M4 := HC.out.grow 1 rfl hgrow4 hown4 hat4
     obtain ⟨a40, c40, rfl, _⟩ := M4.val 1 rfl
     have HN := Tre.hid M4
     clear M4 hown4 hgrow4 hat4
     refine ⟨HN.out.two 8 rfl, fun hH2 => ?_⟩
     exact outof_G hG (Z5.out b37 b41 b43 b48 b5 a40 c40 wr HN) (by kernel_rfl) (by rw [hA.out]; try kernel_rfl)
    ·
     have HN := Tre.hid (HC.out.allocRow (usA b43 b41 b48) 33 5 2 (by unfold maxLen; omega) rfl)
     have HC := Tre.hid (((HN.out.front 0 rfl).front 2 rfl).front 2 rfl)
     clear HN
     have hH2 := HC.out.two 9 rfl
     refine LStep.made (some 50) (.slice (some ⟨wq.heap.size, 0, none⟩) 2 2) _ (by kernel_rfl) (by kernel_rfl) hH2 ?_
     exact outof_G hG (Z6.out b37 b41 b43 b48 wq.heap.size b5 _ HC) (by kernel_rfl) (by rw [hA.out]; try kernel_rfl)⟩
   have Z10 : Kept (∀ (b41 : Nat) (b43 : Nat) (b48 : Nat) (b50 : Nat) (b5 : Nat) (wq : World), Hid (Mem w wq [gbR b5 none 0 0 0, noR (some ⟨b50, 0, none⟩) 2 2 (usA b43 b41 b48).toList, cellsR b41 9 #[.string { data := #[117, 110, 117, 115, 117, 97, 108] }], cellsR b43 3 #[.int .i64 (n : Int)], cellsR b48 3 #[.int .i64 (r : Int), .int .i64 (n : Int)], gbR b4 a33 (n + 1) c33 n, noR a33 (n + 1) c33 (xs ++ (stA b30).toList), cellsR b30 3 #[.int .i64 (r : Int), .int .i64 (r : Int)], gbR w.heap.size (some ⟨ab, ao, none⟩) n ca r]) → G 5 (bt 20 327643) (((((((a0.put (some 41) (.slice (some ⟨b41, 0, none⟩) 1 1)).put (some 43) (.slice (some ⟨b43, 0, none⟩) 1 1)).put (some 44) (.agg (unA b43 b41))).put (some 48) (.slice (some ⟨b48, 0, none⟩) 2 2)).put (some 49) (.agg (stA b48))).put (some 50) (.slice (some ⟨b50, 0, none⟩) 2 2)).put (some 5) (.pointer (some ⟨b5, 0, none⟩))) wq) := ⟨by
    intro b41 b43 b48 b50 b5 wq HC
    refine into_G hG ?_
    rw [hA.out]
    have hH := HC.out.two 8 rfl
    refine lOne 2 (by kernel_rfl) ?_
    ·
     have HN := Tre.hid (HC.out.allocRow #[] 33 5 0 (by unfold maxLen; omega) rfl)
     have HC := Tre.hid ((HN.out.front 0 rfl).front 1 rfl)
     clear HN
     have hH2 := HC.out.two 9 rfl
     refine LStep.made (some 37) (.slice (some ⟨wq.heap.size, 0, none⟩) 0 0) _ (by kernel_rfl) (by kernel_rfl) hH2 ?_
     exact outof_G hG (Z6.out wq.heap.size b41 b43 b48 b50 b5 _ HC) (by kernel_rfl) (by rw [hA.out]; try kernel_rfl)⟩
   have Z11 : Kept (∀ (b37 : Nat) (b41 : Nat) (b43 : Nat) (b5 : Nat) (a40 : Option Addr) (c40 : Nat) (wq : World), Hid (Mem w wq [gbR b5 none 0 0 0, noR a40 n c40 xs, cellsR b41 9 #[.string { data := #[117, 110, 117, 115, 117, 97, 108] }], cellsR b43 3 #[.int .i64 (n : Int)], gbR b4 a33 (n + 1) c33 n, noR a33 (n + 1) c33 (xs ++ (stA b30).toList), cellsR b30 3 #[.int .i64 (r : Int), .int .i64 (r : Int)], gbR w.heap.size (some ⟨ab, ao, none⟩) n ca r]) → G 6 (bt 20 270335) ((((((a0.put (some 37) (.slice (some ⟨b37, 0, none⟩) 0 0)).put (some 40) (.slice a40 n c40)).put (some 41) (.slice (some ⟨b41, 0, none⟩) 1 1)).put (some 43) (.slice (some ⟨b43, 0, none⟩) 1 1)).put (some 44) (.agg (unA b43 b41))).put (some 5) (.pointer (some ⟨b5, 0, none⟩))) wq) := ⟨by
    intro b37 b41 b43 b5 a40 c40 wq HC
    refine into_G hG ?_
    rw [hA.out]
    have hH := HC.out.two 7 rfl
    refine lOne 13 (by kernel_rfl) ?_
    ·
     have HN := Tre.hid (HC.out.allocR #[.int .i64 (r : Int), .int .i64 (n : Int)] 3)
     have HC := Tre.hid (((((HN.out.front 0 rfl).front 4 rfl).front 4 rfl).front 4 rfl).front 4 rfl)
     clear HN
     have hH2 := HC.out.two 8 rfl
     refine LStep.made (some 48) (.slice (some ⟨wq.heap.size, 0, none⟩) 2 2) _ (by kernel_rfl) (by kernel_rfl) hH2 ?_
     refine lPu 14 (some 49) (.agg (stA wq.heap.size)) (by kernel_rfl) (fun _ _ _ h => h) (fun w => by kernel_rfl) (keep_of hH2) ?_
     exact outof_G hG (Z5.out b37 b41 b43 wq.heap.size b5 a40 c40 _ HC) (by kernel_rfl) (by rw [hA.out]; try kernel_rfl)⟩
   have Z12 : Kept (∀ (b37 : Nat) (b41 : Nat) (b48 : Nat) (b5 : Nat) (a40 : Option Addr) (c40 : Nat) (wq : World), Hid (Mem w wq [gbR b5 none 0 0 0, noR a40 n c40 xs, cellsR b41 9 #[.string { data := #[117, 110, 117, 115, 117, 97, 108] }], cellsR b48 3 #[.int .i64 (r : Int), .int .i64 (n : Int)], gbR b4 a33 (n + 1) c33 n, noR a33 (n + 1) c33 (xs ++ (stA b30).toList), cellsR b30 3 #[.int .i64 (r : Int), .int .i64 (r : Int)], gbR w.heap.size (some ⟨ab, ao, none⟩) n ca r]) → G 6 (bt 20 294143) ((((((a0.put (some 37) (.slice (some ⟨b37, 0, none⟩) 0 0)).put (some 40) (.slice a40 n c40)).put (some 41) (.slice (some ⟨b41, 0, none⟩) 1 1)).put (some 48) (.slice (some ⟨b48, 0, none⟩) 2 2)).put (some 49) (.agg (stA b48))).put (some 5) (.pointer (some ⟨b5, 0, none⟩))) wq) := ⟨by
    intro b37 b41 b48 b5 a40 c40 wq HC
    refine into_G hG ?_
    rw [hA.out]
    have hH := HC.out.two 7 rfl
    refine lOne 8 (by kernel_rfl) ?_
    ·
     have HN := Tre.hid (HC.out.allocR #[.int .i64 (n : Int)] 3)
     have HC := Tre.hid ((((HN.out.front 0 rfl).front 3 rfl).front 3 rfl).front 3 rfl)
     clear HN
     have hH2 := HC.out.two 8 rfl
     refine LStep.made (some 43) (.slice (some ⟨wq.heap.size, 0, none⟩) 1 1) _ (by kernel_rfl) (by kernel_rfl) hH2 ?_
     refine lPu 9 (some 44) (.agg (unA wq.heap.size b41)) (by kernel_rfl) (fun _ _ _ h => h) (fun w => by kernel_rfl) (keep_of hH2) ?_
     exact outof_G hG (Z5.out b37 b41 wq.heap.size b48 b5 a40 c40 _ HC) (by kernel_rfl) (by rw [hA.out]; try kernel_rfl)⟩
   have Z13 : Kept (∀ (b37 : Nat) (b43 : Nat) (b48 : Nat) (b5 : Nat) (a40 : Option Addr) (c40 : Nat) (wq : World), Hid (Mem w wq [gbR b5 none 0 0 0, noR a40 n c40 xs, cellsR b43 3 #[.int .i64 (n : Int)], cellsR b48 3 #[.int .i64 (r : Int), .int .i64 (n : Int)], gbR b4 a33 (n + 1) c33 n, noR a33 (n + 1) c33 (xs ++ (stA b30).toList), cellsR b30 3 #[.int .i64 (r : Int), .int .i64 (r : Int)], gbR w.heap.size (some ⟨ab, ao, none⟩) n ca r]) → G 6 (bt 20 294335) ((((((a0.put (some 37) (.slice (some ⟨b37, 0, none⟩) 0 0)).put (some 40) (.slice a40 n c40)).put (some 43) (.slice (some ⟨b43, 0, none⟩) 1 1)).put (some 48) (.slice (some ⟨b48, 0, none⟩) 2 2)).put (some 49) (.agg (stA b48))).put (some 5) (.pointer (some ⟨b5, 0, none⟩))) wq) := ⟨by
    intro b37 b43 b48 b5 a40 c40 wq HC
    refine into_G hG ?_
    rw [hA.out]
    have hH := HC.out.two 7 rfl
    refine lOne 6 (by kernel_rfl) ?_
    ·
     have HN := Tre.hid (HC.out.allocR #[.string { data := #[117, 110, 117, 115, 117, 97, 108] }] 9)
     have HC := Tre.hid (((HN.out.front 0 rfl).front 2 rfl).front 2 rfl)
     clear HN
     have hH2 := HC.out.two 8 rfl
     refine LStep.made (some 41) (.slice (some ⟨wq.heap.size, 0, none⟩) 1 1) _ (by kernel_rfl) (by kernel_rfl) hH2 ?_
     refine lPu 9 (some 44) (.agg (unA b43 wq.heap.size)) (by kernel_rfl) (fun _ _ _ h => h) (fun w => by kernel_rfl) (keep_of hH2) ?_
     exact outof_G hG (Z5.out b37 wq.heap.size b43 b48 b5 a40 c40 _ HC) (by kernel_rfl) (by rw [hA.out]; try kernel_rfl)⟩
   have Z14 : Kept (∀ (b37 : Nat) (b41 : Nat) (b43 : Nat) (b48 : Nat) (wq : World), Hid (Mem w wq [noR (some ⟨b37, 0, none⟩) 0 0 [], cellsR b41 9 #[.string { data := #[117, 110, 117, 115, 117, 97, 108] }], cellsR b43 3 #[.int .i64 (n : Int)], cellsR b48 3 #[.int .i64 (r : Int), .int .i64 (n : Int)], gbR b4 a33 (n + 1) c33 n, noR a33 (n + 1) c33 (xs ++ (stA b30).toList), cellsR b30 3 #[.int .i64 (r : Int), .int .i64 (r : Int)], gbR w.heap.size (some ⟨ab, ao, none⟩) n ca r]) → G 6 (bt 20 32735) ((((((a0.put (some 37) (.slice (some ⟨b37, 0, none⟩) 0 0)).put (some 41) (.slice (some ⟨b41, 0, none⟩) 1 1)).put (some 43) (.slice (some ⟨b43, 0, none⟩) 1 1)).put (some 44) (.agg (unA b43 b41))).put (some 48) (.slice (some ⟨b48, 0, none⟩) 2 2)).put (some 49) (.agg (stA b48))) wq) := ⟨by
    intro b37 b41 b43 b48 wq HC
    refine into_G hG ?_
    rw [hA.out]
    have hH := HC.out.two 7 rfl
    refine lThree 5 15 18 (by kernel_rfl) ?_ ?_ ?_
    ·
     refine LStep.app (some 40) (.tmp 37) (.tmp 39) 22 (by kernel_rfl) 33 ii _ 5 80 Tryz.underlying22 J1.out J2.out J3.out J4.out rfl (by omega) (.slice (some ⟨b37, 0, none⟩) 0 0) 0 [] (by kernel_rfl) (HC.out.row 0 rfl) (some ⟨ab, ao, none⟩) n ca xs (by kernel_rfl) (HROW.out _ HC.out.below) HONE.out (by unfold maxLen; omega) (by omega) ?_
     intro v' wr hown4 hgrow4 hat4
     simp only [Nat.zero_add, List.nil_append] at hown4
     have M4 := HC.out.grow 0 rfl hgrow4 hown4 hat4
     obtain ⟨a40, c40, rfl, _⟩ := M4.val 0 rfl
     have HN := Tre.hid M4
     clear M4 hown4 hgrow4 hat4
     refine ⟨HN.out.two 7 rfl, fun hH2 => ?_⟩
     exact outof_G hG (Z7.out b37 b41 b43 b48 a40 c40 wr HN) (by kernel_rfl) (by rw [hA.out]; try kernel_rfl)
    ·
     have HN := Tre.hid (HC.out.allocRow (usA b43 b41 b48) 33 5 2 (by unfold maxLen; omega) rfl)
     have HC := Tre.hid ((HN.out.front 0 rfl).front 1 rfl)
     clear HN
     have hH2 := HC.out.two 8 rfl
     refine LStep.made (some 50) (.slice (some ⟨wq.heap.size, 0, none⟩) 2 2) _ (by kernel_rfl) (by kernel_rfl) hH2 ?_
     exact outof_G hG (Z8.out b37 b41 b43 b48 wq.heap.size _ HC) (by kernel_rfl) (by rw [hA.out]; try kernel_rfl)
    ·
     have HN := Tre.hid (HC.out.allocR #[.slice none 0 0, .int .i64 0] 24)
     have hH2 := HN.out.two 8 rfl
     refine LStep.made (some 5) (.pointer (some ⟨wq.heap.size, 0, none⟩)) _ (by kernel_rfl) (by kernel_rfl) hH2 ?_
     exact outof_G hG (Z9.out b37 b41 b43 b48 wq.heap.size _ HN) (by kernel_rfl) (by rw [hA.out]; try kernel_rfl)⟩
   have Z15 : Kept (∀ (b41 : Nat) (b43 : Nat) (b48 : Nat) (b50 : Nat) (wq : World), Hid (Mem w wq [noR (some ⟨b50, 0, none⟩) 2 2 (usA b43 b41 b48).toList, cellsR b41 9 #[.string { data := #[117, 110, 117, 115, 117, 97, 108] }], cellsR b43 3 #[.int .i64 (n : Int)], cellsR b48 3 #[.int .i64 (r : Int), .int .i64 (n : Int)], gbR b4 a33 (n + 1) c33 n, noR a33 (n + 1) c33 (xs ++ (stA b30).toList), cellsR b30 3 #[.int .i64 (r : Int), .int .i64 (r : Int)], gbR w.heap.size (some ⟨ab, ao, none⟩) n ca r]) → G 6 (bt 20 65499) ((((((a0.put (some 41) (.slice (some ⟨b41, 0, none⟩) 1 1)).put (some 43) (.slice (some ⟨b43, 0, none⟩) 1 1)).put (some 44) (.agg (unA b43 b41))).put (some 48) (.slice (some ⟨b48, 0, none⟩) 2 2)).put (some 49) (.agg (stA b48))).put (some 50) (.slice (some ⟨b50, 0, none⟩) 2 2)) wq) := ⟨by
    intro b41 b43 b48 b50 wq HC
    refine into_G hG ?_
    rw [hA.out]
    have hH := HC.out.two 7 rfl
    refine lTwo 2 18 (by kernel_rfl) ?_ ?_
    ·
     have HN := Tre.hid (HC.out.allocRow #[] 33 5 0 (by unfold maxLen; omega) rfl)
     have hH2 := HN.out.two 8 rfl
     refine LStep.made (some 37) (.slice (some ⟨wq.heap.size, 0, none⟩) 0 0) _ (by kernel_rfl) (by kernel_rfl) hH2 ?_
     exact outof_G hG (Z8.out wq.heap.size b41 b43 b48 b50 _ HN) (by kernel_rfl) (by rw [hA.out]; try kernel_rfl)
    ·
     have HN := Tre.hid (HC.out.allocR #[.slice none 0 0, .int .i64 0] 24)
     have hH2 := HN.out.two 8 rfl
     refine LStep.made (some 5) (.pointer (some ⟨wq.heap.size, 0, none⟩)) _ (by kernel_rfl) (by kernel_rfl) hH2 ?_
     exact outof_G hG (Z10.out b41 b43 b48 b50 wq.heap.size _ HN) (by kernel_rfl) (by rw [hA.out]; try kernel_rfl)⟩
   have Z16 : Kept (∀ (b41 : Nat) (b43 : Nat) (b48 : Nat) (b5 : Nat) (wq : World), Hid (Mem w wq [gbR b5 none 0 0 0, cellsR b41 9 #[.string { data := #[117, 110, 117, 115, 117, 97, 108] }], cellsR b43 3 #[.int .i64 (n : Int)], cellsR b48 3 #[.int .i64 (r : Int), .int .i64 (n : Int)], gbR b4 a33 (n + 1) c33 n, noR a33 (n + 1) c33 (xs ++ (stA b30).toList), cellsR b30 3 #[.int .i64 (r : Int), .int .i64 (r : Int)], gbR w.heap.size (some ⟨ab, ao, none⟩) n ca r]) → G 6 (bt 20 294875) ((((((a0.put (some 41) (.slice (some ⟨b41, 0, none⟩) 1 1)).put (some 43) (.slice (some ⟨b43, 0, none⟩) 1 1)).put (some 44) (.agg (unA b43 b41))).put (some 48) (.slice (some ⟨b48, 0, none⟩) 2 2)).put (some 49) (.agg (stA b48))).put (some 5) (.pointer (some ⟨b5, 0, none⟩))) wq) := ⟨by
    intro b41 b43 b48 b5 wq HC
    refine into_G hG ?_
    rw [hA.out]
    have hH := HC.out.two 7 rfl
    refine lTwo 2 15 (by kernel_rfl) ?_ ?_
    ·
     have HN := Tre.hid (HC.out.allocRow #[] 33 5 0 (by unfold maxLen; omega) rfl)
     have HC := Tre.hid ((HN.out.front 0 rfl).front 1 rfl)
     clear HN
     have hH2 := HC.out.two 8 rfl
     refine LStep.made (some 37) (.slice (some ⟨wq.heap.size, 0, none⟩) 0 0) _ (by kernel_rfl) (by kernel_rfl) hH2 ?_
     exact outof_G hG (Z9.out wq.heap.size b41 b43 b48 b5 _ HC) (by kernel_rfl) (by rw [hA.out]; try kernel_rfl)
    ·
     have HN := Tre.hid (HC.out.allocRow (usA b43 b41 b48) 33 5 2 (by unfold maxLen; omega) rfl)
     have HC := Tre.hid ((HN.out.front 0 rfl).front 1 rfl)
     clear HN
     have hH2 := HC.out.two 8 rfl
     refine LStep.made (some 50) (.slice (some ⟨wq.heap.size, 0, none⟩) 2 2) _ (by kernel_rfl) (by kernel_rfl) hH2 ?_
     exact outof_G hG (Z10.out b41 b43 b48 wq.heap.size b5 _ HC) (by kernel_rfl) (by rw [hA.out]; try kernel_rfl)⟩
   have Z17 : Kept (∀ (b37 : Nat) (b41 : Nat) (b43 : Nat) (a40 : Option Addr) (c40 : Nat) (wq : World), Hid (Mem w wq [noR a40 n c40 xs, cellsR b41 9 #[.string { data := #[117, 110, 117, 115, 117, 97, 108] }], cellsR b43 3 #[.int .i64 (n : Int)], gbR b4 a33 (n + 1) c33 n, noR a33 (n + 1) c33 (xs ++ (stA b30).toList), cellsR b30 3 #[.int .i64 (r : Int), .int .i64 (r : Int)], gbR w.heap.size (some ⟨ab, ao, none⟩) n ca r]) → G 7 (bt 20 8191) (((((a0.put (some 37) (.slice (some ⟨b37, 0, none⟩) 0 0)).put (some 40) (.slice a40 n c40)).put (some 41) (.slice (some ⟨b41, 0, none⟩) 1 1)).put (some 43) (.slice (some ⟨b43, 0, none⟩) 1 1)).put (some 44) (.agg (unA b43 b41))) wq) := ⟨by
    intro b37 b41 b43 a40 c40 wq HC
    refine into_G hG ?_
    rw [hA.out]
    have hH := HC.out.two 6 rfl
    refine lTwo 13 18 (by kernel_rfl) ?_ ?_
    ·
     have HN := Tre.hid (HC.out.allocR #[.int .i64 (r : Int), .int .i64 (n : Int)] 3)
     have HC := Tre.hid ((((HN.out.front 0 rfl).front 3 rfl).front 3 rfl).front 3 rfl)
     clear HN
     have hH2 := HC.out.two 7 rfl
     refine LStep.made (some 48) (.slice (some ⟨wq.heap.size, 0, none⟩) 2 2) _ (by kernel_rfl) (by kernel_rfl) hH2 ?_
     refine lPu 14 (some 49) (.agg (stA wq.heap.size)) (by kernel_rfl) (fun _ _ _ h => h) (fun w => by kernel_rfl) (keep_of hH2) ?_
     exact outof_G hG (Z7.out b37 b41 b43 wq.heap.size a40 c40 _ HC) (by kernel_rfl) (by rw [hA.out]; try kernel_rfl)
    ·
     have HN := Tre.hid (HC.out.allocR #[.slice none 0 0, .int .i64 0] 24)
     have hH2 := HN.out.two 7 rfl
     refine LStep.made (some 5) (.pointer (some ⟨wq.heap.size, 0, none⟩)) _ (by kernel_rfl) (by kernel_rfl) hH2 ?_
     exact outof_G hG (Z11.out b37 b41 b43 wq.heap.size a40 c40 _ HN) (by kernel_rfl) (by rw [hA.out]; try kernel_rfl)⟩
   have Z18 : Kept (∀ (b37 : Nat) (b41 : Nat) (b48 : Nat) (a40 : Option Addr) (c40 : Nat) (wq : World), Hid (Mem w wq [noR a40 n c40 xs, cellsR b41 9 #[.string { data := #[117, 110, 117, 115, 117, 97, 108] }], cellsR b48 3 #[.int .i64 (r : Int), .int .i64 (n : Int)], gbR b4 a33 (n + 1) c33 n, noR a33 (n + 1) c33 (xs ++ (stA b30).toList), cellsR b30 3 #[.int .i64 (r : Int), .int .i64 (r : Int)], gbR w.heap.size (some ⟨ab, ao, none⟩) n ca r]) → G 7 (bt 20 31999) (((((a0.put (some 37) (.slice (some ⟨b37, 0, none⟩) 0 0)).put (some 40) (.slice a40 n c40)).put (some 41) (.slice (some ⟨b41, 0, none⟩) 1 1)).put (some 48) (.slice (some ⟨b48, 0, none⟩) 2 2)).put (some 49) (.agg (stA b48))) wq) := ⟨by
    intro b37 b41 b48 a40 c40 wq HC
    refine into_G hG ?_
    rw [hA.out]
    have hH := HC.out.two 6 rfl
    refine lTwo 8 18 (by kernel_rfl) ?_ ?_
    ·
     have HN := Tre.hid (HC.out.allocR #[.int .i64 (n : Int)] 3)
     have HC := Tre.hid (((HN.out.front 0 rfl).front 2 rfl).front 2 rfl)
     clear HN
     have hH2 := HC.out.two 7 rfl
     refine LStep.made (some 43) (.slice (some ⟨wq.heap.size, 0, none⟩) 1 1) _ (by kernel_rfl) (by kernel_rfl) hH2 ?_
     refine lPu 9 (some 44) (.agg (unA wq.heap.size b41)) (by kernel_rfl) (fun _ _ _ h => h) (fun w => by kernel_rfl) (keep_of hH2) ?_
     exact outof_G hG (Z7.out b37 b41 wq.heap.size b48 a40 c40 _ HC) (by kernel_rfl) (by rw [hA.out]; try kernel_rfl)
    ·
     have HN := Tre.hid (HC.out.allocR #[.slice none 0 0, .int .i64 0] 24)
     have hH2 := HN.out.two 7 rfl
     refine LStep.made (some 5) (.pointer (some ⟨wq.heap.size, 0, none⟩)) _ (by kernel_rfl) (by kernel_rfl) hH2 ?_
     exact outof_G hG (Z12.out b37 b41 b48 wq.heap.size a40 c40 _ HN) (by kernel_rfl) (by rw [hA.out]; try kernel_rfl)⟩
   have Z19 : Kept (∀ (b37 : Nat) (b43 : Nat) (b48 : Nat) (a40 : Option Addr) (c40 : Nat) (wq : World), Hid (Mem w wq [noR a40 n c40 xs, cellsR b43 3 #[.int .i64 (n : Int)], cellsR b48 3 #[.int .i64 (r : Int), .int .i64 (n : Int)], gbR b4 a33 (n + 1) c33 n, noR a33 (n + 1) c33 (xs ++ (stA b30).toList), cellsR b30 3 #[.int .i64 (r : Int), .int .i64 (r : Int)], gbR w.heap.size (some ⟨ab, ao, none⟩) n ca r]) → G 7 (bt 20 32191) (((((a0.put (some 37) (.slice (some ⟨b37, 0, none⟩) 0 0)).put (some 40) (.slice a40 n c40)).put (some 43) (.slice (some ⟨b43, 0, none⟩) 1 1)).put (some 48) (.slice (some ⟨b48, 0, none⟩) 2 2)).put (some 49) (.agg (stA b48))) wq) := ⟨by
    intro b37 b43 b48 a40 c40 wq HC
    refine into_G hG ?_
    rw [hA.out]
    have hH := HC.out.two 6 rfl
    refine lTwo 6 18 (by kernel_rfl) ?_ ?_
    ·
     have HN := Tre.hid (HC.out.allocR #[.string { data := #[117, 110, 117, 115, 117, 97, 108] }] 9)
     have HC := Tre.hid ((HN.out.front 0 rfl).front 1 rfl)
     clear HN
     have hH2 := HC.out.two 7 rfl
     refine LStep.made (some 41) (.slice (some ⟨wq.heap.size, 0, none⟩) 1 1) _ (by kernel_rfl) (by kernel_rfl) hH2 ?_
     refine lPu 9 (some 44) (.agg (unA b43 wq.heap.size)) (by kernel_rfl) (fun _ _ _ h => h) (fun w => by kernel_rfl) (keep_of hH2) ?_
     exact outof_G hG (Z7.out b37 wq.heap.size b43 b48 a40 c40 _ HC) (by kernel_rfl) (by rw [hA.out]; try kernel_rfl)
    ·
     have HN := Tre.hid (HC.out.allocR #[.slice none 0 0, .int .i64 0] 24)
     have hH2 := HN.out.two 7 rfl
     refine LStep.made (some 5) (.pointer (some ⟨wq.heap.size, 0, none⟩)) _ (by kernel_rfl) (by kernel_rfl) hH2 ?_
     exact outof_G hG (Z13.out b37 b43 b48 wq.heap.size a40 c40 _ HN) (by kernel_rfl) (by rw [hA.out]; try kernel_rfl)⟩
   have Z20 : Kept (∀ (b37 : Nat) (b48 : Nat) (b5 : Nat) (a40 : Option Addr) (c40 : Nat) (wq : World), Hid (Mem w wq [gbR b5 none 0 0 0, noR a40 n c40 xs, cellsR b48 3 #[.int .i64 (r : Int), .int .i64 (n : Int)], gbR b4 a33 (n + 1) c33 n, noR a33 (n + 1) c33 (xs ++ (stA b30).toList), cellsR b30 3 #[.int .i64 (r : Int), .int .i64 (r : Int)], gbR w.heap.size (some ⟨ab, ao, none⟩) n ca r]) → G 7 (bt 20 294079) (((((a0.put (some 37) (.slice (some ⟨b37, 0, none⟩) 0 0)).put (some 40) (.slice a40 n c40)).put (some 48) (.slice (some ⟨b48, 0, none⟩) 2 2)).put (some 49) (.agg (stA b48))).put (some 5) (.pointer (some ⟨b5, 0, none⟩))) wq) := ⟨by
    intro b37 b48 b5 a40 c40 wq HC
    refine into_G hG ?_
    rw [hA.out]
    have hH := HC.out.two 6 rfl
    refine lTwo 6 8 (by kernel_rfl) ?_ ?_
    ·
     have HN := Tre.hid (HC.out.allocR #[.string { data := #[117, 110, 117, 115, 117, 97, 108] }] 9)
     have HC := Tre.hid (((HN.out.front 0 rfl).front 2 rfl).front 2 rfl)
     clear HN
     have hH2 := HC.out.two 7 rfl
     refine LStep.made (some 41) (.slice (some ⟨wq.heap.size, 0, none⟩) 1 1) _ (by kernel_rfl) (by kernel_rfl) hH2 ?_
     exact outof_G hG (Z12.out b37 wq.heap.size b48 b5 a40 c40 _ HC) (by kernel_rfl) (by rw [hA.out]; try kernel_rfl)
    ·
     have HN := Tre.hid (HC.out.allocR #[.int .i64 (n : Int)] 3)
     have HC := Tre.hid (((HN.out.front 0 rfl).front 2 rfl).front 2 rfl)
     clear HN
     have hH2 := HC.out.two 7 rfl
     refine LStep.made (some 43) (.slice (some ⟨wq.heap.size, 0, none⟩) 1 1) _ (by kernel_rfl) (by kernel_rfl) hH2 ?_
     exact outof_G hG (Z13.out b37 wq.heap.size b48 b5 a40 c40 _ HC) (by kernel_rfl) (by rw [hA.out]; try kernel_rfl)⟩
   have Z21 : Kept (∀ (b37 : Nat) (b41 : Nat) (b43 : Nat) (b5 : Nat) (wq : World), Hid (Mem w wq [gbR b5 none 0 0 0, noR (some ⟨b37, 0, none⟩) 0 0 [], cellsR b41 9 #[.string { data := #[117, 110, 117, 115, 117, 97, 108] }], cellsR b43 3 #[.int .i64 (n : Int)], gbR b4 a33 (n + 1) c33 n, noR a33 (n + 1) c33 (xs ++ (stA b30).toList), cellsR b30 3 #[.int .i64 (r : Int), .int .i64 (r : Int)], gbR w.heap.size (some ⟨ab, ao, none⟩) n ca r]) → G 7 (bt 20 270303) (((((a0.put (some 37) (.slice (some ⟨b37, 0, none⟩) 0 0)).put (some 41) (.slice (some ⟨b41, 0, none⟩) 1 1)).put (some 43) (.slice (some ⟨b43, 0, none⟩) 1 1)).put (some 44) (.agg (unA b43 b41))).put (some 5) (.pointer (some ⟨b5, 0, none⟩))) wq) := ⟨by
    intro b37 b41 b43 b5 wq HC
    refine into_G hG ?_
    rw [hA.out]
    have hH := HC.out.two 7 rfl
    refine lTwo 5 13 (by kernel_rfl) ?_ ?_
    ·
     refine LStep.app (some 40) (.tmp 37) (.tmp 39) 22 (by kernel_rfl) 33 ii _ 5 80 Tryz.underlying22 J1.out J2.out J3.out J4.out rfl (by omega) (.slice (some ⟨b37, 0, none⟩) 0 0) 0 [] (by kernel_rfl) (HC.out.row 1 rfl) (some ⟨ab, ao, none⟩) n ca xs (by kernel_rfl) (HROW.out _ HC.out.below) HONE.out (by unfold maxLen; omega) (by omega) ?_
     intro v' wr hown4 hgrow4 hat4
     simp only [Nat.zero_add, List.nil_append] at hown4
     have M4 := HC.out.grow 1 rfl hgrow4 hown4 hat4
     obtain ⟨a40, c40, rfl, _⟩ := M4.val 1 rfl
     have HN := Tre.hid M4
     clear M4 hown4 hgrow4 hat4
     refine ⟨HN.out.two 7 rfl, fun hH2 => ?_⟩
     exact outof_G hG (Z11.out b37 b41 b43 b5 a40 c40 wr HN) (by kernel_rfl) (by rw [hA.out]; try kernel_rfl)
    ·
     have HN := Tre.hid (HC.out.allocR #[.int .i64 (r : Int), .int .i64 (n : Int)] 3)
     have HC := Tre.hid (((((HN.out.front 0 rfl).front 4 rfl).front 4 rfl).front 4 rfl).front 4 rfl)
     clear HN
     have hH2 := HC.out.two 8 rfl
     refine LStep.made (some 48) (.slice (some ⟨wq.heap.size, 0, none⟩) 2 2) _ (by kernel_rfl) (by kernel_rfl) hH2 ?_
     refine lPu 14 (some 49) (.agg (stA wq.heap.size)) (by kernel_rfl) (fun _ _ _ h => h) (fun w => by kernel_rfl) (keep_of hH2) ?_
     exact outof_G hG (Z9.out b37 b41 b43 wq.heap.size b5 _ HC) (by kernel_rfl) (by rw [hA.out]; try kernel_rfl)⟩
   have Z22 : Kept (∀ (b37 : Nat) (b41 : Nat) (b48 : Nat) (b5 : Nat) (wq : World), Hid (Mem w wq [gbR b5 none 0 0 0, noR (some ⟨b37, 0, none⟩) 0 0 [], cellsR b41 9 #[.string { data := #[117, 110, 117, 115, 117, 97, 108] }], cellsR b48 3 #[.int .i64 (r : Int), .int .i64 (n : Int)], gbR b4 a33 (n + 1) c33 n, noR a33 (n + 1) c33 (xs ++ (stA b30).toList), cellsR b30 3 #[.int .i64 (r : Int), .int .i64 (r : Int)], gbR w.heap.size (some ⟨ab, ao, none⟩) n ca r]) → G 7 (bt 20 294111) (((((a0.put (some 37) (.slice (some ⟨b37, 0, none⟩) 0 0)).put (some 41) (.slice (some ⟨b41, 0, none⟩) 1 1)).put (some 48) (.slice (some ⟨b48, 0, none⟩) 2 2)).put (some 49) (.agg (stA b48))).put (some 5) (.pointer (some ⟨b5, 0, none⟩))) wq) := ⟨by
    intro b37 b41 b48 b5 wq HC
    refine into_G hG ?_
    rw [hA.out]
    have hH := HC.out.two 7 rfl
    refine lTwo 5 8 (by kernel_rfl) ?_ ?_
    ·
     refine LStep.app (some 40) (.tmp 37) (.tmp 39) 22 (by kernel_rfl) 33 ii _ 5 80 Tryz.underlying22 J1.out J2.out J3.out J4.out rfl (by omega) (.slice (some ⟨b37, 0, none⟩) 0 0) 0 [] (by kernel_rfl) (HC.out.row 1 rfl) (some ⟨ab, ao, none⟩) n ca xs (by kernel_rfl) (HROW.out _ HC.out.below) HONE.out (by unfold maxLen; omega) (by omega) ?_
     intro v' wr hown4 hgrow4 hat4
     simp only [Nat.zero_add, List.nil_append] at hown4
     have M4 := HC.out.grow 1 rfl hgrow4 hown4 hat4
     obtain ⟨a40, c40, rfl, _⟩ := M4.val 1 rfl
     have HN := Tre.hid M4
     clear M4 hown4 hgrow4 hat4
     refine ⟨HN.out.two 7 rfl, fun hH2 => ?_⟩
     exact outof_G hG (Z12.out b37 b41 b48 b5 a40 c40 wr HN) (by kernel_rfl) (by rw [hA.out]; try kernel_rfl)
    ·
     have HN := Tre.hid (HC.out.allocR #[.int .i64 (n : Int)] 3)
     have HC := Tre.hid ((((HN.out.front 0 rfl).front 3 rfl).front 3 rfl).front 3 rfl)
     clear HN
     have hH2 := HC.out.two 8 rfl
     refine LStep.made (some 43) (.slice (some ⟨wq.heap.size, 0, none⟩) 1 1) _ (by kernel_rfl) (by kernel_rfl) hH2 ?_
     refine lPu 9 (some 44) (.agg (unA wq.heap.size b41)) (by kernel_rfl) (fun _ _ _ h => h) (fun w => by kernel_rfl) (keep_of hH2) ?_
     exact outof_G hG (Z9.out b37 b41 wq.heap.size b48 b5 _ HC) (by kernel_rfl) (by rw [hA.out]; try kernel_rfl)⟩
   have Z23 : Kept (∀ (b37 : Nat) (b43 : Nat) (b48 : Nat) (b5 : Nat) (wq : World), Hid (Mem w wq [gbR b5 none 0 0 0, noR (some ⟨b37, 0, none⟩) 0 0 [], cellsR b43 3 #[.int .i64 (n : Int)], cellsR b48 3 #[.int .i64 (r : Int), .int .i64 (n : Int)], gbR b4 a33 (n + 1) c33 n, noR a33 (n + 1) c33 (xs ++ (stA b30).toList), cellsR b30 3 #[.int .i64 (r : Int), .int .i64 (r : Int)], gbR w.heap.size (some ⟨ab, ao, none⟩) n ca r]) → G 7 (bt 20 294303) (((((a0.put (some 37) (.slice (some ⟨b37, 0, none⟩) 0 0)).put (some 43) (.slice (some ⟨b43, 0, none⟩) 1 1)).put (some 48) (.slice (some ⟨b48, 0, none⟩) 2 2)).put (some 49) (.agg (stA b48))).put (some 5) (.pointer (some ⟨b5, 0, none⟩))) wq) := ⟨by
    intro b37 b43 b48 b5 wq HC
    refine into_G hG ?_
    rw [hA.out]
    have hH := HC.out.two 7 rfl
    refine lTwo 5 6 (by kernel_rfl) ?_ ?_
    ·
     refine LStep.app (some 40) (.tmp 37) (.tmp 39) 22 (by kernel_rfl) 33 ii _ 5 80 Tryz.underlying22 J1.out J2.out J3.out J4.out rfl (by omega) (.slice (some ⟨b37, 0, none⟩) 0 0) 0 [] (by kernel_rfl) (HC.out.row 1 rfl) (some ⟨ab, ao, none⟩) n ca xs (by kernel_rfl) (HROW.out _ HC.out.below) HONE.out (by unfold maxLen; omega) (by omega) ?_
     intro v' wr hown4 hgrow4 hat4
     simp only [Nat.zero_add, List.nil_append] at hown4
     have M4 := HC.out.grow 1 rfl hgrow4 hown4 hat4
     obtain ⟨a40, c40, rfl, _⟩ := M4.val 1 rfl
     have HN := Tre.hid M4
     clear M4 hown4 hgrow4 hat4
     refine ⟨HN.out.two 7 rfl, fun hH2 => ?_⟩
     exact outof_G hG (Z13.out b37 b43 b48 b5 a40 c40 wr HN) (by kernel_rfl) (by rw [hA.out]; try kernel_rfl)
    ·
     have HN := Tre.hid (HC.out.allocR #[.string { data := #[117, 110, 117, 115, 117, 97, 108] }] 9)
     have HC := Tre.hid (((HN.out.front 0 rfl).front 2 rfl).front 2 rfl)
     clear HN
     have hH2 := HC.out.two 8 rfl
     refine LStep.made (some 41) (.slice (some ⟨wq.heap.size, 0, none⟩) 1 1) _ (by kernel_rfl) (by kernel_rfl) hH2 ?_
     refine lPu 9 (some 44) (.agg (unA b43 wq.heap.size)) (by kernel_rfl) (fun _ _ _ h => h) (fun w => by kernel_rfl) (keep_of hH2) ?_
     exact outof_G hG (Z9.out b37 wq.heap.size b43 b48 b5 _ HC) (by kernel_rfl) (by rw [hA.out]; try kernel_rfl)⟩
   have Z24 : Kept (∀ (b41 : Nat) (b43 : Nat) (b48 : Nat) (wq : World), Hid (Mem w wq [cellsR b41 9 #[.string { data := #[117, 110, 117, 115, 117, 97, 108] }], cellsR b43 3 #[.int .i64 (n : Int)], cellsR b48 3 #[.int .i64 (r : Int), .int .i64 (n : Int)], gbR b4 a33 (n + 1) c33 n, noR a33 (n + 1) c33 (xs ++ (stA b30).toList), cellsR b30 3 #[.int .i64 (r : Int), .int .i64 (r : Int)], gbR w.heap.size (some ⟨ab, ao, none⟩) n ca r]) → G 7 (bt 20 32731) (((((a0.put (some 41) (.slice (some ⟨b41, 0, none⟩) 1 1)).put (some 43) (.slice (some ⟨b43, 0, none⟩) 1 1)).put (some 44) (.agg (unA b43 b41))).put (some 48) (.slice (some ⟨b48, 0, none⟩) 2 2)).put (some 49) (.agg (stA b48))) wq) := ⟨by
    intro b41 b43 b48 wq HC
    refine into_G hG ?_
    rw [hA.out]
    have hH := HC.out.two 6 rfl
    refine lThree 2 15 18 (by kernel_rfl) ?_ ?_ ?_
    ·
     have HN := Tre.hid (HC.out.allocRow #[] 33 5 0 (by unfold maxLen; omega) rfl)
     have hH2 := HN.out.two 7 rfl
     refine LStep.made (some 37) (.slice (some ⟨wq.heap.size, 0, none⟩) 0 0) _ (by kernel_rfl) (by kernel_rfl) hH2 ?_
     exact outof_G hG (Z14.out wq.heap.size b41 b43 b48 _ HN) (by kernel_rfl) (by rw [hA.out]; try kernel_rfl)
    ·
     have HN := Tre.hid (HC.out.allocRow (usA b43 b41 b48) 33 5 2 (by unfold maxLen; omega) rfl)
     have hH2 := HN.out.two 7 rfl
     refine LStep.made (some 50) (.slice (some ⟨wq.heap.size, 0, none⟩) 2 2) _ (by kernel_rfl) (by kernel_rfl) hH2 ?_
     exact outof_G hG (Z15.out b41 b43 b48 wq.heap.size _ HN) (by kernel_rfl) (by rw [hA.out]; try kernel_rfl)
    ·
     have HN := Tre.hid (HC.out.allocR #[.slice none 0 0, .int .i64 0] 24)
     have hH2 := HN.out.two 7 rfl
     refine LStep.made (some 5) (.pointer (some ⟨wq.heap.size, 0, none⟩)) _ (by kernel_rfl) (by kernel_rfl) hH2 ?_
     exact outof_G hG (Z16.out b41 b43 b48 wq.heap.size _ HN) (by kernel_rfl) (by rw [hA.out]; try kernel_rfl)⟩
   have Z25 : Kept (∀ (b37 : Nat) (b41 : Nat) (b5 : Nat) (a40 : Option Addr) (c40 : Nat) (wq : World), Hid (Mem w wq [gbR b5 none 0 0 0, noR a40 n c40 xs, cellsR b41 9 #[.string { data := #[117, 110, 117, 115, 117, 97, 108] }], gbR b4 a33 (n + 1) c33 n, noR a33 (n + 1) c33 (xs ++ (stA b30).toList), cellsR b30 3 #[.int .i64 (r : Int), .int .i64 (r : Int)], gbR w.heap.size (some ⟨ab, ao, none⟩) n ca r]) → G 8 (bt 20 269567) ((((a0.put (some 37) (.slice (some ⟨b37, 0, none⟩) 0 0)).put (some 40) (.slice a40 n c40)).put (some 41) (.slice (some ⟨b41, 0, none⟩) 1 1)).put (some 5) (.pointer (some ⟨b5, 0, none⟩))) wq) := ⟨by
    intro b37 b41 b5 a40 c40 wq HC
    refine into_G hG ?_
    rw [hA.out]
    have hH := HC.out.two 6 rfl
    refine lTwo 8 13 (by kernel_rfl) ?_ ?_
    ·
     have HN := Tre.hid (HC.out.allocR #[.int .i64 (n : Int)] 3)
     have HC := Tre.hid ((((HN.out.front 0 rfl).front 3 rfl).front 3 rfl).front 3 rfl)
     clear HN
     have hH2 := HC.out.two 7 rfl
     refine LStep.made (some 43) (.slice (some ⟨wq.heap.size, 0, none⟩) 1 1) _ (by kernel_rfl) (by kernel_rfl) hH2 ?_
     refine lPu 9 (some 44) (.agg (unA wq.heap.size b41)) (by kernel_rfl) (fun _ _ _ h => h) (fun w => by kernel_rfl) (keep_of hH2) ?_
     exact outof_G hG (Z11.out b37 b41 wq.heap.size b5 a40 c40 _ HC) (by kernel_rfl) (by rw [hA.out]; try kernel_rfl)
    ·
     have HN := Tre.hid (HC.out.allocR #[.int .i64 (r : Int), .int .i64 (n : Int)] 3)
     have HC := Tre.hid ((((HN.out.front 0 rfl).front 3 rfl).front 3 rfl).front 3 rfl)
     clear HN
     have hH2 := HC.out.two 7 rfl
     refine LStep.made (some 48) (.slice (some ⟨wq.heap.size, 0, none⟩) 2 2) _ (by kernel_rfl) (by kernel_rfl) hH2 ?_
     refine lPu 14 (some 49) (.agg (stA wq.heap.size)) (by kernel_rfl) (fun _ _ _ h => h) (fun w => by kernel_rfl) (keep_of hH2) ?_
     exact outof_G hG (Z12.out b37 b41 wq.heap.size b5 a40 c40 _ HC) (by kernel_rfl) (by rw [hA.out]; try kernel_rfl)⟩
   have Z26 : Kept (∀ (b37 : Nat) (b43 : Nat) (b5 : Nat) (a40 : Option Addr) (c40 : Nat) (wq : World), Hid (Mem w wq [gbR b5 none 0 0 0, noR a40 n c40 xs, cellsR b43 3 #[.int .i64 (n : Int)], gbR b4 a33 (n + 1) c33 n, noR a33 (n + 1) c33 (xs ++ (stA b30).toList), cellsR b30 3 #[.int .i64 (r : Int), .int .i64 (r : Int)], gbR w.heap.size (some ⟨ab, ao, none⟩) n ca r]) → G 8 (bt 20 269759) ((((a0.put (some 37) (.slice (some ⟨b37, 0, none⟩) 0 0)).put (some 40) (.slice a40 n c40)).put (some 43) (.slice (some ⟨b43, 0, none⟩) 1 1)).put (some 5) (.pointer (some ⟨b5, 0, none⟩))) wq) := ⟨by
    intro b37 b43 b5 a40 c40 wq HC
    refine into_G hG ?_
    rw [hA.out]
    have hH := HC.out.two 6 rfl
    refine lTwo 6 13 (by kernel_rfl) ?_ ?_
    ·
     have HN := Tre.hid (HC.out.allocR #[.string { data := #[117, 110, 117, 115, 117, 97, 108] }] 9)
     have HC := Tre.hid (((HN.out.front 0 rfl).front 2 rfl).front 2 rfl)
     clear HN
     have hH2 := HC.out.two 7 rfl
     refine LStep.made (some 41) (.slice (some ⟨wq.heap.size, 0, none⟩) 1 1) _ (by kernel_rfl) (by kernel_rfl) hH2 ?_
     refine lPu 9 (some 44) (.agg (unA b43 wq.heap.size)) (by kernel_rfl) (fun _ _ _ h => h) (fun w => by kernel_rfl) (keep_of hH2) ?_
     exact outof_G hG (Z11.out b37 wq.heap.size b43 b5 a40 c40 _ HC) (by kernel_rfl) (by rw [hA.out]; try kernel_rfl)
    ·
     have HN := Tre.hid (HC.out.allocR #[.int .i64 (r : Int), .int .i64 (n : Int)] 3)
     have HC := Tre.hid ((((HN.out.front 0 rfl).front 3 rfl).front 3 rfl).front 3 rfl)
     clear HN
     have hH2 := HC.out.two 7 rfl
     refine LStep.made (some 48) (.slice (some ⟨wq.heap.size, 0, none⟩) 2 2) _ (by kernel_rfl) (by kernel_rfl) hH2 ?_
     refine lPu 14 (some 49) (.agg (stA wq.heap.size)) (by kernel_rfl) (fun _ _ _ h => h) (fun w => by kernel_rfl) (keep_of hH2) ?_
     exact outof_G hG (Z13.out b37 b43 wq.heap.size b5 a40 c40 _ HC) (by kernel_rfl) (by rw [hA.out]; try kernel_rfl)⟩
   have Z27 : Kept (∀ (b37 : Nat) (b48 : Nat) (a40 : Option Addr) (c40 : Nat) (wq : World), Hid (Mem w wq [noR a40 n c40 xs, cellsR b48 3 #[.int .i64 (r : Int), .int .i64 (n : Int)], gbR b4 a33 (n + 1) c33 n, noR a33 (n + 1) c33 (xs ++ (stA b30).toList), cellsR b30 3 #[.int .i64 (r : Int), .int .i64 (r : Int)], gbR w.heap.size (some ⟨ab, ao, none⟩) n ca r]) → G 8 (bt 20 31935) ((((a0.put (some 37) (.slice (some ⟨b37, 0, none⟩) 0 0)).put (some 40) (.slice a40 n c40)).put (some 48) (.slice (some ⟨b48, 0, none⟩) 2 2)).put (some 49) (.agg (stA b48))) wq) := ⟨by
    intro b37 b48 a40 c40 wq HC
    refine into_G hG ?_
    rw [hA.out]
    have hH := HC.out.two 5 rfl
    refine lThree 6 8 18 (by kernel_rfl) ?_ ?_ ?_
    ·
     have HN := Tre.hid (HC.out.allocR #[.string { data := #[117, 110, 117, 115, 117, 97, 108] }] 9)
     have HC := Tre.hid ((HN.out.front 0 rfl).front 1 rfl)
     clear HN
     have hH2 := HC.out.two 6 rfl
     refine LStep.made (some 41) (.slice (some ⟨wq.heap.size, 0, none⟩) 1 1) _ (by kernel_rfl) (by kernel_rfl) hH2 ?_
     exact outof_G hG (Z18.out b37 wq.heap.size b48 a40 c40 _ HC) (by kernel_rfl) (by rw [hA.out]; try kernel_rfl)
    ·
     have HN := Tre.hid (HC.out.allocR #[.int .i64 (n : Int)] 3)
     have HC := Tre.hid ((HN.out.front 0 rfl).front 1 rfl)
     clear HN
     have hH2 := HC.out.two 6 rfl
     refine LStep.made (some 43) (.slice (some ⟨wq.heap.size, 0, none⟩) 1 1) _ (by kernel_rfl) (by kernel_rfl) hH2 ?_
     exact outof_G hG (Z19.out b37 wq.heap.size b48 a40 c40 _ HC) (by kernel_rfl) (by rw [hA.out]; try kernel_rfl)
    ·
     have HN := Tre.hid (HC.out.allocR #[.slice none 0 0, .int .i64 0] 24)
     have hH2 := HN.out.two 6 rfl
     refine LStep.made (some 5) (.pointer (some ⟨wq.heap.size, 0, none⟩)) _ (by kernel_rfl) (by kernel_rfl) hH2 ?_
     exact outof_G hG (Z20.out b37 b48 wq.heap.size a40 c40 _ HN) (by kernel_rfl) (by rw [hA.out]; try kernel_rfl)⟩
   have Z28 : Kept (∀ (b37 : Nat) (b41 : Nat) (b43 : Nat) (wq : World), Hid (Mem w wq [noR (some ⟨b37, 0, none⟩) 0 0 [], cellsR b41 9 #[.string { data := #[117, 110, 117, 115, 117, 97, 108] }], cellsR b43 3 #[.int .i64 (n : Int)], gbR b4 a33 (n + 1) c33 n, noR a33 (n + 1) c33 (xs ++ (stA b30).toList), cellsR b30 3 #[.int .i64 (r : Int), .int .i64 (r : Int)], gbR w.heap.size (some ⟨ab, ao, none⟩) n ca r]) → G 8 (bt 20 8159) ((((a0.put (some 37) (.slice (some ⟨b37, 0, none⟩) 0 0)).put (some 41) (.slice (some ⟨b41, 0, none⟩) 1 1)).put (some 43) (.slice (some ⟨b43, 0, none⟩) 1 1)).put (some 44) (.agg (unA b43 b41))) wq) := ⟨by
    intro b37 b41 b43 wq HC
    refine into_G hG ?_
    rw [hA.out]
    have hH := HC.out.two 6 rfl
    refine lThree 5 13 18 (by kernel_rfl) ?_ ?_ ?_
    ·
     refine LStep.app (some 40) (.tmp 37) (.tmp 39) 22 (by kernel_rfl) 33 ii _ 5 80 Tryz.underlying22 J1.out J2.out J3.out J4.out rfl (by omega) (.slice (some ⟨b37, 0, none⟩) 0 0) 0 [] (by kernel_rfl) (HC.out.row 0 rfl) (some ⟨ab, ao, none⟩) n ca xs (by kernel_rfl) (HROW.out _ HC.out.below) HONE.out (by unfold maxLen; omega) (by omega) ?_
     intro v' wr hown4 hgrow4 hat4
     simp only [Nat.zero_add, List.nil_append] at hown4
     have M4 := HC.out.grow 0 rfl hgrow4 hown4 hat4
     obtain ⟨a40, c40, rfl, _⟩ := M4.val 0 rfl
     have HN := Tre.hid M4
     clear M4 hown4 hgrow4 hat4
     refine ⟨HN.out.two 6 rfl, fun hH2 => ?_⟩
     exact outof_G hG (Z17.out b37 b41 b43 a40 c40 wr HN) (by kernel_rfl) (by rw [hA.out]; try kernel_rfl)
    ·
     have HN := Tre.hid (HC.out.allocR #[.int .i64 (r : Int), .int .i64 (n : Int)] 3)
     have HC := Tre.hid ((((HN.out.front 0 rfl).front 3 rfl).front 3 rfl).front 3 rfl)
     clear HN
     have hH2 := HC.out.two 7 rfl
     refine LStep.made (some 48) (.slice (some ⟨wq.heap.size, 0, none⟩) 2 2) _ (by kernel_rfl) (by kernel_rfl) hH2 ?_
     refine lPu 14 (some 49) (.agg (stA wq.heap.size)) (by kernel_rfl) (fun _ _ _ h => h) (fun w => by kernel_rfl) (keep_of hH2) ?_
     exact outof_G hG (Z14.out b37 b41 b43 wq.heap.size _ HC) (by kernel_rfl) (by rw [hA.out]; try kernel_rfl)
    ·
     have HN := Tre.hid (HC.out.allocR #[.slice none 0 0, .int .i64 0] 24)
     have hH2 := HN.out.two 7 rfl
     refine LStep.made (some 5) (.pointer (some ⟨wq.heap.size, 0, none⟩)) _ (by kernel_rfl) (by kernel_rfl) hH2 ?_
     exact outof_G hG (Z21.out b37 b41 b43 wq.heap.size _ HN) (by kernel_rfl) (by rw [hA.out]; try kernel_rfl)⟩
   have Z29 : Kept (∀ (b37 : Nat) (b41 : Nat) (b48 : Nat) (wq : World), Hid (Mem w wq [noR (some ⟨b37, 0, none⟩) 0 0 [], cellsR b41 9 #[.string { data := #[117, 110, 117, 115, 117, 97, 108] }], cellsR b48 3 #[.int .i64 (r : Int), .int .i64 (n : Int)], gbR b4 a33 (n + 1) c33 n, noR a33 (n + 1) c33 (xs ++ (stA b30).toList), cellsR b30 3 #[.int .i64 (r : Int), .int .i64 (r : Int)], gbR w.heap.size (some ⟨ab, ao, none⟩) n ca r]) → G 8 (bt 20 31967) ((((a0.put (some 37) (.slice (some ⟨b37, 0, none⟩) 0 0)).put (some 41) (.slice (some ⟨b41, 0, none⟩) 1 1)).put (some 48) (.slice (some ⟨b48, 0, none⟩) 2 2)).put (some 49) (.agg (stA b48))) wq) := ⟨by
    intro b37 b41 b48 wq HC
    refine into_G hG ?_
    rw [hA.out]
    have hH := HC.out.two 6 rfl
    refine lThree 5 8 18 (by kernel_rfl) ?_ ?_ ?_
    ·
     refine LStep.app (some 40) (.tmp 37) (.tmp 39) 22 (by kernel_rfl) 33 ii _ 5 80 Tryz.underlying22 J1.out J2.out J3.out J4.out rfl (by omega) (.slice (some ⟨b37, 0, none⟩) 0 0) 0 [] (by kernel_rfl) (HC.out.row 0 rfl) (some ⟨ab, ao, none⟩) n ca xs (by kernel_rfl) (HROW.out _ HC.out.below) HONE.out (by unfold maxLen; omega) (by omega) ?_
     intro v' wr hown4 hgrow4 hat4
     simp only [Nat.zero_add, List.nil_append] at hown4
     have M4 := HC.out.grow 0 rfl hgrow4 hown4 hat4
     obtain ⟨a40, c40, rfl, _⟩ := M4.val 0 rfl
     have HN := Tre.hid M4
     clear M4 hown4 hgrow4 hat4
     refine ⟨HN.out.two 6 rfl, fun hH2 => ?_⟩
     exact outof_G hG (Z18.out b37 b41 b48 a40 c40 wr HN) (by kernel_rfl) (by rw [hA.out]; try kernel_rfl)
    ·
     have HN := Tre.hid (HC.out.allocR #[.int .i64 (n : Int)] 3)
     have HC := Tre.hid (((HN.out.front 0 rfl).front 2 rfl).front 2 rfl)
     clear HN
     have hH2 := HC.out.two 7 rfl
     refine LStep.made (some 43) (.slice (some ⟨wq.heap.size, 0, none⟩) 1 1) _ (by kernel_rfl) (by kernel_rfl) hH2 ?_
     refine lPu 9 (some 44) (.agg (unA wq.heap.size b41)) (by kernel_rfl) (fun _ _ _ h => h) (fun w => by kernel_rfl) (keep_of hH2) ?_
     exact outof_G hG (Z14.out b37 b41 wq.heap.size b48 _ HC) (by kernel_rfl) (by rw [hA.out]; try kernel_rfl)
    ·
     have HN := Tre.hid (HC.out.allocR #[.slice none 0 0, .int .i64 0] 24)
     have hH2 := HN.out.two 7 rfl
     refine LStep.made (some 5) (.pointer (some ⟨wq.heap.size, 0, none⟩)) _ (by kernel_rfl) (by kernel_rfl) hH2 ?_
     exact outof_G hG (Z22.out b37 b41 b48 wq.heap.size _ HN) (by kernel_rfl) (by rw [hA.out]; try kernel_rfl)⟩
   have Z30 : Kept (∀ (b37 : Nat) (b43 : Nat) (b48 : Nat) (wq : World), Hid (Mem w wq [noR (some ⟨b37, 0, none⟩) 0 0 [], cellsR b43 3 #[.int .i64 (n : Int)], cellsR b48 3 #[.int .i64 (r : Int), .int .i64 (n : Int)], gbR b4 a33 (n + 1) c33 n, noR a33 (n + 1) c33 (xs ++ (stA b30).toList), cellsR b30 3 #[.int .i64 (r : Int), .int .i64 (r : Int)], gbR w.heap.size (some ⟨ab, ao, none⟩) n ca r]) → G 8 (bt 20 32159) ((((a0.put (some 37) (.slice (some ⟨b37, 0, none⟩) 0 0)).put (some 43) (.slice (some ⟨b43, 0, none⟩) 1 1)).put (some 48) (.slice (some ⟨b48, 0, none⟩) 2 2)).put (some 49) (.agg (stA b48))) wq) := ⟨by
    intro b37 b43 b48 wq HC
    refine into_G hG ?_
    rw [hA.out]
    have hH := HC.out.two 6 rfl
    refine lThree 5 6 18 (by kernel_rfl) ?_ ?_ ?_
    ·
     refine LStep.app (some 40) (.tmp 37) (.tmp 39) 22 (by kernel_rfl) 33 ii _ 5 80 Tryz.underlying22 J1.out J2.out J3.out J4.out rfl (by omega) (.slice (some ⟨b37, 0, none⟩) 0 0) 0 [] (by kernel_rfl) (HC.out.row 0 rfl) (some ⟨ab, ao, none⟩) n ca xs (by kernel_rfl) (HROW.out _ HC.out.below) HONE.out (by unfold maxLen; omega) (by omega) ?_
     intro v' wr hown4 hgrow4 hat4
     simp only [Nat.zero_add, List.nil_append] at hown4
     have M4 := HC.out.grow 0 rfl hgrow4 hown4 hat4
     obtain ⟨a40, c40, rfl, _⟩ := M4.val 0 rfl
     have HN := Tre.hid M4
     clear M4 hown4 hgrow4 hat4
     refine ⟨HN.out.two 6 rfl, fun hH2 => ?_⟩
     exact outof_G hG (Z19.out b37 b43 b48 a40 c40 wr HN) (by kernel_rfl) (by rw [hA.out]; try kernel_rfl)
    ·
     have HN := Tre.hid (HC.out.allocR #[.string { data := #[117, 110, 117, 115, 117, 97, 108] }] 9)
     have HC := Tre.hid ((HN.out.front 0 rfl).front 1 rfl)
     clear HN
     have hH2 := HC.out.two 7 rfl
     refine LStep.made (some 41) (.slice (some ⟨wq.heap.size, 0, none⟩) 1 1) _ (by kernel_rfl) (by kernel_rfl) hH2 ?_
     refine lPu 9 (some 44) (.agg (unA b43 wq.heap.size)) (by kernel_rfl) (fun _ _ _ h => h) (fun w => by kernel_rfl) (keep_of hH2) ?_
     exact outof_G hG (Z14.out b37 wq.heap.size b43 b48 _ HC) (by kernel_rfl) (by rw [hA.out]; try kernel_rfl)
    ·
     have HN := Tre.hid (HC.out.allocR #[.slice none 0 0, .int .i64 0] 24)
     have hH2 := HN.out.two 7 rfl
     refine LStep.made (some 5) (.pointer (some ⟨wq.heap.size, 0, none⟩)) _ (by kernel_rfl) (by kernel_rfl) hH2 ?_
     exact outof_G hG (Z23.out b37 b43 b48 wq.heap.size _ HN) (by kernel_rfl) (by rw [hA.out]; try kernel_rfl)⟩
   have Z31 : Kept (∀ (b37 : Nat) (b48 : Nat) (b5 : Nat) (wq : World), Hid (Mem w wq [gbR b5 none 0 0 0, noR (some ⟨b37, 0, none⟩) 0 0 [], cellsR b48 3 #[.int .i64 (r : Int), .int .i64 (n : Int)], gbR b4 a33 (n + 1) c33 n, noR a33 (n + 1) c33 (xs ++ (stA b30).toList), cellsR b30 3 #[.int .i64 (r : Int), .int .i64 (r : Int)], gbR w.heap.size (some ⟨ab, ao, none⟩) n ca r]) → G 8 (bt 20 294047) ((((a0.put (some 37) (.slice (some ⟨b37, 0, none⟩) 0 0)).put (some 48) (.slice (some ⟨b48, 0, none⟩) 2 2)).put (some 49) (.agg (stA b48))).put (some 5) (.pointer (some ⟨b5, 0, none⟩))) wq) := ⟨by
    intro b37 b48 b5 wq HC
    refine into_G hG ?_
    rw [hA.out]
    have hH := HC.out.two 6 rfl
    refine lThree 5 6 8 (by kernel_rfl) ?_ ?_ ?_
    ·
     refine LStep.app (some 40) (.tmp 37) (.tmp 39) 22 (by kernel_rfl) 33 ii _ 5 80 Tryz.underlying22 J1.out J2.out J3.out J4.out rfl (by omega) (.slice (some ⟨b37, 0, none⟩) 0 0) 0 [] (by kernel_rfl) (HC.out.row 1 rfl) (some ⟨ab, ao, none⟩) n ca xs (by kernel_rfl) (HROW.out _ HC.out.below) HONE.out (by unfold maxLen; omega) (by omega) ?_
     intro v' wr hown4 hgrow4 hat4
     simp only [Nat.zero_add, List.nil_append] at hown4
     have M4 := HC.out.grow 1 rfl hgrow4 hown4 hat4
     obtain ⟨a40, c40, rfl, _⟩ := M4.val 1 rfl
     have HN := Tre.hid M4
     clear M4 hown4 hgrow4 hat4
     refine ⟨HN.out.two 6 rfl, fun hH2 => ?_⟩
     exact outof_G hG (Z20.out b37 b48 b5 a40 c40 wr HN) (by kernel_rfl) (by rw [hA.out]; try kernel_rfl)
    ·
     have HN := Tre.hid (HC.out.allocR #[.string { data := #[117, 110, 117, 115, 117, 97, 108] }] 9)
     have HC := Tre.hid (((HN.out.front 0 rfl).front 2 rfl).front 2 rfl)
     clear HN
     have hH2 := HC.out.two 7 rfl
     refine LStep.made (some 41) (.slice (some ⟨wq.heap.size, 0, none⟩) 1 1) _ (by kernel_rfl) (by kernel_rfl) hH2 ?_
     exact outof_G hG (Z22.out b37 wq.heap.size b48 b5 _ HC) (by kernel_rfl) (by rw [hA.out]; try kernel_rfl)
    ·
     have HN := Tre.hid (HC.out.allocR #[.int .i64 (n : Int)] 3)
     have HC := Tre.hid (((HN.out.front 0 rfl).front 2 rfl).front 2 rfl)
     clear HN
     have hH2 := HC.out.two 7 rfl
     refine LStep.made (some 43) (.slice (some ⟨wq.heap.size, 0, none⟩) 1 1) _ (by kernel_rfl) (by kernel_rfl) hH2 ?_
     exact outof_G hG (Z23.out b37 wq.heap.size b48 b5 _ HC) (by kernel_rfl) (by rw [hA.out]; try kernel_rfl)⟩
   have Z32 : Kept (∀ (b41 : Nat) (b43 : Nat) (b5 : Nat) (wq : World), Hid (Mem w wq [gbR b5 none 0 0 0, cellsR b41 9 #[.string { data := #[117, 110, 117, 115, 117, 97, 108] }], cellsR b43 3 #[.int .i64 (n : Int)], gbR b4 a33 (n + 1) c33 n, noR a33 (n + 1) c33 (xs ++ (stA b30).toList), cellsR b30 3 #[.int .i64 (r : Int), .int .i64 (r : Int)], gbR w.heap.size (some ⟨ab, ao, none⟩) n ca r]) → G 8 (bt 20 270299) ((((a0.put (some 41) (.slice (some ⟨b41, 0, none⟩) 1 1)).put (some 43) (.slice (some ⟨b43, 0, none⟩) 1 1)).put (some 44) (.agg (unA b43 b41))).put (some 5) (.pointer (some ⟨b5, 0, none⟩))) wq) := ⟨by
    intro b41 b43 b5 wq HC
    refine into_G hG ?_
    rw [hA.out]
    have hH := HC.out.two 6 rfl
    refine lTwo 2 13 (by kernel_rfl) ?_ ?_
    ·
     have HN := Tre.hid (HC.out.allocRow #[] 33 5 0 (by unfold maxLen; omega) rfl)
     have HC := Tre.hid ((HN.out.front 0 rfl).front 1 rfl)
     clear HN
     have hH2 := HC.out.two 7 rfl
     refine LStep.made (some 37) (.slice (some ⟨wq.heap.size, 0, none⟩) 0 0) _ (by kernel_rfl) (by kernel_rfl) hH2 ?_
     exact outof_G hG (Z21.out wq.heap.size b41 b43 b5 _ HC) (by kernel_rfl) (by rw [hA.out]; try kernel_rfl)
    ·
     have HN := Tre.hid (HC.out.allocR #[.int .i64 (r : Int), .int .i64 (n : Int)] 3)
     have HC := Tre.hid ((((HN.out.front 0 rfl).front 3 rfl).front 3 rfl).front 3 rfl)
     clear HN
     have hH2 := HC.out.two 7 rfl
     refine LStep.made (some 48) (.slice (some ⟨wq.heap.size, 0, none⟩) 2 2) _ (by kernel_rfl) (by kernel_rfl) hH2 ?_
     refine lPu 14 (some 49) (.agg (stA wq.heap.size)) (by kernel_rfl) (fun _ _ _ h => h) (fun w => by kernel_rfl) (keep_of hH2) ?_
     exact outof_G hG (Z16.out b41 b43 wq.heap.size b5 _ HC) (by kernel_rfl) (by rw [hA.out]; try kernel_rfl)⟩
   have Z33 : Kept (∀ (b41 : Nat) (b48 : Nat) (b5 : Nat) (wq : World), Hid (Mem w wq [gbR b5 none 0 0 0, cellsR b41 9 #[.string { data := #[117, 110, 117, 115, 117, 97, 108] }], cellsR b48 3 #[.int .i64 (r : Int), .int .i64 (n : Int)], gbR b4 a33 (n + 1) c33 n, noR a33 (n + 1) c33 (xs ++ (stA b30).toList), cellsR b30 3 #[.int .i64 (r : Int), .int .i64 (r : Int)], gbR w.heap.size (some ⟨ab, ao, none⟩) n ca r]) → G 8 (bt 20 294107) ((((a0.put (some 41) (.slice (some ⟨b41, 0, none⟩) 1 1)).put (some 48) (.slice (some ⟨b48, 0, none⟩) 2 2)).put (some 49) (.agg (stA b48))).put (some 5) (.pointer (some ⟨b5, 0, none⟩))) wq) := ⟨by
    intro b41 b48 b5 wq HC
    refine into_G hG ?_
    rw [hA.out]
    have hH := HC.out.two 6 rfl
    refine lTwo 2 8 (by kernel_rfl) ?_ ?_
    ·
     have HN := Tre.hid (HC.out.allocRow #[] 33 5 0 (by unfold maxLen; omega) rfl)
     have HC := Tre.hid ((HN.out.front 0 rfl).front 1 rfl)
     clear HN
     have hH2 := HC.out.two 7 rfl
     refine LStep.made (some 37) (.slice (some ⟨wq.heap.size, 0, none⟩) 0 0) _ (by kernel_rfl) (by kernel_rfl) hH2 ?_
     exact outof_G hG (Z22.out wq.heap.size b41 b48 b5 _ HC) (by kernel_rfl) (by rw [hA.out]; try kernel_rfl)
    ·
     have HN := Tre.hid (HC.out.allocR #[.int .i64 (n : Int)] 3)
     have HC := Tre.hid (((HN.out.front 0 rfl).front 2 rfl).front 2 rfl)
     clear HN
     have hH2 := HC.out.two 7 rfl
     refine LStep.made (some 43) (.slice (some ⟨wq.heap.size, 0, none⟩) 1 1) _ (by kernel_rfl) (by kernel_rfl) hH2 ?_
     refine lPu 9 (some 44) (.agg (unA wq.heap.size b41)) (by kernel_rfl) (fun _ _ _ h => h) (fun w => by kernel_rfl) (keep_of hH2) ?_
     exact outof_G hG (Z16.out b41 wq.heap.size b48 b5 _ HC) (by kernel_rfl) (by rw [hA.out]; try kernel_rfl)⟩
   have Z34 : Kept (∀ (b43 : Nat) (b48 : Nat) (b5 : Nat) (wq : World), Hid (Mem w wq [gbR b5 none 0 0 0, cellsR b43 3 #[.int .i64 (n : Int)], cellsR b48 3 #[.int .i64 (r : Int), .int .i64 (n : Int)], gbR b4 a33 (n + 1) c33 n, noR a33 (n + 1) c33 (xs ++ (stA b30).toList), cellsR b30 3 #[.int .i64 (r : Int), .int .i64 (r : Int)], gbR w.heap.size (some ⟨ab, ao, none⟩) n ca r]) → G 8 (bt 20 294299) ((((a0.put (some 43) (.slice (some ⟨b43, 0, none⟩) 1 1)).put (some 48) (.slice (some ⟨b48, 0, none⟩) 2 2)).put (some 49) (.agg (stA b48))).put (some 5) (.pointer (some ⟨b5, 0, none⟩))) wq) := ⟨by
    intro b43 b48 b5 wq HC
    refine into_G hG ?_
    rw [hA.out]
    have hH := HC.out.two 6 rfl
    refine lTwo 2 6 (by kernel_rfl) ?_ ?_
    ·
     have HN := Tre.hid (HC.out.allocRow #[] 33 5 0 (by unfold maxLen; omega) rfl)
     have HC := Tre.hid ((HN.out.front 0 rfl).front 1 rfl)
     clear HN
     have hH2 := HC.out.two 7 rfl
     refine LStep.made (some 37) (.slice (some ⟨wq.heap.size, 0, none⟩) 0 0) _ (by kernel_rfl) (by kernel_rfl) hH2 ?_
     exact outof_G hG (Z23.out wq.heap.size b43 b48 b5 _ HC) (by kernel_rfl) (by rw [hA.out]; try kernel_rfl)
    ·
     have HN := Tre.hid (HC.out.allocR #[.string { data := #[117, 110, 117, 115, 117, 97, 108] }] 9)
     have HC := Tre.hid ((HN.out.front 0 rfl).front 1 rfl)
     clear HN
     have hH2 := HC.out.two 7 rfl
     refine LStep.made (some 41) (.slice (some ⟨wq.heap.size, 0, none⟩) 1 1) _ (by kernel_rfl) (by kernel_rfl) hH2 ?_
     refine lPu 9 (some 44) (.agg (unA b43 wq.heap.size)) (by kernel_rfl) (fun _ _ _ h => h) (fun w => by kernel_rfl) (keep_of hH2) ?_
     exact outof_G hG (Z16.out wq.heap.size b43 b48 b5 _ HC) (by kernel_rfl) (by rw [hA.out]; try kernel_rfl)⟩
   have Z35 : Kept (∀ (b37 : Nat) (b41 : Nat) (a40 : Option Addr) (c40 : Nat) (wq : World), Hid (Mem w wq [noR a40 n c40 xs, cellsR b41 9 #[.string { data := #[117, 110, 117, 115, 117, 97, 108] }], gbR b4 a33 (n + 1) c33 n, noR a33 (n + 1) c33 (xs ++ (stA b30).toList), cellsR b30 3 #[.int .i64 (r : Int), .int .i64 (r : Int)], gbR w.heap.size (some ⟨ab, ao, none⟩) n ca r]) → G 9 (bt 20 7423) (((a0.put (some 37) (.slice (some ⟨b37, 0, none⟩) 0 0)).put (some 40) (.slice a40 n c40)).put (some 41) (.slice (some ⟨b41, 0, none⟩) 1 1)) wq) := ⟨by
    intro b37 b41 a40 c40 wq HC
    refine into_G hG ?_
    rw [hA.out]
    have hH := HC.out.two 5 rfl
    refine lThree 8 13 18 (by kernel_rfl) ?_ ?_ ?_
    ·
     have HN := Tre.hid (HC.out.allocR #[.int .i64 (n : Int)] 3)
     have HC := Tre.hid (((HN.out.front 0 rfl).front 2 rfl).front 2 rfl)
     clear HN
     have hH2 := HC.out.two 6 rfl
     refine LStep.made (some 43) (.slice (some ⟨wq.heap.size, 0, none⟩) 1 1) _ (by kernel_rfl) (by kernel_rfl) hH2 ?_
     refine lPu 9 (some 44) (.agg (unA wq.heap.size b41)) (by kernel_rfl) (fun _ _ _ h => h) (fun w => by kernel_rfl) (keep_of hH2) ?_
     exact outof_G hG (Z17.out b37 b41 wq.heap.size a40 c40 _ HC) (by kernel_rfl) (by rw [hA.out]; try kernel_rfl)
    ·
     have HN := Tre.hid (HC.out.allocR #[.int .i64 (r : Int), .int .i64 (n : Int)] 3)
     have HC := Tre.hid (((HN.out.front 0 rfl).front 2 rfl).front 2 rfl)
     clear HN
     have hH2 := HC.out.two 6 rfl
     refine LStep.made (some 48) (.slice (some ⟨wq.heap.size, 0, none⟩) 2 2) _ (by kernel_rfl) (by kernel_rfl) hH2 ?_
     refine lPu 14 (some 49) (.agg (stA wq.heap.size)) (by kernel_rfl) (fun _ _ _ h => h) (fun w => by kernel_rfl) (keep_of hH2) ?_
     exact outof_G hG (Z18.out b37 b41 wq.heap.size a40 c40 _ HC) (by kernel_rfl) (by rw [hA.out]; try kernel_rfl)
    ·
     have HN := Tre.hid (HC.out.allocR #[.slice none 0 0, .int .i64 0] 24)
     have hH2 := HN.out.two 6 rfl
     refine LStep.made (some 5) (.pointer (some ⟨wq.heap.size, 0, none⟩)) _ (by kernel_rfl) (by kernel_rfl) hH2 ?_
     exact outof_G hG (Z25.out b37 b41 wq.heap.size a40 c40 _ HN) (by kernel_rfl) (by rw [hA.out]; try kernel_rfl)⟩
   have Z36 : Kept (∀ (b37 : Nat) (b43 : Nat) (a40 : Option Addr) (c40 : Nat) (wq : World), Hid (Mem w wq [noR a40 n c40 xs, cellsR b43 3 #[.int .i64 (n : Int)], gbR b4 a33 (n + 1) c33 n, noR a33 (n + 1) c33 (xs ++ (stA b30).toList), cellsR b30 3 #[.int .i64 (r : Int), .int .i64 (r : Int)], gbR w.heap.size (some ⟨ab, ao, none⟩) n ca r]) → G 9 (bt 20 7615) (((a0.put (some 37) (.slice (some ⟨b37, 0, none⟩) 0 0)).put (some 40) (.slice a40 n c40)).put (some 43) (.slice (some ⟨b43, 0, none⟩) 1 1)) wq) := ⟨by
    intro b37 b43 a40 c40 wq HC
    refine into_G hG ?_
    rw [hA.out]
    have hH := HC.out.two 5 rfl
    refine lThree 6 13 18 (by kernel_rfl) ?_ ?_ ?_
    ·
     have HN := Tre.hid (HC.out.allocR #[.string { data := #[117, 110, 117, 115, 117, 97, 108] }] 9)
     have HC := Tre.hid ((HN.out.front 0 rfl).front 1 rfl)
     clear HN
     have hH2 := HC.out.two 6 rfl
     refine LStep.made (some 41) (.slice (some ⟨wq.heap.size, 0, none⟩) 1 1) _ (by kernel_rfl) (by kernel_rfl) hH2 ?_
     refine lPu 9 (some 44) (.agg (unA b43 wq.heap.size)) (by kernel_rfl) (fun _ _ _ h => h) (fun w => by kernel_rfl) (keep_of hH2) ?_
     exact outof_G hG (Z17.out b37 wq.heap.size b43 a40 c40 _ HC) (by kernel_rfl) (by rw [hA.out]; try kernel_rfl)
    ·
     have HN := Tre.hid (HC.out.allocR #[.int .i64 (r : Int), .int .i64 (n : Int)] 3)
     have HC := Tre.hid (((HN.out.front 0 rfl).front 2 rfl).front 2 rfl)
     clear HN
     have hH2 := HC.out.two 6 rfl
     refine LStep.made (some 48) (.slice (some ⟨wq.heap.size, 0, none⟩) 2 2) _ (by kernel_rfl) (by kernel_rfl) hH2 ?_
     refine lPu 14 (some 49) (.agg (stA wq.heap.size)) (by kernel_rfl) (fun _ _ _ h => h) (fun w => by kernel_rfl) (keep_of hH2) ?_
     exact outof_G hG (Z19.out b37 b43 wq.heap.size a40 c40 _ HC) (by kernel_rfl) (by rw [hA.out]; try kernel_rfl)
    ·
     have HN := Tre.hid (HC.out.allocR #[.slice none 0 0, .int .i64 0] 24)
     have hH2 := HN.out.two 6 rfl
     refine LStep.made (some 5) (.pointer (some ⟨wq.heap.size, 0, none⟩)) _ (by kernel_rfl) (by kernel_rfl) hH2 ?_
     exact outof_G hG (Z26.out b37 b43 wq.heap.size a40 c40 _ HN) (by kernel_rfl) (by rw [hA.out]; try kernel_rfl)⟩
   have Z37 : Kept (∀ (b37 : Nat) (b5 : Nat) (a40 : Option Addr) (c40 : Nat) (wq : World), Hid (Mem w wq [gbR b5 none 0 0 0, noR a40 n c40 xs, gbR b4 a33 (n + 1) c33 n, noR a33 (n + 1) c33 (xs ++ (stA b30).toList), cellsR b30 3 #[.int .i64 (r : Int), .int .i64 (r : Int)], gbR w.heap.size (some ⟨ab, ao, none⟩) n ca r]) → G 9 (bt 20 269503) (((a0.put (some 37) (.slice (some ⟨b37, 0, none⟩) 0 0)).put (some 40) (.slice a40 n c40)).put (some 5) (.pointer (some ⟨b5, 0, none⟩))) wq) := ⟨by
    intro b37 b5 a40 c40 wq HC
    refine into_G hG ?_
    rw [hA.out]
    have hH := HC.out.two 5 rfl
    refine lThree 6 8 13 (by kernel_rfl) ?_ ?_ ?_
    ·
     have HN := Tre.hid (HC.out.allocR #[.string { data := #[117, 110, 117, 115, 117, 97, 108] }] 9)
     have HC := Tre.hid (((HN.out.front 0 rfl).front 2 rfl).front 2 rfl)
     clear HN
     have hH2 := HC.out.two 6 rfl
     refine LStep.made (some 41) (.slice (some ⟨wq.heap.size, 0, none⟩) 1 1) _ (by kernel_rfl) (by kernel_rfl) hH2 ?_
     exact outof_G hG (Z25.out b37 wq.heap.size b5 a40 c40 _ HC) (by kernel_rfl) (by rw [hA.out]; try kernel_rfl)
    ·
     have HN := Tre.hid (HC.out.allocR #[.int .i64 (n : Int)] 3)
     have HC := Tre.hid (((HN.out.front 0 rfl).front 2 rfl).front 2 rfl)
     clear HN
     have hH2 := HC.out.two 6 rfl
     refine LStep.made (some 43) (.slice (some ⟨wq.heap.size, 0, none⟩) 1 1) _ (by kernel_rfl) (by kernel_rfl) hH2 ?_
     exact outof_G hG (Z26.out b37 wq.heap.size b5 a40 c40 _ HC) (by kernel_rfl) (by rw [hA.out]; try kernel_rfl)
    ·
     have HN := Tre.hid (HC.out.allocR #[.int .i64 (r : Int), .int .i64 (n : Int)] 3)
     have HC := Tre.hid (((HN.out.front 0 rfl).front 2 rfl).front 2 rfl)
     clear HN
     have hH2 := HC.out.two 6 rfl
     refine LStep.made (some 48) (.slice (some ⟨wq.heap.size, 0, none⟩) 2 2) _ (by kernel_rfl) (by kernel_rfl) hH2 ?_
     refine lPu 14 (some 49) (.agg (stA wq.heap.size)) (by kernel_rfl) (fun _ _ _ h => h) (fun w => by kernel_rfl) (keep_of hH2) ?_
     exact outof_G hG (Z20.out b37 wq.heap.size b5 a40 c40 _ HC) (by kernel_rfl) (by rw [hA.out]; try kernel_rfl)⟩
   have Z38 : Kept (∀ (b37 : Nat) (b41 : Nat) (b5 : Nat) (wq : World), Hid (Mem w wq [gbR b5 none 0 0 0, noR (some ⟨b37, 0, none⟩) 0 0 [], cellsR b41 9 #[.string { data := #[117, 110, 117, 115, 117, 97, 108] }], gbR b4 a33 (n + 1) c33 n, noR a33 (n + 1) c33 (xs ++ (stA b30).toList), cellsR b30 3 #[.int .i64 (r : Int), .int .i64 (r : Int)], gbR w.heap.size (some ⟨ab, ao, none⟩) n ca r]) → G 9 (bt 20 269535) (((a0.put (some 37) (.slice (some ⟨b37, 0, none⟩) 0 0)).put (some 41) (.slice (some ⟨b41, 0, none⟩) 1 1)).put (some 5) (.pointer (some ⟨b5, 0, none⟩))) wq) := ⟨by
    intro b37 b41 b5 wq HC
    refine into_G hG ?_
    rw [hA.out]
    have hH := HC.out.two 6 rfl
    refine lThree 5 8 13 (by kernel_rfl) ?_ ?_ ?_
    ·
     refine LStep.app (some 40) (.tmp 37) (.tmp 39) 22 (by kernel_rfl) 33 ii _ 5 80 Tryz.underlying22 J1.out J2.out J3.out J4.out rfl (by omega) (.slice (some ⟨b37, 0, none⟩) 0 0) 0 [] (by kernel_rfl) (HC.out.row 1 rfl) (some ⟨ab, ao, none⟩) n ca xs (by kernel_rfl) (HROW.out _ HC.out.below) HONE.out (by unfold maxLen; omega) (by omega) ?_
     intro v' wr hown4 hgrow4 hat4
     simp only [Nat.zero_add, List.nil_append] at hown4
     have M4 := HC.out.grow 1 rfl hgrow4 hown4 hat4
     obtain ⟨a40, c40, rfl, _⟩ := M4.val 1 rfl
     have HN := Tre.hid M4
     clear M4 hown4 hgrow4 hat4
     refine ⟨HN.out.two 6 rfl, fun hH2 => ?_⟩
     exact outof_G hG (Z25.out b37 b41 b5 a40 c40 wr HN) (by kernel_rfl) (by rw [hA.out]; try kernel_rfl)
    ·
     have HN := Tre.hid (HC.out.allocR #[.int .i64 (n : Int)] 3)
     have HC := Tre.hid ((((HN.out.front 0 rfl).front 3 rfl).front 3 rfl).front 3 rfl)
     clear HN
     have hH2 := HC.out.two 7 rfl
     refine LStep.made (some 43) (.slice (some ⟨wq.heap.size, 0, none⟩) 1 1) _ (by kernel_rfl) (by kernel_rfl) hH2 ?_
     refine lPu 9 (some 44) (.agg (unA wq.heap.size b41)) (by kernel_rfl) (fun _ _ _ h => h) (fun w => by kernel_rfl) (keep_of hH2) ?_
     exact outof_G hG (Z21.out b37 b41 wq.heap.size b5 _ HC) (by kernel_rfl) (by rw [hA.out]; try kernel_rfl)
    ·
     have HN := Tre.hid (HC.out.allocR #[.int .i64 (r : Int), .int .i64 (n : Int)] 3)
     have HC := Tre.hid ((((HN.out.front 0 rfl).front 3 rfl).front 3 rfl).front 3 rfl)
     clear HN
     have hH2 := HC.out.two 7 rfl
     refine LStep.made (some 48) (.slice (some ⟨wq.heap.size, 0, none⟩) 2 2) _ (by kernel_rfl) (by kernel_rfl) hH2 ?_
     refine lPu 14 (some 49) (.agg (stA wq.heap.size)) (by kernel_rfl) (fun _ _ _ h => h) (fun w => by kernel_rfl) (keep_of hH2) ?_
     exact outof_G hG (Z22.out b37 b41 wq.heap.size b5 _ HC) (by kernel_rfl) (by rw [hA.out]; try kernel_rfl)⟩
   have Z39 : Kept (∀ (b37 : Nat) (b43 : Nat) (b5 : Nat) (wq : World), Hid (Mem w wq [gbR b5 none 0 0 0, noR (some ⟨b37, 0, none⟩) 0 0 [], cellsR b43 3 #[.int .i64 (n : Int)], gbR b4 a33 (n + 1) c33 n, noR a33 (n + 1) c33 (xs ++ (stA b30).toList), cellsR b30 3 #[.int .i64 (r : Int), .int .i64 (r : Int)], gbR w.heap.size (some ⟨ab, ao, none⟩) n ca r]) → G 9 (bt 20 269727) (((a0.put (some 37) (.slice (some ⟨b37, 0, none⟩) 0 0)).put (some 43) (.slice (some ⟨b43, 0, none⟩) 1 1)).put (some 5) (.pointer (some ⟨b5, 0, none⟩))) wq) := ⟨by
    intro b37 b43 b5 wq HC
    refine into_G hG ?_
    rw [hA.out]
    have hH := HC.out.two 6 rfl
    refine lThree 5 6 13 (by kernel_rfl) ?_ ?_ ?_
    ·
     refine LStep.app (some 40) (.tmp 37) (.tmp 39) 22 (by kernel_rfl) 33 ii _ 5 80 Tryz.underlying22 J1.out J2.out J3.out J4.out rfl (by omega) (.slice (some ⟨b37, 0, none⟩) 0 0) 0 [] (by kernel_rfl) (HC.out.row 1 rfl) (some ⟨ab, ao, none⟩) n ca xs (by kernel_rfl) (HROW.out _ HC.out.below) HONE.out (by unfold maxLen; omega) (by omega) ?_
     intro v' wr hown4 hgrow4 hat4
     simp only [Nat.zero_add, List.nil_append] at hown4
     have M4 := HC.out.grow 1 rfl hgrow4 hown4 hat4
     obtain ⟨a40, c40, rfl, _⟩ := M4.val 1 rfl
     have HN := Tre.hid M4
     clear M4 hown4 hgrow4 hat4
     refine ⟨HN.out.two 6 rfl, fun hH2 => ?_⟩
     exact outof_G hG (Z26.out b37 b43 b5 a40 c40 wr HN) (by kernel_rfl) (by rw [hA.out]; try kernel_rfl)
    ·
     have HN := Tre.hid (HC.out.allocR #[.string { data := #[117, 110, 117, 115, 117, 97, 108] }] 9)
     have HC := Tre.hid (((HN.out.front 0 rfl).front 2 rfl).front 2 rfl)
     clear HN
     have hH2 := HC.out.two 7 rfl
     refine LStep.made (some 41) (.slice (some ⟨wq.heap.size, 0, none⟩) 1 1) _ (by kernel_rfl) (by kernel_rfl) hH2 ?_
     refine lPu 9 (some 44) (.agg (unA b43 wq.heap.size)) (by kernel_rfl) (fun _ _ _ h => h) (fun w => by kernel_rfl) (keep_of hH2) ?_
     exact outof_G hG (Z21.out b37 wq.heap.size b43 b5 _ HC) (by kernel_rfl) (by rw [hA.out]; try kernel_rfl)
    ·
     have HN := Tre.hid (HC.out.allocR #[.int .i64 (r : Int), .int .i64 (n : Int)] 3)
     have HC := Tre.hid ((((HN.out.front 0 rfl).front 3 rfl).front 3 rfl).front 3 rfl)
     clear HN
     have hH2 := HC.out.two 7 rfl
     refine LStep.made (some 48) (.slice (some ⟨wq.heap.size, 0, none⟩) 2 2) _ (by kernel_rfl) (by kernel_rfl) hH2 ?_
     refine lPu 14 (some 49) (.agg (stA wq.heap.size)) (by kernel_rfl) (fun _ _ _ h => h) (fun w => by kernel_rfl) (keep_of hH2) ?_
     exact outof_G hG (Z23.out b37 b43 wq.heap.size b5 _ HC) (by kernel_rfl) (by rw [hA.out]; try kernel_rfl)⟩
   have Z40 : Kept (∀ (b37 : Nat) (b48 : Nat) (wq : World), Hid (Mem w wq [noR (some ⟨b37, 0, none⟩) 0 0 [], cellsR b48 3 #[.int .i64 (r : Int), .int .i64 (n : Int)], gbR b4 a33 (n + 1) c33 n, noR a33 (n + 1) c33 (xs ++ (stA b30).toList), cellsR b30 3 #[.int .i64 (r : Int), .int .i64 (r : Int)], gbR w.heap.size (some ⟨ab, ao, none⟩) n ca r]) → G 9 (bt 20 31903) (((a0.put (some 37) (.slice (some ⟨b37, 0, none⟩) 0 0)).put (some 48) (.slice (some ⟨b48, 0, none⟩) 2 2)).put (some 49) (.agg (stA b48))) wq) := ⟨by
    intro b37 b48 wq HC
    refine into_G hG ?_
    rw [hA.out]
    have hH := HC.out.two 5 rfl
    refine lFour 5 6 8 18 (by kernel_rfl) ?_ ?_ ?_ ?_
    ·
     refine LStep.app (some 40) (.tmp 37) (.tmp 39) 22 (by kernel_rfl) 33 ii _ 5 80 Tryz.underlying22 J1.out J2.out J3.out J4.out rfl (by omega) (.slice (some ⟨b37, 0, none⟩) 0 0) 0 [] (by kernel_rfl) (HC.out.row 0 rfl) (some ⟨ab, ao, none⟩) n ca xs (by kernel_rfl) (HROW.out _ HC.out.below) HONE.out (by unfold maxLen; omega) (by omega) ?_
     intro v' wr hown4 hgrow4 hat4
     simp only [Nat.zero_add, List.nil_append] at hown4
     have M4 := HC.out.grow 0 rfl hgrow4 hown4 hat4
     obtain ⟨a40, c40, rfl, _⟩ := M4.val 0 rfl
     have HN := Tre.hid M4
     clear M4 hown4 hgrow4 hat4
     refine ⟨HN.out.two 5 rfl, fun hH2 => ?_⟩
     exact outof_G hG (Z27.out b37 b48 a40 c40 wr HN) (by kernel_rfl) (by rw [hA.out]; try kernel_rfl)
    ·
     have HN := Tre.hid (HC.out.allocR #[.string { data := #[117, 110, 117, 115, 117, 97, 108] }] 9)
     have HC := Tre.hid ((HN.out.front 0 rfl).front 1 rfl)
     clear HN
     have hH2 := HC.out.two 6 rfl
     refine LStep.made (some 41) (.slice (some ⟨wq.heap.size, 0, none⟩) 1 1) _ (by kernel_rfl) (by kernel_rfl) hH2 ?_
     exact outof_G hG (Z29.out b37 wq.heap.size b48 _ HC) (by kernel_rfl) (by rw [hA.out]; try kernel_rfl)
    ·
     have HN := Tre.hid (HC.out.allocR #[.int .i64 (n : Int)] 3)
     have HC := Tre.hid ((HN.out.front 0 rfl).front 1 rfl)
     clear HN
     have hH2 := HC.out.two 6 rfl
     refine LStep.made (some 43) (.slice (some ⟨wq.heap.size, 0, none⟩) 1 1) _ (by kernel_rfl) (by kernel_rfl) hH2 ?_
     exact outof_G hG (Z30.out b37 wq.heap.size b48 _ HC) (by kernel_rfl) (by rw [hA.out]; try kernel_rfl)
    ·
     have HN := Tre.hid (HC.out.allocR #[.slice none 0 0, .int .i64 0] 24)
     have hH2 := HN.out.two 6 rfl
     refine LStep.made (some 5) (.pointer (some ⟨wq.heap.size, 0, none⟩)) _ (by kernel_rfl) (by kernel_rfl) hH2 ?_
     exact outof_G hG (Z31.out b37 b48 wq.heap.size _ HN) (by kernel_rfl) (by rw [hA.out]; try kernel_rfl)⟩
   have Z41 : Kept (∀ (b41 : Nat) (b43 : Nat) (wq : World), Hid (Mem w wq [cellsR b41 9 #[.string { data := #[117, 110, 117, 115, 117, 97, 108] }], cellsR b43 3 #[.int .i64 (n : Int)], gbR b4 a33 (n + 1) c33 n, noR a33 (n + 1) c33 (xs ++ (stA b30).toList), cellsR b30 3 #[.int .i64 (r : Int), .int .i64 (r : Int)], gbR w.heap.size (some ⟨ab, ao, none⟩) n ca r]) → G 9 (bt 20 8155) (((a0.put (some 41) (.slice (some ⟨b41, 0, none⟩) 1 1)).put (some 43) (.slice (some ⟨b43, 0, none⟩) 1 1)).put (some 44) (.agg (unA b43 b41))) wq) := ⟨by
    intro b41 b43 wq HC
    refine into_G hG ?_
    rw [hA.out]
    have hH := HC.out.two 5 rfl
    refine lThree 2 13 18 (by kernel_rfl) ?_ ?_ ?_
    ·
     have HN := Tre.hid (HC.out.allocRow #[] 33 5 0 (by unfold maxLen; omega) rfl)
     have hH2 := HN.out.two 6 rfl
     refine LStep.made (some 37) (.slice (some ⟨wq.heap.size, 0, none⟩) 0 0) _ (by kernel_rfl) (by kernel_rfl) hH2 ?_
     exact outof_G hG (Z28.out wq.heap.size b41 b43 _ HN) (by kernel_rfl) (by rw [hA.out]; try kernel_rfl)
    ·
     have HN := Tre.hid (HC.out.allocR #[.int .i64 (r : Int), .int .i64 (n : Int)] 3)
     have HC := Tre.hid (((HN.out.front 0 rfl).front 2 rfl).front 2 rfl)
     clear HN
     have hH2 := HC.out.two 6 rfl
     refine LStep.made (some 48) (.slice (some ⟨wq.heap.size, 0, none⟩) 2 2) _ (by kernel_rfl) (by kernel_rfl) hH2 ?_
     refine lPu 14 (some 49) (.agg (stA wq.heap.size)) (by kernel_rfl) (fun _ _ _ h => h) (fun w => by kernel_rfl) (keep_of hH2) ?_
     exact outof_G hG (Z24.out b41 b43 wq.heap.size _ HC) (by kernel_rfl) (by rw [hA.out]; try kernel_rfl)
    ·
     have HN := Tre.hid (HC.out.allocR #[.slice none 0 0, .int .i64 0] 24)
     have hH2 := HN.out.two 6 rfl
     refine LStep.made (some 5) (.pointer (some ⟨wq.heap.size, 0, none⟩)) _ (by kernel_rfl) (by kernel_rfl) hH2 ?_
     exact outof_G hG (Z32.out b41 b43 wq.heap.size _ HN) (by kernel_rfl) (by rw [hA.out]; try kernel_rfl)⟩
   have Z42 : Kept (∀ (b41 : Nat) (b48 : Nat) (wq : World), Hid (Mem w wq [cellsR b41 9 #[.string { data := #[117, 110, 117, 115, 117, 97, 108] }], cellsR b48 3 #[.int .i64 (r : Int), .int .i64 (n : Int)], gbR b4 a33 (n + 1) c33 n, noR a33 (n + 1) c33 (xs ++ (stA b30).toList), cellsR b30 3 #[.int .i64 (r : Int), .int .i64 (r : Int)], gbR w.heap.size (some ⟨ab, ao, none⟩) n ca r]) → G 9 (bt 20 31963) (((a0.put (some 41) (.slice (some ⟨b41, 0, none⟩) 1 1)).put (some 48) (.slice (some ⟨b48, 0, none⟩) 2 2)).put (some 49) (.agg (stA b48))) wq) := ⟨by
    intro b41 b48 wq HC
    refine into_G hG ?_
    rw [hA.out]
    have hH := HC.out.two 5 rfl
    refine lThree 2 8 18 (by kernel_rfl) ?_ ?_ ?_
    ·
     have HN := Tre.hid (HC.out.allocRow #[] 33 5 0 (by unfold maxLen; omega) rfl)
     have hH2 := HN.out.two 6 rfl
     refine LStep.made (some 37) (.slice (some ⟨wq.heap.size, 0, none⟩) 0 0) _ (by kernel_rfl) (by kernel_rfl) hH2 ?_
     exact outof_G hG (Z29.out wq.heap.size b41 b48 _ HN) (by kernel_rfl) (by rw [hA.out]; try kernel_rfl)
    ·
     have HN := Tre.hid (HC.out.allocR #[.int .i64 (n : Int)] 3)
     have HC := Tre.hid ((HN.out.front 0 rfl).front 1 rfl)
     clear HN
     have hH2 := HC.out.two 6 rfl
     refine LStep.made (some 43) (.slice (some ⟨wq.heap.size, 0, none⟩) 1 1) _ (by kernel_rfl) (by kernel_rfl) hH2 ?_
     refine lPu 9 (some 44) (.agg (unA wq.heap.size b41)) (by kernel_rfl) (fun _ _ _ h => h) (fun w => by kernel_rfl) (keep_of hH2) ?_
     exact outof_G hG (Z24.out b41 wq.heap.size b48 _ HC) (by kernel_rfl) (by rw [hA.out]; try kernel_rfl)
    ·
     have HN := Tre.hid (HC.out.allocR #[.slice none 0 0, .int .i64 0] 24)
     have hH2 := HN.out.two 6 rfl
     refine LStep.made (some 5) (.pointer (some ⟨wq.heap.size, 0, none⟩)) _ (by kernel_rfl) (by kernel_rfl) hH2 ?_
     exact outof_G hG (Z33.out b41 b48 wq.heap.size _ HN) (by kernel_rfl) (by rw [hA.out]; try kernel_rfl)⟩
   have Z43 : Kept (∀ (b43 : Nat) (b48 : Nat) (wq : World), Hid (Mem w wq [cellsR b43 3 #[.int .i64 (n : Int)], cellsR b48 3 #[.int .i64 (r : Int), .int .i64 (n : Int)], gbR b4 a33 (n + 1) c33 n, noR a33 (n + 1) c33 (xs ++ (stA b30).toList), cellsR b30 3 #[.int .i64 (r : Int), .int .i64 (r : Int)], gbR w.heap.size (some ⟨ab, ao, none⟩) n ca r]) → G 9 (bt 20 32155) (((a0.put (some 43) (.slice (some ⟨b43, 0, none⟩) 1 1)).put (some 48) (.slice (some ⟨b48, 0, none⟩) 2 2)).put (some 49) (.agg (stA b48))) wq) := ⟨by
    intro b43 b48 wq HC
    refine into_G hG ?_
    rw [hA.out]
    have hH := HC.out.two 5 rfl
    refine lThree 2 6 18 (by kernel_rfl) ?_ ?_ ?_
    ·
     have HN := Tre.hid (HC.out.allocRow #[] 33 5 0 (by unfold maxLen; omega) rfl)
     have hH2 := HN.out.two 6 rfl
     refine LStep.made (some 37) (.slice (some ⟨wq.heap.size, 0, none⟩) 0 0) _ (by kernel_rfl) (by kernel_rfl) hH2 ?_
     exact outof_G hG (Z30.out wq.heap.size b43 b48 _ HN) (by kernel_rfl) (by rw [hA.out]; try kernel_rfl)
    ·
     have HN := Tre.hid (HC.out.allocR #[.string { data := #[117, 110, 117, 115, 117, 97, 108] }] 9)
     have hH2 := HN.out.two 6 rfl
     refine LStep.made (some 41) (.slice (some ⟨wq.heap.size, 0, none⟩) 1 1) _ (by kernel_rfl) (by kernel_rfl) hH2 ?_
     refine lPu 9 (some 44) (.agg (unA b43 wq.heap.size)) (by kernel_rfl) (fun _ _ _ h => h) (fun w => by kernel_rfl) (keep_of hH2) ?_
     exact outof_G hG (Z24.out wq.heap.size b43 b48 _ HN) (by kernel_rfl) (by rw [hA.out]; try kernel_rfl)
    ·
     have HN := Tre.hid (HC.out.allocR #[.slice none 0 0, .int .i64 0] 24)
     have hH2 := HN.out.two 6 rfl
     refine LStep.made (some 5) (.pointer (some ⟨wq.heap.size, 0, none⟩)) _ (by kernel_rfl) (by kernel_rfl) hH2 ?_
     exact outof_G hG (Z34.out b43 b48 wq.heap.size _ HN) (by kernel_rfl) (by rw [hA.out]; try kernel_rfl)⟩
   have Z44 : Kept (∀ (b48 : Nat) (b5 : Nat) (wq : World), Hid (Mem w wq [gbR b5 none 0 0 0, cellsR b48 3 #[.int .i64 (r : Int), .int .i64 (n : Int)], gbR b4 a33 (n + 1) c33 n, noR a33 (n + 1) c33 (xs ++ (stA b30).toList), cellsR b30 3 #[.int .i64 (r : Int), .int .i64 (r : Int)], gbR w.heap.size (some ⟨ab, ao, none⟩) n ca r]) → G 9 (bt 20 294043) (((a0.put (some 48) (.slice (some ⟨b48, 0, none⟩) 2 2)).put (some 49) (.agg (stA b48))).put (some 5) (.pointer (some ⟨b5, 0, none⟩))) wq) := ⟨by
    intro b48 b5 wq HC
    refine into_G hG ?_
    rw [hA.out]
    have hH := HC.out.two 5 rfl
    refine lThree 2 6 8 (by kernel_rfl) ?_ ?_ ?_
    ·
     have HN := Tre.hid (HC.out.allocRow #[] 33 5 0 (by unfold maxLen; omega) rfl)
     have HC := Tre.hid ((HN.out.front 0 rfl).front 1 rfl)
     clear HN
     have hH2 := HC.out.two 6 rfl
     refine LStep.made (some 37) (.slice (some ⟨wq.heap.size, 0, none⟩) 0 0) _ (by kernel_rfl) (by kernel_rfl) hH2 ?_
     exact outof_G hG (Z31.out wq.heap.size b48 b5 _ HC) (by kernel_rfl) (by rw [hA.out]; try kernel_rfl)
    ·
     have HN := Tre.hid (HC.out.allocR #[.string { data := #[117, 110, 117, 115, 117, 97, 108] }] 9)
     have HC := Tre.hid ((HN.out.front 0 rfl).front 1 rfl)
     clear HN
     have hH2 := HC.out.two 6 rfl
     refine LStep.made (some 41) (.slice (some ⟨wq.heap.size, 0, none⟩) 1 1) _ (by kernel_rfl) (by kernel_rfl) hH2 ?_
     exact outof_G hG (Z33.out wq.heap.size b48 b5 _ HC) (by kernel_rfl) (by rw [hA.out]; try kernel_rfl)
    ·
     have HN := Tre.hid (HC.out.allocR #[.int .i64 (n : Int)] 3)
     have HC := Tre.hid ((HN.out.front 0 rfl).front 1 rfl)
     clear HN
     have hH2 := HC.out.two 6 rfl
     refine LStep.made (some 43) (.slice (some ⟨wq.heap.size, 0, none⟩) 1 1) _ (by kernel_rfl) (by kernel_rfl) hH2 ?_
     exact outof_G hG (Z34.out wq.heap.size b48 b5 _ HC) (by kernel_rfl) (by rw [hA.out]; try kernel_rfl)⟩
   have Z45 : Kept (∀ (b37 : Nat) (a40 : Option Addr) (c40 : Nat) (wq : World), Hid (Mem w wq [noR a40 n c40 xs, gbR b4 a33 (n + 1) c33 n, noR a33 (n + 1) c33 (xs ++ (stA b30).toList), cellsR b30 3 #[.int .i64 (r : Int), .int .i64 (r : Int)], gbR w.heap.size (some ⟨ab, ao, none⟩) n ca r]) → G 10 (bt 20 7359) ((a0.put (some 37) (.slice (some ⟨b37, 0, none⟩) 0 0)).put (some 40) (.slice a40 n c40)) wq) := ⟨by
    intro b37 a40 c40 wq HC
    refine into_G hG ?_
    rw [hA.out]
    have hH := HC.out.two 4 rfl
    refine lFour 6 8 13 18 (by kernel_rfl) ?_ ?_ ?_ ?_
    ·
     have HN := Tre.hid (HC.out.allocR #[.string { data := #[117, 110, 117, 115, 117, 97, 108] }] 9)
     have HC := Tre.hid ((HN.out.front 0 rfl).front 1 rfl)
     clear HN
     have hH2 := HC.out.two 5 rfl
     refine LStep.made (some 41) (.slice (some ⟨wq.heap.size, 0, none⟩) 1 1) _ (by kernel_rfl) (by kernel_rfl) hH2 ?_
     exact outof_G hG (Z35.out b37 wq.heap.size a40 c40 _ HC) (by kernel_rfl) (by rw [hA.out]; try kernel_rfl)
    ·
     have HN := Tre.hid (HC.out.allocR #[.int .i64 (n : Int)] 3)
     have HC := Tre.hid ((HN.out.front 0 rfl).front 1 rfl)
     clear HN
     have hH2 := HC.out.two 5 rfl
     refine LStep.made (some 43) (.slice (some ⟨wq.heap.size, 0, none⟩) 1 1) _ (by kernel_rfl) (by kernel_rfl) hH2 ?_
     exact outof_G hG (Z36.out b37 wq.heap.size a40 c40 _ HC) (by kernel_rfl) (by rw [hA.out]; try kernel_rfl)
    ·
     have HN := Tre.hid (HC.out.allocR #[.int .i64 (r : Int), .int .i64 (n : Int)] 3)
     have HC := Tre.hid ((HN.out.front 0 rfl).front 1 rfl)
     clear HN
     have hH2 := HC.out.two 5 rfl
     refine LStep.made (some 48) (.slice (some ⟨wq.heap.size, 0, none⟩) 2 2) _ (by kernel_rfl) (by kernel_rfl) hH2 ?_
     refine lPu 14 (some 49) (.agg (stA wq.heap.size)) (by kernel_rfl) (fun _ _ _ h => h) (fun w => by kernel_rfl) (keep_of hH2) ?_
     exact outof_G hG (Z27.out b37 wq.heap.size a40 c40 _ HC) (by kernel_rfl) (by rw [hA.out]; try kernel_rfl)
    ·
     have HN := Tre.hid (HC.out.allocR #[.slice none 0 0, .int .i64 0] 24)
     have hH2 := HN.out.two 5 rfl
     refine LStep.made (some 5) (.pointer (some ⟨wq.heap.size, 0, none⟩)) _ (by kernel_rfl) (by kernel_rfl) hH2 ?_
     exact outof_G hG (Z37.out b37 wq.heap.size a40 c40 _ HN) (by kernel_rfl) (by rw [hA.out]; try kernel_rfl)⟩
   have Z46 : Kept (∀ (b37 : Nat) (b41 : Nat) (wq : World), Hid (Mem w wq [noR (some ⟨b37, 0, none⟩) 0 0 [], cellsR b41 9 #[.string { data := #[117, 110, 117, 115, 117, 97, 108] }], gbR b4 a33 (n + 1) c33 n, noR a33 (n + 1) c33 (xs ++ (stA b30).toList), cellsR b30 3 #[.int .i64 (r : Int), .int .i64 (r : Int)], gbR w.heap.size (some ⟨ab, ao, none⟩) n ca r]) → G 10 (bt 20 7391) ((a0.put (some 37) (.slice (some ⟨b37, 0, none⟩) 0 0)).put (some 41) (.slice (some ⟨b41, 0, none⟩) 1 1)) wq) := ⟨by
    intro b37 b41 wq HC
    refine into_G hG ?_
    rw [hA.out]
    have hH := HC.out.two 5 rfl
    refine lFour 5 8 13 18 (by kernel_rfl) ?_ ?_ ?_ ?_
    ·
     refine LStep.app (some 40) (.tmp 37) (.tmp 39) 22 (by kernel_rfl) 33 ii _ 5 80 Tryz.underlying22 J1.out J2.out J3.out J4.out rfl (by omega) (.slice (some ⟨b37, 0, none⟩) 0 0) 0 [] (by kernel_rfl) (HC.out.row 0 rfl) (some ⟨ab, ao, none⟩) n ca xs (by kernel_rfl) (HROW.out _ HC.out.below) HONE.out (by unfold maxLen; omega) (by omega) ?_
     intro v' wr hown4 hgrow4 hat4
     simp only [Nat.zero_add, List.nil_append] at hown4
     have M4 := HC.out.grow 0 rfl hgrow4 hown4 hat4
     obtain ⟨a40, c40, rfl, _⟩ := M4.val 0 rfl
     have HN := Tre.hid M4
     clear M4 hown4 hgrow4 hat4
     refine ⟨HN.out.two 5 rfl, fun hH2 => ?_⟩
     exact outof_G hG (Z35.out b37 b41 a40 c40 wr HN) (by kernel_rfl) (by rw [hA.out]; try kernel_rfl)
    ·
     have HN := Tre.hid (HC.out.allocR #[.int .i64 (n : Int)] 3)
     have HC := Tre.hid (((HN.out.front 0 rfl).front 2 rfl).front 2 rfl)
     clear HN
     have hH2 := HC.out.two 6 rfl
     refine LStep.made (some 43) (.slice (some ⟨wq.heap.size, 0, none⟩) 1 1) _ (by kernel_rfl) (by kernel_rfl) hH2 ?_
     refine lPu 9 (some 44) (.agg (unA wq.heap.size b41)) (by kernel_rfl) (fun _ _ _ h => h) (fun w => by kernel_rfl) (keep_of hH2) ?_
     exact outof_G hG (Z28.out b37 b41 wq.heap.size _ HC) (by kernel_rfl) (by rw [hA.out]; try kernel_rfl)
    ·
     have HN := Tre.hid (HC.out.allocR #[.int .i64 (r : Int), .int .i64 (n : Int)] 3)
     have HC := Tre.hid (((HN.out.front 0 rfl).front 2 rfl).front 2 rfl)
     clear HN
     have hH2 := HC.out.two 6 rfl
     refine LStep.made (some 48) (.slice (some ⟨wq.heap.size, 0, none⟩) 2 2) _ (by kernel_rfl) (by kernel_rfl) hH2 ?_
     refine lPu 14 (some 49) (.agg (stA wq.heap.size)) (by kernel_rfl) (fun _ _ _ h => h) (fun w => by kernel_rfl) (keep_of hH2) ?_
     exact outof_G hG (Z29.out b37 b41 wq.heap.size _ HC) (by kernel_rfl) (by rw [hA.out]; try kernel_rfl)
    ·
     have HN := Tre.hid (HC.out.allocR #[.slice none 0 0, .int .i64 0] 24)
     have hH2 := HN.out.two 6 rfl
     refine LStep.made (some 5) (.pointer (some ⟨wq.heap.size, 0, none⟩)) _ (by kernel_rfl) (by kernel_rfl) hH2 ?_
     exact outof_G hG (Z38.out b37 b41 wq.heap.size _ HN) (by kernel_rfl) (by rw [hA.out]; try kernel_rfl)⟩
   have Z47 : Kept (∀ (b37 : Nat) (b43 : Nat) (wq : World), Hid (Mem w wq [noR (some ⟨b37, 0, none⟩) 0 0 [], cellsR b43 3 #[.int .i64 (n : Int)], gbR b4 a33 (n + 1) c33 n, noR a33 (n + 1) c33 (xs ++ (stA b30).toList), cellsR b30 3 #[.int .i64 (r : Int), .int .i64 (r : Int)], gbR w.heap.size (some ⟨ab, ao, none⟩) n ca r]) → G 10 (bt 20 7583) ((a0.put (some 37) (.slice (some ⟨b37, 0, none⟩) 0 0)).put (some 43) (.slice (some ⟨b43, 0, none⟩) 1 1)) wq) := ⟨by
    intro b37 b43 wq HC
    refine into_G hG ?_
    rw [hA.out]
    have hH := HC.out.two 5 rfl
    refine lFour 5 6 13 18 (by kernel_rfl) ?_ ?_ ?_ ?_
    ·
     refine LStep.app (some 40) (.tmp 37) (.tmp 39) 22 (by kernel_rfl) 33 ii _ 5 80 Tryz.underlying22 J1.out J2.out J3.out J4.out rfl (by omega) (.slice (some ⟨b37, 0, none⟩) 0 0) 0 [] (by kernel_rfl) (HC.out.row 0 rfl) (some ⟨ab, ao, none⟩) n ca xs (by kernel_rfl) (HROW.out _ HC.out.below) HONE.out (by unfold maxLen; omega) (by omega) ?_
     intro v' wr hown4 hgrow4 hat4
     simp only [Nat.zero_add, List.nil_append] at hown4
     have M4 := HC.out.grow 0 rfl hgrow4 hown4 hat4
     obtain ⟨a40, c40, rfl, _⟩ := M4.val 0 rfl
     have HN := Tre.hid M4
     clear M4 hown4 hgrow4 hat4
     refine ⟨HN.out.two 5 rfl, fun hH2 => ?_⟩
     exact outof_G hG (Z36.out b37 b43 a40 c40 wr HN) (by kernel_rfl) (by rw [hA.out]; try kernel_rfl)
    ·
     have HN := Tre.hid (HC.out.allocR #[.string { data := #[117, 110, 117, 115, 117, 97, 108] }] 9)
     have HC := Tre.hid ((HN.out.front 0 rfl).front 1 rfl)
     clear HN
     have hH2 := HC.out.two 6 rfl
     refine LStep.made (some 41) (.slice (some ⟨wq.heap.size, 0, none⟩) 1 1) _ (by kernel_rfl) (by kernel_rfl) hH2 ?_
     refine lPu 9 (some 44) (.agg (unA b43 wq.heap.size)) (by kernel_rfl) (fun _ _ _ h => h) (fun w => by kernel_rfl) (keep_of hH2) ?_
     exact outof_G hG (Z28.out b37 wq.heap.size b43 _ HC) (by kernel_rfl) (by rw [hA.out]; try kernel_rfl)
    ·
     have HN := Tre.hid (HC.out.allocR #[.int .i64 (r : Int), .int .i64 (n : Int)] 3)
     have HC := Tre.hid (((HN.out.front 0 rfl).front 2 rfl).front 2 rfl)
     clear HN
     have hH2 := HC.out.two 6 rfl
     refine LStep.made (some 48) (.slice (some ⟨wq.heap.size, 0, none⟩) 2 2) _ (by kernel_rfl) (by kernel_rfl) hH2 ?_
     refine lPu 14 (some 49) (.agg (stA wq.heap.size)) (by kernel_rfl) (fun _ _ _ h => h) (fun w => by kernel_rfl) (keep_of hH2) ?_
     exact outof_G hG (Z30.out b37 b43 wq.heap.size _ HC) (by kernel_rfl) (by rw [hA.out]; try kernel_rfl)
    ·
     have HN := Tre.hid (HC.out.allocR #[.slice none 0 0, .int .i64 0] 24)
     have hH2 := HN.out.two 6 rfl
     refine LStep.made (some 5) (.pointer (some ⟨wq.heap.size, 0, none⟩)) _ (by kernel_rfl) (by kernel_rfl) hH2 ?_
     exact outof_G hG (Z39.out b37 b43 wq.heap.size _ HN) (by kernel_rfl) (by rw [hA.out]; try kernel_rfl)⟩
   have Z48 : Kept (∀ (b37 : Nat) (b5 : Nat) (wq : World), Hid (Mem w wq [gbR b5 none 0 0 0, noR (some ⟨b37, 0, none⟩) 0 0 [], gbR b4 a33 (n + 1) c33 n, noR a33 (n + 1) c33 (xs ++ (stA b30).toList), cellsR b30 3 #[.int .i64 (r : Int), .int .i64 (r : Int)], gbR w.heap.size (some ⟨ab, ao, none⟩) n ca r]) → G 10 (bt 20 269471) ((a0.put (some 37) (.slice (some ⟨b37, 0, none⟩) 0 0)).put (some 5) (.pointer (some ⟨b5, 0, none⟩))) wq) := ⟨by
    intro b37 b5 wq HC
    refine into_G hG ?_
    rw [hA.out]
    have hH := HC.out.two 5 rfl
    refine lFour 5 6 8 13 (by kernel_rfl) ?_ ?_ ?_ ?_
    ·
     refine LStep.app (some 40) (.tmp 37) (.tmp 39) 22 (by kernel_rfl) 33 ii _ 5 80 Tryz.underlying22 J1.out J2.out J3.out J4.out rfl (by omega) (.slice (some ⟨b37, 0, none⟩) 0 0) 0 [] (by kernel_rfl) (HC.out.row 1 rfl) (some ⟨ab, ao, none⟩) n ca xs (by kernel_rfl) (HROW.out _ HC.out.below) HONE.out (by unfold maxLen; omega) (by omega) ?_
     intro v' wr hown4 hgrow4 hat4
     simp only [Nat.zero_add, List.nil_append] at hown4
     have M4 := HC.out.grow 1 rfl hgrow4 hown4 hat4
     obtain ⟨a40, c40, rfl, _⟩ := M4.val 1 rfl
     have HN := Tre.hid M4
     clear M4 hown4 hgrow4 hat4
     refine ⟨HN.out.two 5 rfl, fun hH2 => ?_⟩
     exact outof_G hG (Z37.out b37 b5 a40 c40 wr HN) (by kernel_rfl) (by rw [hA.out]; try kernel_rfl)
    ·
     have HN := Tre.hid (HC.out.allocR #[.string { data := #[117, 110, 117, 115, 117, 97, 108] }] 9)
     have HC := Tre.hid (((HN.out.front 0 rfl).front 2 rfl).front 2 rfl)
     clear HN
     have hH2 := HC.out.two 6 rfl
     refine LStep.made (some 41) (.slice (some ⟨wq.heap.size, 0, none⟩) 1 1) _ (by kernel_rfl) (by kernel_rfl) hH2 ?_
     exact outof_G hG (Z38.out b37 wq.heap.size b5 _ HC) (by kernel_rfl) (by rw [hA.out]; try kernel_rfl)
    ·
     have HN := Tre.hid (HC.out.allocR #[.int .i64 (n : Int)] 3)
     have HC := Tre.hid (((HN.out.front 0 rfl).front 2 rfl).front 2 rfl)
     clear HN
     have hH2 := HC.out.two 6 rfl
     refine LStep.made (some 43) (.slice (some ⟨wq.heap.size, 0, none⟩) 1 1) _ (by kernel_rfl) (by kernel_rfl) hH2 ?_
     exact outof_G hG (Z39.out b37 wq.heap.size b5 _ HC) (by kernel_rfl) (by rw [hA.out]; try kernel_rfl)
    ·
     have HN := Tre.hid (HC.out.allocR #[.int .i64 (r : Int), .int .i64 (n : Int)] 3)
     have HC := Tre.hid (((HN.out.front 0 rfl).front 2 rfl).front 2 rfl)
     clear HN
     have hH2 := HC.out.two 6 rfl
     refine LStep.made (some 48) (.slice (some ⟨wq.heap.size, 0, none⟩) 2 2) _ (by kernel_rfl) (by kernel_rfl) hH2 ?_
     refine lPu 14 (some 49) (.agg (stA wq.heap.size)) (by kernel_rfl) (fun _ _ _ h => h) (fun w => by kernel_rfl) (keep_of hH2) ?_
     exact outof_G hG (Z31.out b37 wq.heap.size b5 _ HC) (by kernel_rfl) (by rw [hA.out]; try kernel_rfl)⟩
   have Z49 : Kept (∀ (b41 : Nat) (b5 : Nat) (wq : World), Hid (Mem w wq [gbR b5 none 0 0 0, cellsR b41 9 #[.string { data := #[117, 110, 117, 115, 117, 97, 108] }], gbR b4 a33 (n + 1) c33 n, noR a33 (n + 1) c33 (xs ++ (stA b30).toList), cellsR b30 3 #[.int .i64 (r : Int), .int .i64 (r : Int)], gbR w.heap.size (some ⟨ab, ao, none⟩) n ca r]) → G 10 (bt 20 269531) ((a0.put (some 41) (.slice (some ⟨b41, 0, none⟩) 1 1)).put (some 5) (.pointer (some ⟨b5, 0, none⟩))) wq) := ⟨by
    intro b41 b5 wq HC
    refine into_G hG ?_
    rw [hA.out]
    have hH := HC.out.two 5 rfl
    refine lThree 2 8 13 (by kernel_rfl) ?_ ?_ ?_
    ·
     have HN := Tre.hid (HC.out.allocRow #[] 33 5 0 (by unfold maxLen; omega) rfl)
     have HC := Tre.hid ((HN.out.front 0 rfl).front 1 rfl)
     clear HN
     have hH2 := HC.out.two 6 rfl
     refine LStep.made (some 37) (.slice (some ⟨wq.heap.size, 0, none⟩) 0 0) _ (by kernel_rfl) (by kernel_rfl) hH2 ?_
     exact outof_G hG (Z38.out wq.heap.size b41 b5 _ HC) (by kernel_rfl) (by rw [hA.out]; try kernel_rfl)
    ·
     have HN := Tre.hid (HC.out.allocR #[.int .i64 (n : Int)] 3)
     have HC := Tre.hid (((HN.out.front 0 rfl).front 2 rfl).front 2 rfl)
     clear HN
     have hH2 := HC.out.two 6 rfl
     refine LStep.made (some 43) (.slice (some ⟨wq.heap.size, 0, none⟩) 1 1) _ (by kernel_rfl) (by kernel_rfl) hH2 ?_
     refine lPu 9 (some 44) (.agg (unA wq.heap.size b41)) (by kernel_rfl) (fun _ _ _ h => h) (fun w => by kernel_rfl) (keep_of hH2) ?_
     exact outof_G hG (Z32.out b41 wq.heap.size b5 _ HC) (by kernel_rfl) (by rw [hA.out]; try kernel_rfl)
    ·
     have HN := Tre.hid (HC.out.allocR #[.int .i64 (r : Int), .int .i64 (n : Int)] 3)
     have HC := Tre.hid (((HN.out.front 0 rfl).front 2 rfl).front 2 rfl)
     clear HN
     have hH2 := HC.out.two 6 rfl
     refine LStep.made (some 48) (.slice (some ⟨wq.heap.size, 0, none⟩) 2 2) _ (by kernel_rfl) (by kernel_rfl) hH2 ?_
     refine lPu 14 (some 49) (.agg (stA wq.heap.size)) (by kernel_rfl) (fun _ _ _ h => h) (fun w => by kernel_rfl) (keep_of hH2) ?_
     exact outof_G hG (Z33.out b41 wq.heap.size b5 _ HC) (by kernel_rfl) (by rw [hA.out]; try kernel_rfl)⟩
   have Z50 : Kept (∀ (b43 : Nat) (b5 : Nat) (wq : World), Hid (Mem w wq [gbR b5 none 0 0 0, cellsR b43 3 #[.int .i64 (n : Int)], gbR b4 a33 (n + 1) c33 n, noR a33 (n + 1) c33 (xs ++ (stA b30).toList), cellsR b30 3 #[.int .i64 (r : Int), .int .i64 (r : Int)], gbR w.heap.size (some ⟨ab, ao, none⟩) n ca r]) → G 10 (bt 20 269723) ((a0.put (some 43) (.slice (some ⟨b43, 0, none⟩) 1 1)).put (some 5) (.pointer (some ⟨b5, 0, none⟩))) wq) := ⟨by
    intro b43 b5 wq HC
    refine into_G hG ?_
    rw [hA.out]
    have hH := HC.out.two 5 rfl
    refine lThree 2 6 13 (by kernel_rfl) ?_ ?_ ?_
    ·
     have HN := Tre.hid (HC.out.allocRow #[] 33 5 0 (by unfold maxLen; omega) rfl)
     have HC := Tre.hid ((HN.out.front 0 rfl).front 1 rfl)
     clear HN
     have hH2 := HC.out.two 6 rfl
     refine LStep.made (some 37) (.slice (some ⟨wq.heap.size, 0, none⟩) 0 0) _ (by kernel_rfl) (by kernel_rfl) hH2 ?_
     exact outof_G hG (Z39.out wq.heap.size b43 b5 _ HC) (by kernel_rfl) (by rw [hA.out]; try kernel_rfl)
    ·
     have HN := Tre.hid (HC.out.allocR #[.string { data := #[117, 110, 117, 115, 117, 97, 108] }] 9)
     have HC := Tre.hid ((HN.out.front 0 rfl).front 1 rfl)
     clear HN
     have hH2 := HC.out.two 6 rfl
     refine LStep.made (some 41) (.slice (some ⟨wq.heap.size, 0, none⟩) 1 1) _ (by kernel_rfl) (by kernel_rfl) hH2 ?_
     refine lPu 9 (some 44) (.agg (unA b43 wq.heap.size)) (by kernel_rfl) (fun _ _ _ h => h) (fun w => by kernel_rfl) (keep_of hH2) ?_
     exact outof_G hG (Z32.out wq.heap.size b43 b5 _ HC) (by kernel_rfl) (by rw [hA.out]; try kernel_rfl)
    ·
     have HN := Tre.hid (HC.out.allocR #[.int .i64 (r : Int), .int .i64 (n : Int)] 3)
     have HC := Tre.hid (((HN.out.front 0 rfl).front 2 rfl).front 2 rfl)
     clear HN
     have hH2 := HC.out.two 6 rfl
     refine LStep.made (some 48) (.slice (some ⟨wq.heap.size, 0, none⟩) 2 2) _ (by kernel_rfl) (by kernel_rfl) hH2 ?_
     refine lPu 14 (some 49) (.agg (stA wq.heap.size)) (by kernel_rfl) (fun _ _ _ h => h) (fun w => by kernel_rfl) (keep_of hH2) ?_
     exact outof_G hG (Z34.out b43 wq.heap.size b5 _ HC) (by kernel_rfl) (by rw [hA.out]; try kernel_rfl)⟩
   have Z51 : Kept (∀ (b48 : Nat) (wq : World), Hid (Mem w wq [cellsR b48 3 #[.int .i64 (r : Int), .int .i64 (n : Int)], gbR b4 a33 (n + 1) c33 n, noR a33 (n + 1) c33 (xs ++ (stA b30).toList), cellsR b30 3 #[.int .i64 (r : Int), .int .i64 (r : Int)], gbR w.heap.size (some ⟨ab, ao, none⟩) n ca r]) → G 10 (bt 20 31899) ((a0.put (some 48) (.slice (some ⟨b48, 0, none⟩) 2 2)).put (some 49) (.agg (stA b48))) wq) := ⟨by
    intro b48 wq HC
    refine into_G hG ?_
    rw [hA.out]
    have hH := HC.out.two 4 rfl
    refine lFour 2 6 8 18 (by kernel_rfl) ?_ ?_ ?_ ?_
    ·
     have HN := Tre.hid (HC.out.allocRow #[] 33 5 0 (by unfold maxLen; omega) rfl)
     have hH2 := HN.out.two 5 rfl
     refine LStep.made (some 37) (.slice (some ⟨wq.heap.size, 0, none⟩) 0 0) _ (by kernel_rfl) (by kernel_rfl) hH2 ?_
     exact outof_G hG (Z40.out wq.heap.size b48 _ HN) (by kernel_rfl) (by rw [hA.out]; try kernel_rfl)
    ·
     have HN := Tre.hid (HC.out.allocR #[.string { data := #[117, 110, 117, 115, 117, 97, 108] }] 9)
     have hH2 := HN.out.two 5 rfl
     refine LStep.made (some 41) (.slice (some ⟨wq.heap.size, 0, none⟩) 1 1) _ (by kernel_rfl) (by kernel_rfl) hH2 ?_
     exact outof_G hG (Z42.out wq.heap.size b48 _ HN) (by kernel_rfl) (by rw [hA.out]; try kernel_rfl)
    ·
     have HN := Tre.hid (HC.out.allocR #[.int .i64 (n : Int)] 3)
     have hH2 := HN.out.two 5 rfl
     refine LStep.made (some 43) (.slice (some ⟨wq.heap.size, 0, none⟩) 1 1) _ (by kernel_rfl) (by kernel_rfl) hH2 ?_
     exact outof_G hG (Z43.out wq.heap.size b48 _ HN) (by kernel_rfl) (by rw [hA.out]; try kernel_rfl)
    ·
     have HN := Tre.hid (HC.out.allocR #[.slice none 0 0, .int .i64 0] 24)
     have hH2 := HN.out.two 5 rfl
     refine LStep.made (some 5) (.pointer (some ⟨wq.heap.size, 0, none⟩)) _ (by kernel_rfl) (by kernel_rfl) hH2 ?_
     exact outof_G hG (Z44.out b48 wq.heap.size _ HN) (by kernel_rfl) (by rw [hA.out]; try kernel_rfl)⟩
   have Z52 : Kept (∀ (b37 : Nat) (wq : World), Hid (Mem w wq [noR (some ⟨b37, 0, none⟩) 0 0 [], gbR b4 a33 (n + 1) c33 n, noR a33 (n + 1) c33 (xs ++ (stA b30).toList), cellsR b30 3 #[.int .i64 (r : Int), .int .i64 (r : Int)], gbR w.heap.size (some ⟨ab, ao, none⟩) n ca r]) → G 11 (bt 20 7327) (a0.put (some 37) (.slice (some ⟨b37, 0, none⟩) 0 0)) wq) := ⟨by
    intro b37 wq HC
    refine into_G hG ?_
    rw [hA.out]
    have hH := HC.out.two 4 rfl
    refine lFive 5 6 8 13 18 (by kernel_rfl) ?_ ?_ ?_ ?_ ?_
    ·
     refine LStep.app (some 40) (.tmp 37) (.tmp 39) 22 (by kernel_rfl) 33 ii _ 5 80 Tryz.underlying22 J1.out J2.out J3.out J4.out rfl (by omega) (.slice (some ⟨b37, 0, none⟩) 0 0) 0 [] (by kernel_rfl) (HC.out.row 0 rfl) (some ⟨ab, ao, none⟩) n ca xs (by kernel_rfl) (HROW.out _ HC.out.below) HONE.out (by unfold maxLen; omega) (by omega) ?_
     intro v' wr hown4 hgrow4 hat4
     simp only [Nat.zero_add, List.nil_append] at hown4
     have M4 := HC.out.grow 0 rfl hgrow4 hown4 hat4
     obtain ⟨a40, c40, rfl, _⟩ := M4.val 0 rfl
     have HN := Tre.hid M4
     clear M4 hown4 hgrow4 hat4
     refine ⟨HN.out.two 4 rfl, fun hH2 => ?_⟩
     exact outof_G hG (Z45.out b37 a40 c40 wr HN) (by kernel_rfl) (by rw [hA.out]; try kernel_rfl)
    ·
     have HN := Tre.hid (HC.out.allocR #[.string { data := #[117, 110, 117, 115, 117, 97, 108] }] 9)
     have HC := Tre.hid ((HN.out.front 0 rfl).front 1 rfl)
     clear HN
     have hH2 := HC.out.two 5 rfl
     refine LStep.made (some 41) (.slice (some ⟨wq.heap.size, 0, none⟩) 1 1) _ (by kernel_rfl) (by kernel_rfl) hH2 ?_
     exact outof_G hG (Z46.out b37 wq.heap.size _ HC) (by kernel_rfl) (by rw [hA.out]; try kernel_rfl)
    ·
     have HN := Tre.hid (HC.out.allocR #[.int .i64 (n : Int)] 3)
     have HC := Tre.hid ((HN.out.front 0 rfl).front 1 rfl)
     clear HN
     have hH2 := HC.out.two 5 rfl
     refine LStep.made (some 43) (.slice (some ⟨wq.heap.size, 0, none⟩) 1 1) _ (by kernel_rfl) (by kernel_rfl) hH2 ?_
     exact outof_G hG (Z47.out b37 wq.heap.size _ HC) (by kernel_rfl) (by rw [hA.out]; try kernel_rfl)
    ·
     have HN := Tre.hid (HC.out.allocR #[.int .i64 (r : Int), .int .i64 (n : Int)] 3)
     have HC := Tre.hid ((HN.out.front 0 rfl).front 1 rfl)
     clear HN
     have hH2 := HC.out.two 5 rfl
     refine LStep.made (some 48) (.slice (some ⟨wq.heap.size, 0, none⟩) 2 2) _ (by kernel_rfl) (by kernel_rfl) hH2 ?_
     refine lPu 14 (some 49) (.agg (stA wq.heap.size)) (by kernel_rfl) (fun _ _ _ h => h) (fun w => by kernel_rfl) (keep_of hH2) ?_
     exact outof_G hG (Z40.out b37 wq.heap.size _ HC) (by kernel_rfl) (by rw [hA.out]; try kernel_rfl)
    ·
     have HN := Tre.hid (HC.out.allocR #[.slice none 0 0, .int .i64 0] 24)
     have hH2 := HN.out.two 5 rfl
     refine LStep.made (some 5) (.pointer (some ⟨wq.heap.size, 0, none⟩)) _ (by kernel_rfl) (by kernel_rfl) hH2 ?_
     exact outof_G hG (Z48.out b37 wq.heap.size _ HN) (by kernel_rfl) (by rw [hA.out]; try kernel_rfl)⟩
   have Z53 : Kept (∀ (b41 : Nat) (wq : World), Hid (Mem w wq [cellsR b41 9 #[.string { data := #[117, 110, 117, 115, 117, 97, 108] }], gbR b4 a33 (n + 1) c33 n, noR a33 (n + 1) c33 (xs ++ (stA b30).toList), cellsR b30 3 #[.int .i64 (r : Int), .int .i64 (r : Int)], gbR w.heap.size (some ⟨ab, ao, none⟩) n ca r]) → G 11 (bt 20 7387) (a0.put (some 41) (.slice (some ⟨b41, 0, none⟩) 1 1)) wq) := ⟨by
    intro b41 wq HC
    refine into_G hG ?_
    rw [hA.out]
    have hH := HC.out.two 4 rfl
    refine lFour 2 8 13 18 (by kernel_rfl) ?_ ?_ ?_ ?_
    ·
     have HN := Tre.hid (HC.out.allocRow #[] 33 5 0 (by unfold maxLen; omega) rfl)
     have hH2 := HN.out.two 5 rfl
     refine LStep.made (some 37) (.slice (some ⟨wq.heap.size, 0, none⟩) 0 0) _ (by kernel_rfl) (by kernel_rfl) hH2 ?_
     exact outof_G hG (Z46.out wq.heap.size b41 _ HN) (by kernel_rfl) (by rw [hA.out]; try kernel_rfl)
    ·
     have HN := Tre.hid (HC.out.allocR #[.int .i64 (n : Int)] 3)
     have HC := Tre.hid ((HN.out.front 0 rfl).front 1 rfl)
     clear HN
     have hH2 := HC.out.two 5 rfl
     refine LStep.made (some 43) (.slice (some ⟨wq.heap.size, 0, none⟩) 1 1) _ (by kernel_rfl) (by kernel_rfl) hH2 ?_
     refine lPu 9 (some 44) (.agg (unA wq.heap.size b41)) (by kernel_rfl) (fun _ _ _ h => h) (fun w => by kernel_rfl) (keep_of hH2) ?_
     exact outof_G hG (Z41.out b41 wq.heap.size _ HC) (by kernel_rfl) (by rw [hA.out]; try kernel_rfl)
    ·
     have HN := Tre.hid (HC.out.allocR #[.int .i64 (r : Int), .int .i64 (n : Int)] 3)
     have HC := Tre.hid ((HN.out.front 0 rfl).front 1 rfl)
     clear HN
     have hH2 := HC.out.two 5 rfl
     refine LStep.made (some 48) (.slice (some ⟨wq.heap.size, 0, none⟩) 2 2) _ (by kernel_rfl) (by kernel_rfl) hH2 ?_
     refine lPu 14 (some 49) (.agg (stA wq.heap.size)) (by kernel_rfl) (fun _ _ _ h => h) (fun w => by kernel_rfl) (keep_of hH2) ?_
     exact outof_G hG (Z42.out b41 wq.heap.size _ HC) (by kernel_rfl) (by rw [hA.out]; try kernel_rfl)
    ·
     have HN := Tre.hid (HC.out.allocR #[.slice none 0 0, .int .i64 0] 24)
     have hH2 := HN.out.two 5 rfl
     refine LStep.made (some 5) (.pointer (some ⟨wq.heap.size, 0, none⟩)) _ (by kernel_rfl) (by kernel_rfl) hH2 ?_
     exact outof_G hG (Z49.out b41 wq.heap.size _ HN) (by kernel_rfl) (by rw [hA.out]; try kernel_rfl)⟩
   have Z54 : Kept (∀ (b43 : Nat) (wq : World), Hid (Mem w wq [cellsR b43 3 #[.int .i64 (n : Int)], gbR b4 a33 (n + 1) c33 n, noR a33 (n + 1) c33 (xs ++ (stA b30).toList), cellsR b30 3 #[.int .i64 (r : Int), .int .i64 (r : Int)], gbR w.heap.size (some ⟨ab, ao, none⟩) n ca r]) → G 11 (bt 20 7579) (a0.put (some 43) (.slice (some ⟨b43, 0, none⟩) 1 1)) wq) := ⟨by
    intro b43 wq HC
    refine into_G hG ?_
    rw [hA.out]
    have hH := HC.out.two 4 rfl
    refine lFour 2 6 13 18 (by kernel_rfl) ?_ ?_ ?_ ?_
    ·
     have HN := Tre.hid (HC.out.allocRow #[] 33 5 0 (by unfold maxLen; omega) rfl)
     have hH2 := HN.out.two 5 rfl
     refine LStep.made (some 37) (.slice (some ⟨wq.heap.size, 0, none⟩) 0 0) _ (by kernel_rfl) (by kernel_rfl) hH2 ?_
     exact outof_G hG (Z47.out wq.heap.size b43 _ HN) (by kernel_rfl) (by rw [hA.out]; try kernel_rfl)
    ·
     have HN := Tre.hid (HC.out.allocR #[.string { data := #[117, 110, 117, 115, 117, 97, 108] }] 9)
     have hH2 := HN.out.two 5 rfl
     refine LStep.made (some 41) (.slice (some ⟨wq.heap.size, 0, none⟩) 1 1) _ (by kernel_rfl) (by kernel_rfl) hH2 ?_
     refine lPu 9 (some 44) (.agg (unA b43 wq.heap.size)) (by kernel_rfl) (fun _ _ _ h => h) (fun w => by kernel_rfl) (keep_of hH2) ?_
     exact outof_G hG (Z41.out wq.heap.size b43 _ HN) (by kernel_rfl) (by rw [hA.out]; try kernel_rfl)
    ·
     have HN := Tre.hid (HC.out.allocR #[.int .i64 (r : Int), .int .i64 (n : Int)] 3)
     have HC := Tre.hid ((HN.out.front 0 rfl).front 1 rfl)
     clear HN
     have hH2 := HC.out.two 5 rfl
     refine LStep.made (some 48) (.slice (some ⟨wq.heap.size, 0, none⟩) 2 2) _ (by kernel_rfl) (by kernel_rfl) hH2 ?_
     refine lPu 14 (some 49) (.agg (stA wq.heap.size)) (by kernel_rfl) (fun _ _ _ h => h) (fun w => by kernel_rfl) (keep_of hH2) ?_
     exact outof_G hG (Z43.out b43 wq.heap.size _ HC) (by kernel_rfl) (by rw [hA.out]; try kernel_rfl)
    ·
     have HN := Tre.hid (HC.out.allocR #[.slice none 0 0, .int .i64 0] 24)
     have hH2 := HN.out.two 5 rfl
     refine LStep.made (some 5) (.pointer (some ⟨wq.heap.size, 0, none⟩)) _ (by kernel_rfl) (by kernel_rfl) hH2 ?_
     exact outof_G hG (Z50.out b43 wq.heap.size _ HN) (by kernel_rfl) (by rw [hA.out]; try kernel_rfl)⟩
   have Z55 : Kept (∀ (b5 : Nat) (wq : World), Hid (Mem w wq [gbR b5 none 0 0 0, gbR b4 a33 (n + 1) c33 n, noR a33 (n + 1) c33 (xs ++ (stA b30).toList), cellsR b30 3 #[.int .i64 (r : Int), .int .i64 (r : Int)], gbR w.heap.size (some ⟨ab, ao, none⟩) n ca r]) → G 11 (bt 20 269467) (a0.put (some 5) (.pointer (some ⟨b5, 0, none⟩))) wq) := ⟨by
    intro b5 wq HC
    refine into_G hG ?_
    rw [hA.out]
    have hH := HC.out.two 4 rfl
    refine lFour 2 6 8 13 (by kernel_rfl) ?_ ?_ ?_ ?_
    ·
     have HN := Tre.hid (HC.out.allocRow #[] 33 5 0 (by unfold maxLen; omega) rfl)
     have HC := Tre.hid ((HN.out.front 0 rfl).front 1 rfl)
     clear HN
     have hH2 := HC.out.two 5 rfl
     refine LStep.made (some 37) (.slice (some ⟨wq.heap.size, 0, none⟩) 0 0) _ (by kernel_rfl) (by kernel_rfl) hH2 ?_
     exact outof_G hG (Z48.out wq.heap.size b5 _ HC) (by kernel_rfl) (by rw [hA.out]; try kernel_rfl)
    ·
     have HN := Tre.hid (HC.out.allocR #[.string { data := #[117, 110, 117, 115, 117, 97, 108] }] 9)
     have HC := Tre.hid ((HN.out.front 0 rfl).front 1 rfl)
     clear HN
     have hH2 := HC.out.two 5 rfl
     refine LStep.made (some 41) (.slice (some ⟨wq.heap.size, 0, none⟩) 1 1) _ (by kernel_rfl) (by kernel_rfl) hH2 ?_
     exact outof_G hG (Z49.out wq.heap.size b5 _ HC) (by kernel_rfl) (by rw [hA.out]; try kernel_rfl)
    ·
     have HN := Tre.hid (HC.out.allocR #[.int .i64 (n : Int)] 3)
     have HC := Tre.hid ((HN.out.front 0 rfl).front 1 rfl)
     clear HN
     have hH2 := HC.out.two 5 rfl
     refine LStep.made (some 43) (.slice (some ⟨wq.heap.size, 0, none⟩) 1 1) _ (by kernel_rfl) (by kernel_rfl) hH2 ?_
     exact outof_G hG (Z50.out wq.heap.size b5 _ HC) (by kernel_rfl) (by rw [hA.out]; try kernel_rfl)
    ·
     have HN := Tre.hid (HC.out.allocR #[.int .i64 (r : Int), .int .i64 (n : Int)] 3)
     have HC := Tre.hid ((HN.out.front 0 rfl).front 1 rfl)
     clear HN
     have hH2 := HC.out.two 5 rfl
     refine LStep.made (some 48) (.slice (some ⟨wq.heap.size, 0, none⟩) 2 2) _ (by kernel_rfl) (by kernel_rfl) hH2 ?_
     refine lPu 14 (some 49) (.agg (stA wq.heap.size)) (by kernel_rfl) (fun _ _ _ h => h) (fun w => by kernel_rfl) (keep_of hH2) ?_
     exact outof_G hG (Z44.out wq.heap.size b5 _ HC) (by kernel_rfl) (by rw [hA.out]; try kernel_rfl)⟩
   have Z56 : Kept (∀ (wq : World), Hid (Mem w wq [gbR b4 a33 (n + 1) c33 n, noR a33 (n + 1) c33 (xs ++ (stA b30).toList), cellsR b30 3 #[.int .i64 (r : Int), .int .i64 (r : Int)], gbR w.heap.size (some ⟨ab, ao, none⟩) n ca r]) → G 12 (bt 20 7323) (a0) wq) := ⟨by
    intro  wq HC
    refine into_G hG ?_
    rw [hA.out]
    have hH := HC.out.two 3 rfl
    refine lFive 2 6 8 13 18 (by kernel_rfl) ?_ ?_ ?_ ?_ ?_
    ·
     have HN := Tre.hid (HC.out.allocRow #[] 33 5 0 (by unfold maxLen; omega) rfl)
     have hH2 := HN.out.two 4 rfl
     refine LStep.made (some 37) (.slice (some ⟨wq.heap.size, 0, none⟩) 0 0) _ (by kernel_rfl) (by kernel_rfl) hH2 ?_
     exact outof_G hG (Z52.out wq.heap.size _ HN) (by kernel_rfl) (by rw [hA.out]; try kernel_rfl)
    ·
     have HN := Tre.hid (HC.out.allocR #[.string { data := #[117, 110, 117, 115, 117, 97, 108] }] 9)
     have hH2 := HN.out.two 4 rfl
     refine LStep.made (some 41) (.slice (some ⟨wq.heap.size, 0, none⟩) 1 1) _ (by kernel_rfl) (by kernel_rfl) hH2 ?_
     exact outof_G hG (Z53.out wq.heap.size _ HN) (by kernel_rfl) (by rw [hA.out]; try kernel_rfl)
    ·
     have HN := Tre.hid (HC.out.allocR #[.int .i64 (n : Int)] 3)
     have hH2 := HN.out.two 4 rfl
     refine LStep.made (some 43) (.slice (some ⟨wq.heap.size, 0, none⟩) 1 1) _ (by kernel_rfl) (by kernel_rfl) hH2 ?_
     exact outof_G hG (Z54.out wq.heap.size _ HN) (by kernel_rfl) (by rw [hA.out]; try kernel_rfl)
    ·
     have HN := Tre.hid (HC.out.allocR #[.int .i64 (r : Int), .int .i64 (n : Int)] 3)
     have hH2 := HN.out.two 4 rfl
     refine LStep.made (some 48) (.slice (some ⟨wq.heap.size, 0, none⟩) 2 2) _ (by kernel_rfl) (by kernel_rfl) hH2 ?_
     refine lPu 14 (some 49) (.agg (stA wq.heap.size)) (by kernel_rfl) (fun _ _ _ h => h) (fun w => by kernel_rfl) (keep_of hH2) ?_
     exact outof_G hG (Z51.out wq.heap.size _ HN) (by kernel_rfl) (by rw [hA.out]; try kernel_rfl)
    ·
     have HN := Tre.hid (HC.out.allocR #[.slice none 0 0, .int .i64 0] 24)
     have hH2 := HN.out.two 4 rfl
     refine LStep.made (some 5) (.pointer (some ⟨wq.heap.size, 0, none⟩)) _ (by kernel_rfl) (by kernel_rfl) hH2 ?_
     exact outof_G hG (Z55.out wq.heap.size _ HN) (by kernel_rfl) (by rw [hA.out]; try kernel_rfl)⟩
   exact Z56.out  wq0 HC
  case rest =>
   obtain ⟨b5, a51, c51, b41, b43, b48, rfl, hM6⟩ := hcut
   have HM6 : Hid (Mem w wc [gbR b5 a51 (n + 2) c51 ((n : Int) + 1), noR a51 (n + 2) c51 (xs ++ (usA b43 b41 b48).toList), cellsR b41 9 #[.string { data := #[117, 110, 117, 115, 117, 97, 108] }], cellsR b43 3 #[.int .i64 (n : Int)], cellsR b48 3 #[.int .i64 (r : Int), .int .i64 (n : Int)], gbR b4 a33 (n + 1) c33 n, noR a33 (n + 1) c33 (xs ++ (stA b30).toList), cellsR b30 3 #[.int .i64 (r : Int), .int .i64 (r : Int)], gbR w.heap.size (some ⟨ab, ao, none⟩) n ca r]) := hM6
   clear hM6 HM5 g0 g1
   have hfd := fieldG
   obtain ⟨g0, g1⟩ := HM6.out.two 8 rfl
   go_wp2_with fail
   refine (HLL.out _ HM6.out.below).mono ?_
   rintro e w7 ⟨v7, d7, rfl, hd7, m7⟩
   obtain ⟨a7, c7, rfl, _⟩ := m7.val 0 rfl
   have e7 : d7.length = LG := by rw [← HLG.out, ← hd7, List.length_map]
   rw [e7]
   have HM7 := Tre.hid (HM6.out.quiet m7.below)
   clear m7 hd7 e7 g0 g1 HM6
   obtain ⟨p0, p1⟩ := HM7.out.two 5 rfl
   have NP := pair_nodes (HM7.out.row 6 rfl) HDL.out (fun d hd => (HDV.out d hd).below HM7.out.below) HXS.out (HM7.out.heap 7 rfl)
   rw [← HPNS.out] at NP
   have CP := least_any a33 c33 (pairG g) w7 NP HPW.out (HX.out.below HM7.out.below) (HT.out.below HM7.out.below) HPO.out
   rw [HPR.out, HPN.out] at CP
   have HCP := Tre.hid CP
   clear NP CP
   go_wp2_with fail
   refine HCP.out.mono ?_
   rintro e w8 ⟨v8, d8, rfl, hd8, m8⟩
   obtain ⟨a8, c8, rfl, _⟩ := m8.val 0 rfl
   have e8 : d8.length = (pairG g).leastG.ns.length := by rw [← hd8, List.length_map]
   rw [e8]
   have HM8 := Tre.hid (HM7.out.quiet m8.below)
   clear m8 hd8 e8 p0 p1 HM7 HCP
   have HND : Hid (∀ W, Mem w W [gbR b5 a51 (n + 2) c51 ((n : Int) + 1), noR a51 (n + 2) c51 (xs ++ (usA b43 b41 b48).toList), cellsR b41 9 #[.string { data := #[117, 110, 117, 115, 117, 97, 108] }], cellsR b43 3 #[.int .i64 (n : Int)], cellsR b48 3 #[.int .i64 (r : Int), .int .i64 (n : Int)], gbR b4 a33 (n + 1) c33 n, noR a33 (n + 1) c33 (xs ++ (stA b30).toList), cellsR b30 3 #[.int .i64 (r : Int), .int .i64 (r : Int)], gbR w.heap.size (some ⟨ab, ao, none⟩) n ca r] → Calls Tryz.prog 13 #[.agg #[.slice a51 (n + 2) c51, .int .i64 ((n : Int) + 1)]] W fun e w' => ∃ v ds, e = .returned (.agg #[v, .int .i64 0]) ∧ ds.map NodeV.n = (oddG g).leastG.ns ∧ Mem W w' [nodesR v ds, kidsR ds]) := fun W hM => by
    have NO := odd_nodes (hM.row 1 rfl) HDL.out (fun d hd => (HDV.out d hd).below hM.below) HXS.out (hM.heap 2 rfl) (hM.heap 3 rfl) (hM.heap 4 rfl)
    rw [← HONS.out] at NO
    have CO := least_any a51 c51 (oddG g) W NO HOW.out (HX.out.below hM.below) (HT.out.below hM.below) HOO.out
    rw [HOR.out, HON.out] at CO
    exact CO
   have ho := HOL.out
   have hp := HPL.out
   have hlg := HL3.out
   generalize hP : (pairG g).leastG.ns.length = PL at *
   generalize hO : (oddG g).leastG.ns.length = OL at *
   have HOE := Tre.hid hO
   clear hP hO
   obtain ⟨o0, o1⟩ := HM8.out.two 0 rfl
   rcases hp with hp | hp
   ·have hp1 : (PL : Int) = (LG : Int) + 1 := by omega
    clear hp
    go_wp2_with fail
    refine (HND.out _ HM8.out).mono ?_
    rintro e w9 ⟨v9, d9, rfl, hd9, m9⟩
    obtain ⟨a9, c9, rfl, _⟩ := m9.val 0 rfl
    have e9 : d9.length = OL := by rw [← HOE.out, ← hd9, List.length_map]
    rw [e9]
    have HM9 := Tre.hid (HM8.out.quiet m9.below)
    clear m9 hd9 e9 o0 o1
    obtain ⟨o0, o1⟩ := HM9.out.two 0 rfl
    have u1 : (OL : Int) ≤ (LG : Int) + 2 := by omega
    go_wp2_with fail
    refine (HND.out _ HM9.out).mono ?_
    rintro e w10 ⟨v10, d10, rfl, hd10, m10⟩
    obtain ⟨a10, c10, rfl, _⟩ := m10.val 0 rfl
    have e10 : d10.length = OL := by rw [← HOE.out, ← hd10, List.length_map]
    rw [e10]
    have HM10 := Tre.hid (HM9.out.quiet m10.below)
    clear m10 hd10 e10 o0 o1
    have u2 : (LG : Int) ≤ (OL : Int) := by omega
    go_wp2_with fail
    go_ret
    exact ⟨rfl, HM10.out.below⟩
   ·have hp1 : (PL : Int) = (LG : Int) := by omega
    clear hp
    go_wp2_with fail
    refine (HND.out _ HM8.out).mono ?_
    rintro e w9 ⟨v9, d9, rfl, hd9, m9⟩
    obtain ⟨a9, c9, rfl, _⟩ := m9.val 0 rfl
    have e9 : d9.length = OL := by rw [← HOE.out, ← hd9, List.length_map]
    rw [e9]
    have HM9 := Tre.hid (HM8.out.quiet m9.below)
    clear m9 hd9 e9 o0 o1
    obtain ⟨o0, o1⟩ := HM9.out.two 0 rfl
    have u1 : (OL : Int) ≤ (LG : Int) + 2 := by omega
    go_wp2_with fail
    refine (HND.out _ HM9.out).mono ?_
    rintro e w10 ⟨v10, d10, rfl, hd10, m10⟩
    obtain ⟨a10, c10, rfl, _⟩ := m10.val 0 rfl
    have e10 : d10.length = OL := by rw [← HOE.out, ← hd10, List.length_map]
    rw [e10]
    have HM10 := Tre.hid (HM9.out.quiet m10.below)
    clear m10 hd10 e10 o0 o1
    have u2 : (LG : Int) ≤ (OL : Int) := by omega
    go_wp2_with fail
    go_ret
    exact ⟨rfl, HM10.out.below⟩
end Go.Proofs.YtaleodkbghogfaaGreatDoor.gr
