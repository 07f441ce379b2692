/- The reference's Same. -/
import Derived.Test.YtgngnkajjldnlaaRchk
import Derived.Test.YtgngnkajjldnlaaRsp
import Derived.Test.YtgngnkajjldnlaaRefe
import Derived.Test.YtgngnkajjldnlaaSame
namespace Go.Proofs.Ytgngnkajjldnlaa.gr
open Go.RowKit Go.Shelf Go.Maps Go.Tre lex
theorem pcells_at {P : List (Nat × Nat)} {k : Nat} {p : Nat × Nat} (h : P[k]? = some p) : (pcells P)[k * 2]? = some (.int .i64 (p.1 : Int)) ∧ (pcells P)[k * 2 + 1]? = some (.int .i64 (p.2 : Int)) := by
  induction P generalizing k with
  | nil => simp at h
  | cons q P ih =>
    cases k with
    | zero => simp at h; subst h; exact ⟨rfl, rfl⟩
    | succ k =>
      simp at h
      have := ih h
      rw [show (k + 1) * 2 = k * 2 + 2 by omega, show k * 2 + 2 + 1 = (k * 2 + 1) + 2 by omega]
      exact this
theorem eqArr (a b c d : Int) (w : World) : (Op.equalIn 10000 49 (.agg #[.int .i64 a, .int .i64 b]) (.agg #[.int .i64 c, .int .i64 d])).run Try.prog w = .ok (a == c && b == d) w := by
  have u3 := Try.underlying3
  have a3 := Try.isAgg3
  have z3 := Try.sizeOf3
  rw [show (10000 : Nat) = 9999 + 1 from rfl, Op.equalIn]
  simp only [Sem.run_bind, run_underlying Try.underlying49, Result.andThen_ok]
  simp only [Std.Legacy.Range.forIn_eq_forIn_range', Std.Legacy.Range.size, Nat.sub_zero, Nat.add_sub_cancel, Nat.div_one, List.range'_succ, List.range'_zero, List.forIn_cons, List.forIn_nil]
  go_simp
  by_cases h1 : a = c <;> by_cases h2 : b = d <;> simp [h1, h2]
theorem infoP2 : (Try.prog.info? 49).map (fun i => (i.zero, i.size, i.bytes)) = some (some (.agg #[.int .i64 0, .int .i64 0]), 2, 16) := by kernel_rfl

set_option maxRecDepth 100000 in
set_option maxHeartbeats 8000000 in
theorem refSame_ok (a b : Option Addr) (ca cb : Nat) (g h : Tre.Graph) (w : World) (hg : NodesAt w a g.ns) (hh : NodesAt w b h.ns) (wg : g.weight ≤ 2097152) (wh : h.weight ≤ 2097152) (c0 : g.checkC = 0) (c1 : h.checkC = 0) :
    Calls Try.prog 12 #[.agg #[.slice a g.ns.length ca, .int .i64 g.root], .agg #[.slice b h.ns.length cb, .int .i64 h.root]] w fun e w' => e = .returned (.bool (sameB g h)) ∧ Below w.heap.size w w' := by
  have M := ((Mem.nil w).allocR #[.slice a g.ns.length ca, .int .i64 g.root] 24).allocR #[.slice b h.ns.length cb, .int .i64 h.root] 24
  rw [show (w.alloc (.cells #[.slice a g.ns.length ca, .int .i64 g.root] 24)).heap.size = w.heap.size + 1 by simp] at M
  have HG := Tre.hid hg
  have HH := Tre.hid hh
  have HM0 := Tre.hid M
  have OG := Tre.hid (Graph.ok_of c0)
  have OH := Tre.hid (Graph.ok_of c1)
  have C0 := Tre.hid c0
  have C1 := Tre.hid c1
  have r0 : Hid (g.root = ((g.root.toNat : Nat) : Int)) := by have := OG.out.root0; show _ = _; omega
  have r1 : Hid (h.root = ((h.root.toNat : Nat) : Int)) := by have := OH.out.root0; show _ = _; omega
  have u0 : (g.checkC != 0) = false := by rw [c0]; rfl
  have u1 : (h.checkC != 0) = false := by rw [c1]; rfl
  have hgl := OG.out.len
  have hhl := OH.out.len
  have hN : g.ns.length * h.ns.length ≤ 1048576 * 1048576 := Nat.mul_le_mul hgl hhl
  have heq := eqArr
  obtain ⟨ii, I1, I2, I3, I4⟩ := info_parts infoP2
  have J1 := Tre.hid I1
  have J2 := Tre.hid I2
  have J3 := Tre.hid I3
  have J4 := Tre.hid I4
  clear hg hh M c0 c1 I1 I2 I3 I4
  go_enter Try.func12, Try.ntmps12
  go_wp2_with fail
  refine (refCheck a ca g _ (HG.out.below HM0.out.below) (by omega)).mono ?_
  rintro e w1 ⟨rfl, b1⟩
  have M1 := HM0.out.quiet b1
  obtain ⟨g0, g1⟩ := M1.two 1 rfl
  obtain ⟨h0, h1⟩ := M1.two 0 rfl
  have HM1 := Tre.hid M1
  clear M1 b1
  go_wp2_with fail
  refine (refCheck b cb h _ (HH.out.below HM1.out.below) (by omega)).mono ?_
  rintro e w2 ⟨rfl, b2⟩
  clear g0 g1 h0 h1
  have M2 := HM1.out.quiet b2
  obtain ⟨g0, g1⟩ := M2.two 1 rfl
  obtain ⟨h0, h1⟩ := M2.two 0 rfl
  have M3 := M2.allocRow #[.int .i64 g.root, .int .i64 h.root] 49 2 1 (by unfold maxLen; omega) rfl
  have HM3 := Tre.hid M3
  clear M2 b2 M3
  go_wp2_with fail
  go_loopw [5, 6] (fun v5 v6 wr => ∃ (P : List (Nat × Nat)) (k : Nat), k ≤ P.length ∧ v6 = .int .i64 k ∧ Hid (RInv g h P k 0) ∧
      Hid (Mem w wr [rowR 49 2 v5 P.length (pcells P), cellsR (w.heap.size + 1) 24 #[.slice b h.ns.length cb, .int .i64 h.root], cellsR w.heap.size 24 #[.slice a g.ns.length ca, .int .i64 g.root]]))
    (fun _ v6 _ => g.ns.length * h.ns.length - (intOf v6).toNat)
  case atStart =>
    refine ⟨[(g.root.toNat, h.root.toNat)], 0, Nat.zero_le _, rfl, RInv.start, ?_⟩
    have e : pcells [(g.root.toNat, h.root.toNat)] = [.int .i64 g.root, .int .i64 h.root] := by
      show [Value.int .i64 ((g.root.toNat : Nat) : Int), Value.int .i64 ((h.root.toNat : Nat) : Int)] = _
      rw [← r0.out, ← r1.out]
    rw [e]
    exact HM3.out
  case round =>
    obtain ⟨P, k, hk, rfl, hI, hM⟩ := hrel
    have hPl : P.length ≤ g.ns.length * h.ns.length := hI.out.len OG.out OH.out
    obtain ⟨aP, cP, rfl, _⟩ := hM.out.val 0 rfl
    by_cases hlt : k < P.length
    · obtain ⟨⟨x, y⟩, hp⟩ : ∃ p, P[k]? = some p := ⟨_, List.getElem?_eq_getElem hlt⟩
      have hpc := pcells_at hp
      obtain ⟨gP, rfl, _, _, q0⟩ := hM.out.getRow 0 rfl (k * 2) hpc.1
      have q1 := hM.out.cellAt 0 rfl (k * 2 + 1) hpc.2
      have hxy := (hI.out.rp _ (List.mem_of_getElem? hp)).lt OG.out OH.out
      have hxl : x < g.ns.length := hxy.1
      have hyl : y < h.ns.length := hxy.2
      have i1 : (0 : Int) ≤ k := by omega
      have i2 : (k : Int) < P.length := by omega
      have j1 : (0 : Int) ≤ x := by omega
      have j2 : (x : Int) < g.ns.length := by omega
      have j3 : (0 : Int) ≤ y := by omega
      have j4 : (y : Int) < h.ns.length := by omega
      obtain ⟨b1, o1, rfl, nx⟩ := HG.out.at_ x (g.nd x) (by rw [Graph.nd_eq hxl]; exact List.getElem?_eq_getElem hxl)
      obtain ⟨b2, o2, rfl, ny⟩ := HH.out.at_ y (h.nd y) (by rw [Graph.nd_eq hyl]; exact List.getElem?_eq_getElem hyl)
      have hXw : (g.nd x).weight ≤ g.weight := by rw [Graph.nd_eq hxl]; exact node_weight (List.getElem_mem hxl)
      have hYw : (h.nd y).weight ≤ h.weight := by rw [Graph.nd_eq hyl]; exact node_weight (List.getElem_mem hyl)
      have hXa := args_len (g.nd x)
      have hXl := labels_len (g.nd x)
      have hYa := args_len (h.nd y)
      have hYl := labels_len (h.nd y)
      generalize hX : g.nd x = X at *
      generalize hY : h.nd y = Y at *
      have HX := Tre.hid hX
      have HY := Tre.hid hY
      obtain ⟨ax, cx, lx, dx, x0', x1', x2', x3', x4', xA, xL, _, _⟩ := nx
      obtain ⟨ay, cy, ly, dy, y0', y1', y2', y3', y4', yA, yL, _, _⟩ := ny
      have x0 := cell_below hM.out.below x0'
      have x1 := cell_below hM.out.below x1'
      have x2 := cell_below hM.out.below x2'
      have x3 := cell_below hM.out.below x3'
      have x4 := cell_below hM.out.below x4'
      have y0 := cell_below hM.out.below y0'
      have y1 := cell_below hM.out.below y1'
      have y2 := cell_below hM.out.below y2'
      have y3 := cell_below hM.out.below y3'
      have y4 := cell_below hM.out.below y4'
      have X2 := Tre.hid x2'
      have Y2 := Tre.hid y2'
      have XA := Tre.hid xA
      have XL := Tre.hid xL
      have YA := Tre.hid yA
      have YL := Tre.hid yL
      have HP := Tre.hid hp
      obtain ⟨g0, g1⟩ := hM.out.two 2 rfl
      obtain ⟨h0, h1⟩ := hM.out.two 1 rfl
      have bA : X.args.length ≤ 8388608 := by omega
      have bB : Y.args.length ≤ 8388608 := by omega
      have bC : X.labels.length ≤ 8388608 := by omega
      have bD : Y.labels.length ≤ 8388608 := by omega
      clear hX hY xA xL yA yL hp hpc hxy hXw hYw hXa hXl hYa hYl x0' x1' x2' x3' x4' y0' y1' y2' y3' y4'
      go_wp2_with fail
      go_region_held3 (fun w' => w'.cell? ⟨gP, k * 2, none⟩ = some (.int .i64 (x : Int)) ∧ w'.cell? ⟨gP, k * 2 + 1, none⟩ = some (.int .i64 (y : Int))) (go_keep) (fail)
      clear q0 q1
      by_cases hal : alikeB X Y = true
      · have HAL := Tre.hid hal
        clear hal
        go_wp2_with fail
        go_region_held3 (fun w' => Below wr.heap.size wr w' ∧ w'.cell? ⟨w.heap.size, 0, none⟩ = some (.slice (some ⟨b1, o1, none⟩) g.ns.length ca) ∧ w'.cell? ⟨w.heap.size + 1, 0, none⟩ = some (.slice (some ⟨b2, o2, none⟩) h.ns.length cb) ∧
            w'.cell? ⟨b1, o1 + x * 5, none⟩ = some (.int .i64 X.kind) ∧ w'.cell? ⟨b1, o1 + x * 5 + 1, none⟩ = some (.string X.name) ∧ w'.cell? ⟨b1, o1 + x * 5 + 2, none⟩ = some (.slice ax X.args.length cx) ∧ w'.cell? ⟨b1, o1 + x * 5 + 3, none⟩ = some (.slice lx X.labels.length dx) ∧ w'.cell? ⟨b1, o1 + x * 5 + 4, none⟩ = some (.bool X.isOpen) ∧
            w'.cell? ⟨b2, o2 + y * 5, none⟩ = some (.int .i64 Y.kind) ∧ w'.cell? ⟨b2, o2 + y * 5 + 1, none⟩ = some (.string Y.name) ∧ w'.cell? ⟨b2, o2 + y * 5 + 2, none⟩ = some (.slice ay Y.args.length cy) ∧ w'.cell? ⟨b2, o2 + y * 5 + 3, none⟩ = some (.slice ly Y.labels.length dy) ∧ w'.cell? ⟨b2, o2 + y * 5 + 4, none⟩ = some (.bool Y.isOpen))
          (first
            | exact ⟨(Below.refl _ _).drew.drew, g0, h0, x0, x1, x2, x3, x4, y0, y1, y2, y3, y4⟩
            | exact ⟨(Below.refl _ _).drew.drew.trans c9, cell_below c9 g0, cell_below c9 h0, cell_below c9 x0, cell_below c9 x1, cell_below c9 x2, cell_below c9 x3, cell_below c9 x4, cell_below c9 y0, cell_below c9 y1, cell_below c9 y2, cell_below c9 y3, cell_below c9 y4⟩
            | go_keep)
          (first | (go_at_call 25; refine (refAlike X Y ax cx lx dx ay cy ly dy _ ?_ ?_ bC bD bA bB).mono ?_; (exact XL.out.below hM.out.below.drew.drew); (exact YL.out.below hM.out.below.drew.drew); rintro e w9 ⟨rfl, c9⟩; rw [HAL.out]))
        have BW := Tre.hid (show Below wr.heap.size wr w9 ∧ _ from by assumption).1
        have hM9 := hM.out.quiet BW.out
        obtain ⟨g0', g1'⟩ := hM9.two 2 rfl
        obtain ⟨h0', h1'⟩ := hM9.two 1 rfl
        have HM9 := Tre.hid hM9
        have z2 := cell_below HM9.out.below X2.out
        clear hM9
        rename_i hheld
        clear hheld
        go_wp2_with fail
        clear x0 x1 x2 x3 x4 y0 y1 y2 y3 y4 g0 g1 h0 h1 g0' g1' h0' h1' z2
        have HLEN := Tre.hid (alike_deg HAL.out)
        have hPk := HP.out
        obtain ⟨wo, rfl⟩ : ∃ wo : World, wo = wr := ⟨_, rfl⟩
        go_loopw [5, 67] (fun v5 v67 wi => ∃ (P' : List (Nat × Nat)) (i : Nat), i ≤ X.args.length ∧ v67 = .int .i64 i ∧ Hid (RInv g h P' k i) ∧ Hid (P'[k]? = some (x, y)) ∧
            Hid (Mem w wi [rowR 49 2 v5 P'.length (pcells P'), cellsR (w.heap.size + 1) 24 #[.slice (some ⟨b2, o2, none⟩) h.ns.length cb, .int .i64 h.root], cellsR w.heap.size 24 #[.slice (some ⟨b1, o1, none⟩) g.ns.length ca, .int .i64 g.root]]))
          (fun _ v67 _ => X.args.length - (intOf v67).toNat)
        case atStart => exact ⟨P, 0, Nat.zero_le _, rfl, hI.out, HP.out, HM9.out⟩
        case round =>
          obtain ⟨P', i, hi, rfl, hI', hPx, hM'⟩ := hrel
          have hPl' : P'.length ≤ g.ns.length * h.ns.length := hI'.out.len OG.out OH.out
          obtain ⟨aQ, cQ, rfl, _⟩ := hM'.out.val 0 rfl
          by_cases hil : i < X.args.length
          · obtain ⟨kx, hkx, ekx, _⟩ := OG.out.arg hxl (i := i) (by unfold Graph.deg; rw [HX.out]; exact hil)
            obtain ⟨ky, hky, eky, _⟩ := OH.out.arg hyl (i := i) (by unfold Graph.deg; rw [HY.out, ← HLEN.out]; exact hil)
            rw [HX.out] at hkx
            rw [HY.out] at hky
            obtain ⟨bx, px, rfl, xc⟩ := XA.out.at_ i (.int .i64 (kx : Int)) (by rw [List.getElem?_map, hkx]; rfl)
            obtain ⟨by', py, rfl, yc⟩ := YA.out.at_ i (.int .i64 (ky : Int)) (by rw [List.getElem?_map, hky]; rfl)
            have xc' := cell_below hM'.out.below xc
            have yc' := cell_below hM'.out.below yc
            have x2' := cell_below hM'.out.below X2.out
            have y2' := cell_below hM'.out.below Y2.out
            obtain ⟨g0, g1⟩ := hM'.out.two 2 rfl
            obtain ⟨h0, h1⟩ := hM'.out.two 1 rfl
            have l1 : (0 : Int) ≤ i := by omega
            have l2 : (i : Int) < X.args.length := by omega
            have l3 : (i : Int) < Y.args.length := by have := HLEN.out; omega
            have HKX := Tre.hid ekx
            have HKY := Tre.hid eky
            clear hkx hky ekx eky xc yc
            go_wp2_with fail
            go_region_held3 (fun w' => w'.cell? ⟨w.heap.size, 0, none⟩ = some (.slice (some ⟨b1, o1, none⟩) g.ns.length ca) ∧ w'.cell? ⟨w.heap.size + 1, 0, none⟩ = some (.slice (some ⟨b2, o2, none⟩) h.ns.length cb) ∧ w'.cell? ⟨b1, o1 + x * 5 + 2, none⟩ = some (.slice (some ⟨bx, px, none⟩) X.args.length cx) ∧ w'.cell? ⟨b2, o2 + y * 5 + 2, none⟩ = some (.slice (some ⟨by', py, none⟩) Y.args.length cy) ∧ w'.cell? ⟨bx, px + i, none⟩ = some (.int .i64 (kx : Int)) ∧ w'.cell? ⟨by', py + i, none⟩ = some (.int .i64 (ky : Int))) (go_keep) (fail)
            have M10 := (hM'.out.allocR #[.int .i64 (kx : Int), .int .i64 (ky : Int)] 49).drew
            have HM10 := Tre.hid M10
            clear M10 g0 g1 h0 h1 x2' y2' xc' yc'
            go_wp2_with fail
            obtain ⟨wq, rfl⟩ : ∃ wq : World, wq = wr := ⟨_, rfl⟩
            go_loopw [11, 91] (fun v11 v91 wi => ∃ j : Nat, j ≤ P'.length ∧ v91 = .int .i64 j ∧ v11 = .bool (decide ((kx, ky) ∈ P'.take j)) ∧
                Hid (Mem w wi [cellsR wq.heap.size 49 #[.int .i64 (kx : Int), .int .i64 (ky : Int)], rowR 49 2 (.slice aQ P'.length cQ) P'.length (pcells P'), cellsR (w.heap.size + 1) 24 #[.slice (some ⟨b2, o2, none⟩) h.ns.length cb, .int .i64 h.root], cellsR w.heap.size 24 #[.slice (some ⟨b1, o1, none⟩) g.ns.length ca, .int .i64 g.root]]))
              (fun _ v91 _ => P'.length - (intOf v91).toNat)
            case atStart => exact ⟨0, Nat.zero_le _, rfl, by simp, HM10.out⟩
            case round =>
              obtain ⟨j, hj, rfl, rfl, hM3⟩ := hrel
              by_cases hjl : j < P'.length
              · obtain ⟨⟨s1, s2⟩, hs⟩ : ∃ p, P'[j]? = some p := ⟨_, List.getElem?_eq_getElem hjl⟩
                have hpc := pcells_at hs
                obtain ⟨gQ, rfl, _, _, q0⟩ := hM3.out.getRow 1 rfl (j * 2) hpc.1
                have q1 := hM3.out.cellAt 1 rfl (j * 2 + 1) hpc.2
                have M11 := hM3.out.allocR #[.int .i64 (s1 : Int), .int .i64 (s2 : Int)] 49
                obtain ⟨t0, t1⟩ := M11.two 1 rfl
                have HM11 := Tre.hid M11.drop1
                have HS := Tre.hid hs
                have m1 : (0 : Int) ≤ j := by omega
                have m2 : (j : Int) < P'.length := by omega
                clear hpc hs M11
                have hts : Hid ((kx, ky) ∈ P'.take (j + 1) ↔ (kx, ky) ∈ P'.take j ∨ (kx, ky) = (s1, s2)) := by
                  show _ ↔ _
                  rw [List.take_add_one, HS.out, List.mem_append]; simp
                cases hd : decide ((kx, ky) ∈ P'.take j) with
                | true =>
                  go_wp2_with fail
                  go_roundw
                  case rel => exact ⟨j + 1, by omega, by go_num, by rw [decide_eq_true (hts.out.2 (.inl (of_decide_eq_true hd)))], HM11.out⟩
                  case measure => simp [intOf]; omega
                | false =>
                  have HD := Tre.hid (of_decide_eq_false hd)
                  by_cases he : s1 = kx ∧ s2 = ky
                  · have e1 : ((s1 : Int) == (kx : Int)) = true := by rw [he.1]; simp
                    have e2 : ((s2 : Int) == (ky : Int)) = true := by rw [he.2]; simp
                    have HE : Hid ((kx, ky) = (s1, s2)) := by show _ = _; rw [he.1, he.2]
                    clear he hd
                    go_wp2_with fail
                    go_roundw
                    case rel => exact ⟨j + 1, by omega, by go_num, by rw [decide_eq_true (hts.out.2 (.inr HE.out))], HM11.out⟩
                    case measure => simp [intOf]; omega
                  · have e1 : (((s1 : Int) == (kx : Int)) && ((s2 : Int) == (ky : Int))) = false := by
                      rw [Bool.and_eq_false_iff]
                      by_cases h1 : s1 = kx
                      · right; rw [beq_eq_false_iff_ne]; intro h2; exact he ⟨h1, by omega⟩
                      · left; rw [beq_eq_false_iff_ne]; omega
                    have HE : Hid (¬ (kx, ky) = (s1, s2)) := fun e => by cases e; exact he ⟨rfl, rfl⟩
                    clear he hd
                    go_wp2_with fail
                    go_roundw
                    case rel => exact ⟨j + 1, by omega, by go_num, by rw [decide_eq_false (fun e => (hts.out.1 e).elim HD.out HE.out)], HM11.out⟩
                    case measure => simp [intOf]; omega
              · have ej : P'.take j = P' := List.take_of_length_le (by omega)
                rw [ej]
                obtain ⟨t0, t1⟩ := hM3.out.two 0 rfl
                have HKX' : Hid ((kx, ky) = (g.kid x i, h.kid y i)) := by show _ = _; rw [HKX.out, HKY.out]
                by_cases hin : (kx, ky) ∈ P'
                · have hd : decide ((kx, ky) ∈ P') = true := decide_eq_true hin
                  have HIN := Tre.hid hin
                  clear hin ej
                  go_wp2_with fail
                  go_roundw
                  case rel => exact ⟨P', i + 1, by omega, by go_num, hI'.out.there (p := (x, y)) hPx.out (by have := HIN.out; rw [HKX'.out] at this; exact this), hPx.out, hM3.out.drop1⟩
                  case measure => simp [intOf]; omega
                · have hd : decide ((kx, ky) ∈ P') = false := decide_eq_false hin
                  have HIN := Tre.hid hin
                  have MB := hM3.out.alloc (.cells #[.int .i64 (kx : Int), .int .i64 (ky : Int)] 49)
                  have HMB := Tre.hid MB
                  clear hin ej MB
                  go_wp2_with (at_builtin; refine wpList_append_own_at _ rfl _ _ 50 rfl 0 49 ii _ 2 16 Try.underlying50 J1.out J2.out J3.out J4.out rfl (by omega) (.slice aQ P'.length cQ) P'.length (pcells P') rfl (HMB.out.row 1 rfl) ⟨wr.heap.size, 0, none⟩ 1 1 [.int .i64 (kx : Int), .int .i64 (ky : Int)] rfl rfl (World.news_of_block (cs := #[.int .i64 (kx : Int), .int .i64 (ky : Int)]) (t := 49) (fr := (0, 0)) (heap_alloc_new wr _)) (by simp [Value.oneCell']) (by unfold maxLen; omega) (by omega) (Nat.zero_le _) ?_; intro v' w4 hown4 hgrow4 hnil4 hat4; have M4 := HMB.out.grow 1 rfl hgrow4 hown4 hat4; have HM4 := Tre.hid M4; clear M4 hown4 hgrow4 hnil4 hat4)
                  go_roundw
                  case rel =>
                    have := hI'.out.more (p := (x, y)) hPx.out (by unfold Graph.deg; rw [HX.out]; exact hil) (by unfold Graph.deg; rw [HY.out, ← HLEN.out]; exact hil) (by have := HIN.out; rw [HKX'.out] at this; exact this)
                    rw [← HKX'.out] at this
                    refine ⟨P' ++ [(kx, ky)], i + 1, by omega, by go_num, this, ?_, ?_⟩
                    · show _ = _
                      rw [List.getElem?_append_left (by exact (List.getElem?_eq_some_iff.1 hPx.out).1)]; exact hPx.out
                    · show Mem _ _ _
                      rw [List.length_append, List.length_singleton, pcells_snoc]
                      exact HM4.out.drop1
                  case measure => simp [intOf]; omega
          · have hnx := hI'.out.next (p := (x, y)) hPx.out (by rw [HX.out, HY.out]; exact HAL.out) (by unfold Graph.deg; rw [HX.out]; omega)
            have hkl := (List.getElem?_eq_some_iff.1 hPx.out).1
            have HNX := Tre.hid hnx
            clear hnx
            go_wp2_with fail
            go_roundw
            case rel => exact ⟨P', k + 1, by omega, by go_num, HNX.out, hM'.out⟩
            case measure => simp [intOf]; omega
      · have hal' : alikeB X Y = false := by simpa using hal
        have HAL := Tre.hid hal'
        clear hal hal'
        go_wp2_with fail
        go_region_held3 (fun w' => Below wr.heap.size wr w' ∧ w'.cell? ⟨w.heap.size, 0, none⟩ = some (.slice (some ⟨b1, o1, none⟩) g.ns.length ca) ∧ w'.cell? ⟨w.heap.size + 1, 0, none⟩ = some (.slice (some ⟨b2, o2, none⟩) h.ns.length cb) ∧
            w'.cell? ⟨b1, o1 + x * 5, none⟩ = some (.int .i64 X.kind) ∧ w'.cell? ⟨b1, o1 + x * 5 + 1, none⟩ = some (.string X.name) ∧ w'.cell? ⟨b1, o1 + x * 5 + 2, none⟩ = some (.slice ax X.args.length cx) ∧ w'.cell? ⟨b1, o1 + x * 5 + 3, none⟩ = some (.slice lx X.labels.length dx) ∧ w'.cell? ⟨b1, o1 + x * 5 + 4, none⟩ = some (.bool X.isOpen) ∧
            w'.cell? ⟨b2, o2 + y * 5, none⟩ = some (.int .i64 Y.kind) ∧ w'.cell? ⟨b2, o2 + y * 5 + 1, none⟩ = some (.string Y.name) ∧ w'.cell? ⟨b2, o2 + y * 5 + 2, none⟩ = some (.slice ay Y.args.length cy) ∧ w'.cell? ⟨b2, o2 + y * 5 + 3, none⟩ = some (.slice ly Y.labels.length dy) ∧ w'.cell? ⟨b2, o2 + y * 5 + 4, none⟩ = some (.bool Y.isOpen))
          (first
            | exact ⟨(Below.refl _ _).drew.drew, g0, h0, x0, x1, x2, x3, x4, y0, y1, y2, y3, y4⟩
            | exact ⟨(Below.refl _ _).drew.drew.trans c9, cell_below c9 g0, cell_below c9 h0, cell_below c9 x0, cell_below c9 x1, cell_below c9 x2, cell_below c9 x3, cell_below c9 x4, cell_below c9 y0, cell_below c9 y1, cell_below c9 y2, cell_below c9 y3, cell_below c9 y4⟩
            | go_keep)
          (first | (go_at_call 25; refine (refAlike X Y ax cx lx dx ay cy ly dy _ ?_ ?_ bC bD bA bB).mono ?_; (exact XL.out.below hM.out.below.drew.drew); (exact YL.out.below hM.out.below.drew.drew); rintro e w9 ⟨rfl, c9⟩; rw [HAL.out]))
        have BW := Tre.hid (show Below wr.heap.size wr w9 ∧ _ from by assumption).1
        rename_i hheld
        clear hheld
        go_wp2_with fail
        go_ret
        exact ⟨ret_bool (sameB_false (hI.out.not_alike HP.out (by rw [HX.out, HY.out]; exact HAL.out))).symm, hM.out.below.trans (BW.out.mono hM.out.below.size)⟩
    · have ek : P.length ≤ k := by omega
      go_wp2_with fail
      obtain ⟨wo, rfl⟩ : ∃ wo : World, wo = wr := ⟨_, rfl⟩
      go_loopw [111] (fun v111 wi => ∃ i : Nat, i ≤ P.length ∧ v111 = .int .i64 i ∧ Hid (∀ p ∈ P.take i, ∀ q ∈ P, oneOk g p q = true) ∧
          Hid (Mem w wi [rowR 49 2 (.slice aP P.length cP) P.length (pcells P), cellsR (w.heap.size + 1) 24 #[.slice b h.ns.length cb, .int .i64 h.root], cellsR w.heap.size 24 #[.slice a g.ns.length ca, .int .i64 g.root]]))
        (fun v111 _ => P.length - (intOf v111).toNat)
      case atStart => exact ⟨0, Nat.zero_le _, rfl, fun p hp => by simp at hp, hM.out⟩
      case round =>
        obtain ⟨i, hi, rfl, hO, hM4⟩ := hrel
        by_cases hil : i < P.length
        · obtain ⟨⟨s1, s2⟩, hs⟩ : ∃ p, P[i]? = some p := ⟨_, List.getElem?_eq_getElem hil⟩
          have hpc := pcells_at hs
          obtain ⟨gQ, rfl, _, _, q0⟩ := hM4.out.getRow 0 rfl (i * 2) hpc.1
          have q1 := hM4.out.cellAt 0 rfl (i * 2 + 1) hpc.2
          have HS := Tre.hid hs
          have hxl : s1 < g.ns.length := ((hI.out.rp _ (List.mem_of_getElem? hs)).lt OG.out OH.out).1
          have j1 : (0 : Int) ≤ s1 := by omega
          have j2 : (s1 : Int) < g.ns.length := by omega
          have m1 : (0 : Int) ≤ i := by omega
          have m2 : (i : Int) < P.length := by omega
          obtain ⟨b1, o1, rfl, nx⟩ := HG.out.at_ s1 (g.nd s1) (by rw [Graph.nd_eq hxl]; exact List.getElem?_eq_getElem hxl)
          generalize hX : g.nd s1 = X at *
          have HX := Tre.hid hX
          obtain ⟨ax, cx, lx, dx, x0', x1', x2', x3', x4', _, _, _, _⟩ := nx
          have X0 := Tre.hid x0'
          have X1 := Tre.hid x1'
          have X2 := Tre.hid x2'
          have X3 := Tre.hid x3'
          have X4 := Tre.hid x4'
          have HM5 := Tre.hid (hM4.out.allocR #[.int .i64 (s1 : Int), .int .i64 (s2 : Int)] 49)
          clear hpc hs hX x0' x1' x2' x3' x4'
          go_wp2_with fail
          obtain ⟨wq, rfl⟩ : ∃ wq : World, wq = wr := ⟨_, rfl⟩
          go_loopw [117] (fun v117 wi => ∃ j : Nat, j ≤ P.length ∧ v117 = .int .i64 j ∧ Hid (∀ q ∈ P.take j, oneOk g (s1, s2) q = true) ∧
              Hid (Mem w wi [cellsR wq.heap.size 49 #[.int .i64 (s1 : Int), .int .i64 (s2 : Int)], rowR 49 2 (.slice (some ⟨gQ, 0, none⟩) P.length cP) P.length (pcells P), cellsR (w.heap.size + 1) 24 #[.slice b h.ns.length cb, .int .i64 h.root], cellsR w.heap.size 24 #[.slice (some ⟨b1, o1, none⟩) g.ns.length ca, .int .i64 g.root]]))
            (fun v117 _ => P.length - (intOf v117).toNat)
          case atStart => exact ⟨0, Nat.zero_le _, rfl, fun p hp => by simp at hp, HM5.out⟩
          case round =>
            obtain ⟨j, hj, rfl, hO2, hM6⟩ := hrel
            by_cases hjl : j < P.length
            · obtain ⟨⟨t1, t2⟩, ht⟩ : ∃ p, P[j]? = some p := ⟨_, List.getElem?_eq_getElem hjl⟩
              have hpc := pcells_at ht
              have q0 := hM6.out.cellAt 1 rfl (j * 2) hpc.1
              have q1 := hM6.out.cellAt 1 rfl (j * 2 + 1) hpc.2
              have M7 := hM6.out.allocR #[.int .i64 (t1 : Int), .int .i64 (t2 : Int)] 49
              obtain ⟨p0, p1⟩ := M7.two 1 rfl
              obtain ⟨p2, p3⟩ := M7.two 0 rfl
              obtain ⟨g0, g1⟩ := M7.two 4 rfl
              have x0 := cell_below M7.below X0.out
              have x1 := cell_below M7.below X1.out
              have x2 := cell_below M7.below X2.out
              have x3 := cell_below M7.below X3.out
              have x4 := cell_below M7.below X4.out
              have HM7 := Tre.hid M7
              have HT := Tre.hid ht
              have n1 : (0 : Int) ≤ j := by omega
              have n2 : (j : Int) < P.length := by omega
              have hts : Hid (∀ q, q ∈ P.take (j + 1) → q ∈ P.take j ∨ q = (t1, t2)) := fun q hq => by
                rw [List.take_add_one, HT.out, List.mem_append] at hq; simpa using hq
              clear hpc ht M7
              cases hf : freeB X with
              | false =>
                have HF := Tre.hid hf
                clear hf
                go_wp2_with (go_at_call 26; refine (refFree1 X _ _ _ _ _).mono ?_; rintro e w2 ⟨rfl, c2⟩; rw [HF.out]; have HM8 := Tre.hid (HM7.out.quiet c2); clear c2)
                go_roundw
                case rel =>
                  refine ⟨j + 1, by omega, by go_num, fun q hq => ?_, HM8.out.drop1⟩
                  rcases hts.out q hq with h1 | rfl
                  · exact hO2.out q h1
                  · unfold oneOk; rw [HX.out, HF.out]; rfl
                case measure => simp [intOf]; omega
              | true =>
                have HF := Tre.hid hf
                clear hf
                have hone : Hid (oneOk g (s1, s2) (t1, t2) = !(decide (s1 = t1) != decide (s2 = t2))) := by show _ = _; unfold oneOk; rw [HX.out, HF.out]; rfl
                by_cases ha1 : s1 = t1
                · have e1 : ((s1 : Int) == (t1 : Int)) = true := by rw [ha1]; simp
                  by_cases ha2 : s2 = t2
                  · have e2 : ((s2 : Int) == (t2 : Int)) = true := by rw [ha2]; simp
                    have HO : Hid (oneOk g (s1, s2) (t1, t2) = true) := by show _ = _; rw [hone.out]; simp [ha1, ha2]
                    clear ha1 ha2
                    go_wp2_with (go_at_call 26; refine (refFree1 X _ _ _ _ _).mono ?_; rintro e w2 ⟨rfl, c2⟩; rw [HF.out]; have M8 := HM7.out.quiet c2; obtain ⟨p0, p1⟩ := M8.two 1 rfl; obtain ⟨p2, p3⟩ := M8.two 0 rfl; have HM8 := Tre.hid M8; clear c2 M8)
                    go_roundw
                    case rel =>
                      refine ⟨j + 1, by omega, by go_num, fun q hq => ?_, HM8.out.drop1⟩
                      rcases hts.out q hq with h1 | rfl
                      · exact hO2.out q h1
                      · exact HO.out
                    case measure => simp [intOf]; omega
                  · have e2 : ((s2 : Int) == (t2 : Int)) = false := beq_eq_false_iff_ne.2 (by omega)
                    have HO : Hid (oneOk g (s1, s2) (t1, t2) = false) := by show _ = _; rw [hone.out]; simp [ha1, ha2]
                    clear ha1 ha2
                    go_wp2_with (go_at_call 26; refine (refFree1 X _ _ _ _ _).mono ?_; rintro e w2 ⟨rfl, c2⟩; rw [HF.out]; have M8 := HM7.out.quiet c2; obtain ⟨p0, p1⟩ := M8.two 1 rfl; obtain ⟨p2, p3⟩ := M8.two 0 rfl; have HM8 := Tre.hid M8; clear c2 M8)
                    go_ret
                    exact ⟨ret_bool (sameB_false (hI.out.not_one (List.mem_of_getElem? HS.out) (List.mem_of_getElem? HT.out) HO.out)).symm, HM8.out.below⟩
                · have e1 : ((s1 : Int) == (t1 : Int)) = false := beq_eq_false_iff_ne.2 (by omega)
                  by_cases ha2 : s2 = t2
                  · have e2 : ((s2 : Int) == (t2 : Int)) = true := by rw [ha2]; simp
                    have HO : Hid (oneOk g (s1, s2) (t1, t2) = false) := by show _ = _; rw [hone.out]; simp [ha1, ha2]
                    clear ha1 ha2
                    go_wp2_with (go_at_call 26; refine (refFree1 X _ _ _ _ _).mono ?_; rintro e w2 ⟨rfl, c2⟩; rw [HF.out]; have M8 := HM7.out.quiet c2; obtain ⟨p0, p1⟩ := M8.two 1 rfl; obtain ⟨p2, p3⟩ := M8.two 0 rfl; have HM8 := Tre.hid M8; clear c2 M8)
                    go_ret
                    exact ⟨ret_bool (sameB_false (hI.out.not_one (List.mem_of_getElem? HS.out) (List.mem_of_getElem? HT.out) HO.out)).symm, HM8.out.below⟩
                  · have e2 : ((s2 : Int) == (t2 : Int)) = false := beq_eq_false_iff_ne.2 (by omega)
                    have HO : Hid (oneOk g (s1, s2) (t1, t2) = true) := by show _ = _; rw [hone.out]; simp [ha1, ha2]
                    clear ha1 ha2
                    go_wp2_with (go_at_call 26; refine (refFree1 X _ _ _ _ _).mono ?_; rintro e w2 ⟨rfl, c2⟩; rw [HF.out]; have M8 := HM7.out.quiet c2; obtain ⟨p0, p1⟩ := M8.two 1 rfl; obtain ⟨p2, p3⟩ := M8.two 0 rfl; have HM8 := Tre.hid M8; clear c2 M8)
                    go_roundw
                    case rel =>
                      refine ⟨j + 1, by omega, by go_num, fun q hq => ?_, HM8.out.drop1⟩
                      rcases hts.out q hq with h1 | rfl
                      · exact hO2.out q h1
                      · exact HO.out
                    case measure => simp [intOf]; omega
            · have et : P.take j = P := List.take_of_length_le (by omega)
              have hO3 := hO2.out
              rw [et] at hO3
              have HO3 := Tre.hid hO3
              clear et hO3
              go_wp2_with fail
              go_roundw
              case rel =>
                refine ⟨i + 1, by omega, by go_num, fun p hp q hq => ?_, hM6.out.drop1⟩
                rw [List.take_add_one, HS.out, List.mem_append] at hp
                rcases hp with hp | hp
                · exact hO.out p hp q hq
                · simp at hp; subst hp; exact HO3.out q hq
              case measure => simp [intOf]; omega
        · have et : P.take i = P := List.take_of_length_le (by omega)
          have hO3 := hO.out
          rw [et] at hO3
          have HSM := Tre.hid (hI.out.done ek C0.out C1.out hO3)
          clear et hO3
          go_wp2_with fail
          go_ret
          exact ⟨ret_bool (sameB_iff.2 HSM.out).symm, hM4.out.below⟩
end Go.Proofs.Ytgngnkajjldnlaa.gr
