/- graph.Same. -/
import Derived.Test.YtlkfhbmjemjohaaGreatDoorB04
import Derived.BigRegion
import Derived.WalkSmall
import Derived.Deep.LoopGhost
import Derived.Deep.DeepCutAuto
import Derived.OpenShut
import Derived.Deep.RegionHeld3
import Derived.Deep.AppendLies
import Derived.Deep.DrawnRows
set_option linter.unusedVariables false
namespace Go.Proofs.YtlkfhbmjemjohaaGreatDoor.gr
open Go.RowKit Go.Maps Go.Tre lex
structure St (w : World) (S : Nat) (v : Value) (l : List (Nat × Nat)) (m : Nat × Nat → Option Unit) (f bk : Nat → Option Nat) (n1 n2 n3 : Nat) : Prop where
  own : w.ownsRow S 76 2 v l.length (pcells l)
  m1 : MapIs Tryz.prog 76 ep (fun _ => .bool true) w S n1 m
  m2 : MapIs Tryz.prog 3 en en w (S + 1) n2 f
  m3 : MapIs Tryz.prog 3 en en w (S + 1 + 1) n3 bk
theorem St.kept {w w' : World} {S : Nat} {v : Value} {l : List (Nat × Nat)} {m : Nat × Nat → Option Unit} {f bk : Nat → Option Nat} {n1 n2 n3 : Nat} (s : St w S v l m f bk n1 n2 n3) (h : w.grownBy w' none) : St w' S v l m f bk n1 n2 n3 :=
  ⟨s.own.kept h (by by_cases e : v.ownBlock = none; exact .inl e; exact .inr e), s.m1.kept h (by simp), s.m2.kept h (by simp), s.m3.kept h (by simp)⟩
set_option maxRecDepth 100000 in
set_option maxHeartbeats 16000000 in
theorem same_ok (a b : Option Addr) (ca cb : Nat) (g h : Tre.Graph) (w : World) (hg : NodesAt w a g.ns) (hh : NodesAt w b h.ns) (wg : g.weight ≤ 8388608) (wh : h.weight ≤ 8388608) (hm : MaxAt w)
    (hP : left g h (fun _ => none) ≤ 4398046511104) (c0 : g.checkC = 0) (c1 : h.checkC = 0) :
    Calls Tryz.prog 9 #[.agg #[.slice a g.ns.length ca, .int .i64 g.root], .agg #[.slice b h.ns.length cb, .int .i64 h.root]] w fun e w' => e = .returned (.bool (sameB g h)) ∧ Below w.heap.size w w' := by
  have b2 : Below w.heap.size w ((w.alloc (.cells #[.slice a g.ns.length ca, .int .i64 g.root] 24)).alloc (.cells #[.slice b h.ns.length cb, .int .i64 h.root] 24)) := ((Below.refl _ _).alloc (Nat.le_refl _) _).alloc (by simp) _
  have HM := Tre.hid hm
  have HG := Tre.hid hg
  have HH := Tre.hid hh
  have OG := Graph.ok_of c0
  have OH := Graph.ok_of c1
  have HC0 := Tre.hid c0
  have HC1 := Tre.hid c1
  have wgl : ∀ a, a < g.ns.length → (g.nd a).weight ≤ 8388608 := fun a ha => by rw [Graph.nd_eq ha]; exact Nat.le_trans (node_weight (List.getElem_mem ha)) wg
  have whl : ∀ a, a < h.ns.length → (h.nd a).weight ≤ 8388608 := fun a ha => by rw [Graph.nd_eq ha]; exact Nat.le_trans (node_weight (List.getElem_mem ha)) wh
  have r0 : Hid (g.root = ((g.root.toNat : Nat) : Int)) := by have := OG.root0; show _ = _; omega
  have r1 : Hid (h.root = ((h.root.toNat : Nat) : Int)) := by have := OH.root0; show _ = _; omega
  have hmm := @run_makeMap Tryz.prog
  have HP := Tre.hid hP
  have WG := Tre.hid wgl
  have WH := Tre.hid whl
  clear hg hh hm c0 c1 hP wgl whl
  go_enter Tryz.func9, Tryz.ntmps9
  go_wp2_with fail
  refine (check_any a ca g _ (HG.out.below b2) wg (HM.out.below b2)).mono ?_
  rintro e w1 ⟨rfl, d1⟩
  rw [HC0.out]
  have g0 : w1.cell? ⟨w.heap.size, 0, none⟩ = some (.slice a g.ns.length ca) := cell_below d1 (cell_of_heap (heap_one _ _ _) rfl)
  have g1 : w1.cell? ⟨w.heap.size, 1, none⟩ = some (.int .i64 g.root) := cell_below d1 (cell_of_heap (heap_one _ _ _) rfl)
  have h0 : w1.cell? ⟨w.heap.size + 1, 0, none⟩ = some (.slice b h.ns.length cb) := cell_below d1 (cell_of_heap (heap_two _ _ _) rfl)
  have h1 : w1.cell? ⟨w.heap.size + 1, 1, none⟩ = some (.int .i64 h.root) := cell_below d1 (cell_of_heap (heap_two _ _ _) rfl)
  have B1 := after2 d1
  have z1 : w.heap.size + 1 < w1.heap.size := by have := d1.size; simp at this; omega
  clear d1
  go_wp2_with fail
  refine (check_any b cb h _ (HH.out.below B1) wh (HM.out.below B1)).mono ?_
  rintro e w2 ⟨rfl, d2⟩
  rw [HC1.out]
  have B2 := after_two B1 d2
  have z2 : w.heap.size + 1 < w2.heap.size := Nat.lt_of_lt_of_le z1 d2.size
  have g0' := cell_below d2 g0
  have g1' := cell_below d2 g1
  have h0' := cell_below d2 h0
  have h1' := cell_below d2 h1
  clear g0 g1 h0 h1 d2 B1 z1
  have zz : w.heap.size < w2.heap.size := by omega
  have q0 := fun o1 o2 o3 => cell_below (((Below.refl w2.heap.size w2).alloc (Nat.le_refl _) o1).alloc (by simp) o2 |>.alloc (by simp; omega) o3) g1'
  have q1 := fun o1 o2 o3 => cell_below (((Below.refl w2.heap.size w2).alloc (Nat.le_refl _) o1).alloc (by simp) o2 |>.alloc (by simp; omega) o3) h1'
  go_wp2_with fail
  have Q0 := Tre.hid q0
  have Q1 := Tre.hid q1
  clear q0 q1 g1' h1'
  generalize hS : w2.heap.size = S at *
  go_loopg [8] (1 + left g h (fun _ => none)) (fun gk v wr => ∃ (l : List (Nat × Nat)) (m : Nat × Nat → Option Unit) (f bk : Nat → Option Nat) (n1 n2 n3 : Nat),
    wr.ownsRow S 76 2 v l.length (pcells l) ∧ MapIs Tryz.prog 76 ep (fun _ => .bool true) wr S n1 m ∧ MapIs Tryz.prog 3 en en wr (S + 1) n2 f ∧ MapIs Tryz.prog 3 en en wr (S + 1 + 1) n3 bk ∧ Below S w2 wr ∧
    Inv g h noEx l m f bk ∧ gk = l.length + left g h m ∧ gk ≤ 4398046511105)
  case atStart =>
    refine ⟨[(g.root.toNat, h.root.toNat)], fun _ => none, fun _ => none, fun _ => none, 0, 0, 0, ?_, ?_, ?_, ?_, ?_, Inv.start, rfl, by have := HP.out; omega⟩
    · have e1 : pcells [(g.root.toNat, h.root.toNat)] = [.int .i64 g.root, .int .i64 h.root] := by
        show [Value.int .i64 ((g.root.toNat : Nat) : Int), Value.int .i64 ((h.root.toNat : Nat) : Int)] = _
        rw [← r0.out, ← r1.out]
      have e2 : (((w2.alloc (.map #[] 0)).alloc (.map #[] 0)).alloc (.map #[] 0)).heap.size = S + 1 + 1 + 1 := by simp; omega
      have o := World.ownsRow_lit (base := S) (e := 76) (size := 2) (((w2.alloc (.map #[] 0)).alloc (.map #[] 0)).alloc (.map #[] 0)) #[.int .i64 g.root, .int .i64 h.root] 1 (by omega) (by unfold maxLen; omega) rfl
      rw [e2] at o
      rw [e1]
      exact o
    · rw [← hS]; exact ((MapIs.made w2 _ _ _ _).alloc _).alloc _ |>.alloc _
    · rw [← hS]; exact ((MapIs.made (w2.alloc _) _ _ _ _).alloc _).alloc _ |> fun x => by simpa using x
    · rw [← hS]; exact (MapIs.made ((w2.alloc _).alloc _) _ _ _ _).alloc _ |> fun x => by simpa using x
    · exact (((Below.refl S w2).alloc (by omega) _).alloc (by simp; omega) _).alloc (by simp; omega) _ |>.alloc (by simp; omega) _
  case round =>
    obtain ⟨l, m, f, bk, n1, n2, n3, hown, hm1, hm2, hm3, hb, hI, hk, hk2⟩ := hrel
    have HI := Tre.hid hI
    clear hI
    rcases List.eq_nil_or_concat l with hl | ⟨l', p, hl⟩
    · subst hl
      obtain ⟨oo, cap, rfl⟩ := own_any hown
      go_wp2_with fail
      go_ret
      exact ⟨ret_bool (sameB_true (HI.out.done HC0.out HC1.out)).symm, B2.trans (hb.mono (by omega))⟩
    · rw [List.concat_eq_append] at hl
      subst hl
      obtain ⟨x, y⟩ := p
      rw [List.length_append, List.length_singleton] at hown hk
      have HK := Tre.hid hk
      have hlen : l'.length + 1 ≤ 4398046511105 := by omega
      clear hk
      obtain ⟨gb, cap, rfl, hcap⟩ := own_pos hown
      have k0 : wr.cell? ⟨gb, l'.length * 2, none⟩ = some (.int .i64 (x : Int)) := by rw [hown.cellAt _ (by omega), pcells_snoc, List.getElem?_append_right (by rw [pcells_len]; omega), pcells_len]; simp
      have k1 : wr.cell? ⟨gb, l'.length * 2 + 1, none⟩ = some (.int .i64 (y : Int)) := by rw [hown.cellAt _ (by omega), pcells_snoc, List.getElem?_append_right (by rw [pcells_len]; omega), pcells_len]; simp
      have hlt := RP.lt OG OH (HI.out.rl (x, y) (by simp))
      have hxl : x < g.ns.length := hlt.1
      have hyl : y < h.ns.length := hlt.2
      have hgl := OG.len
      have hhl := OH.len
      clear hlt
      obtain ⟨ly, hly⟩ := kp x y (by omega) (by omega)
      have mA := hm1.alloc (.cells #[.int .i64 (x : Int), .int .i64 (y : Int)] 76)
      have hpop : wr.ownsRow S 76 2 (.slice (some ⟨gb, 0, none⟩) l'.length cap) l'.length (pcells l') := by
        rw [pcells_snoc] at hown
        exact ownsRow_pop (pcells_len l') hown
      have OWN := Tre.hid hpop
      have M1 := Tre.hid hm1
      have M2 := Tre.hid hm2
      have M3 := Tre.hid hm3
      clear hpop hown hm1 hm2 hm3
      cases hmet : m (x, y) with
      | some u =>
        cases u
        have HMET := Tre.hid hmet
        clear hmet
        go_wp2_with (refine wpList_look1_some rfl _ _ 74 rfl 4 KP injP Tryz.underlying74 (zb _) rfl mA (x, y) rfl hly () HMET.out ?_)
        have hK := HK.out
        go_roundg (l'.length + left g h m)
        case measure => omega
        case rel => exact ⟨l', m, f, bk, n1, n2, n3, OWN.out.alloc _, M1.out.alloc _, M2.out.alloc _, M3.out.alloc _, hb.alloc (by have := hb.size; omega) _, HI.out.skip (by rw [HMET.out]; simp), rfl, by omega⟩
      | none =>
        have HMET := Tre.hid hmet
        clear hmet
        go_wp2_with (first | (refine wpList_look1_none rfl _ _ 74 rfl 4 KP injP Tryz.underlying74 (zb _) rfl mA (x, y) rfl hly HMET.out ?_) | (refine wpList_store rfl _ _ _ 74 (.inl rfl) 4 KP injP Tryz.underlying74 rfl mA (x, y) rfl hly () rfl ?_; intro wA mB gA))
        have hSr : S < wr.heap.size := M1.out.lt
        have bA : Below S w2 wA := (hb.alloc (Nat.le_trans (by omega) hb.size) _).grown gA (by have := hb.size; simp; omega) (fun k e => by cases e; exact Nat.le_refl _)
        have szA : wr.heap.size < wA.heap.size := by have := gA.size; simp at this; omega
        have c0 : wA.cell? ⟨wr.heap.size, 0, none⟩ = some (.int .i64 (x : Int)) := gA.cell (cell_new1 wr _ _ 0 _ rfl) (by simp; omega)
        have c1 : wA.cell? ⟨wr.heap.size, 1, none⟩ = some (.int .i64 (y : Int)) := gA.cell (cell_new1 wr _ _ 1 _ rfl) (by simp; omega)
        have gA0 := cell_belowS bA hS g0'
        have hA0 := cell_belowS bA hS h0'
        have BA : Below w.heap.size w wA := B2.trans (bA.mono (by omega))
        obtain ⟨b1, o1, rfl, nx⟩ := HG.out.at_ x (g.nd x) (by rw [Graph.nd_eq hxl]; exact List.getElem?_eq_getElem hxl)
        obtain ⟨b2', o2, rfl, ny⟩ := HH.out.at_ y (h.nd y) (by rw [Graph.nd_eq hyl]; exact List.getElem?_eq_getElem hyl)
        have wX : (g.nd x).weight ≤ 8388608 := WG.out x hxl
        have wY : (h.nd y).weight ≤ 8388608 := WH.out y hyl
        generalize hX : g.nd x = X at *
        generalize hY : h.nd y = Y at *
        have HX := Tre.hid hX
        have HY := Tre.hid hY
        clear hX hY
        obtain ⟨ax, cx, lx, dx, x0, x1, x2, x3, x4, xA, xL, _, _⟩ := nx
        obtain ⟨ay, cy, ly', dy, y0, y1, y2, y3, y4, yA, yL, _, _⟩ := ny
        replace x0 := cell_below BA x0
        replace x1 := cell_below BA x1
        replace x2 := cell_below BA x2
        replace x3 := cell_below BA x3
        replace x4 := cell_below BA x4
        replace y0 := cell_below BA y0
        replace y1 := cell_below BA y1
        replace y2 := cell_below BA y2
        replace y3 := cell_below BA y3
        replace y4 := cell_below BA y4
        have i1 : (x : Int) < g.ns.length := by omega
        have i2 : (y : Int) < h.ns.length := by omega
        have i3 : (0 : Int) ≤ x := by omega
        have i4 : (0 : Int) ≤ y := by omega
        have j1 : b1 < wA.heap.size := World.block_lt_of_cell? wA _ x0
        have j2 : b2' < wA.heap.size := World.block_lt_of_cell? wA _ y0
        have j3 : w.heap.size < wA.heap.size := World.block_lt_of_cell? wA _ gA0
        have j4 : w.heap.size + 1 < wA.heap.size := World.block_lt_of_cell? wA _ hA0
        have j1' : b1 < wA.heap.size + 1 := by omega
        have j2' : b2' < wA.heap.size + 1 := by omega
        have j3' : w.heap.size < wA.heap.size + 1 := by omega
        have j4' : w.heap.size + 1 < wA.heap.size + 1 := by omega
        have j5' : wr.heap.size < wA.heap.size + 1 := by omega
        have XA := Tre.hid xA
        have XL := Tre.hid xL
        have YA := Tre.hid yA
        have YL := Tre.hid yL
        have HB := Tre.hid hb
        have ST : St wA S (.slice (some ⟨gb, 0, none⟩) l'.length cap) l' (upd m (x, y) ()) f bk (if (m (x, y)).isSome then n1 else n1 + 1) n2 n3 :=
          ⟨(OWN.out.alloc _).kept gA (.inr (own_map OWN.out M1.out)), mB, (M2.out.alloc _).kept gA (by simp), (M3.out.alloc _).kept gA (by simp; omega)⟩
        have HST := Tre.hid ST
        have hwA : w.heap.size ≤ wA.heap.size := BA.size
        have HBA := Tre.hid BA
        have HbA := Tre.hid bA
        have HB2 := Tre.hid B2
        have hSA : S ≤ wA.heap.size := by omega
        obtain ⟨ip, ip1, ip2, ip3, ip4⟩ := info_parts infoP
        have IP1 := Tre.hid ip1
        have IP2 := Tre.hid ip2
        have IP3 := Tre.hid ip3
        have IP4 := Tre.hid ip4
        clear ip1 ip2 ip3 ip4
        clear k0 k1 xA xL yA yL hb hmm ST BA bA b2 B2 Q0 Q1 gA g0' h0' mA mB
        simp only [Act.put]
        go_cut [10, 11] (fun s10 s11 wx => ∃ Bx By : Nat, s10 = .pointer (some ⟨Bx, 0, none⟩) ∧ s11 = .pointer (some ⟨By, 0, none⟩) ∧ wA.heap.size ≤ Bx ∧ wA.heap.size ≤ By ∧ wx.heap[Bx]? = some (nodeObj X ax cx lx dx) ∧ wx.heap[By]? = some (nodeObj Y ay cy ly' dy) ∧ Below wA.heap.size wA wx)
        case first =>
          go_region_held3 (fun w' => w'.cell? ⟨w.heap.size, 0, none⟩ = some (.slice (some ⟨b1, o1, none⟩) g.ns.length ca) ∧ w'.cell? ⟨w.heap.size + 1, 0, none⟩ = some (.slice (some ⟨b2', o2, none⟩) h.ns.length cb) ∧
              w'.cell? ⟨wr.heap.size, 0, none⟩ = some (.int .i64 (x : Int)) ∧ w'.cell? ⟨wr.heap.size, 1, none⟩ = some (.int .i64 (y : Int)) ∧
              w'.cell? ⟨b1, o1 + x * 5, none⟩ = some (.int .i64 X.kind) ∧ w'.cell? ⟨b1, o1 + x * 5 + 1, none⟩ = some (.string X.name) ∧ w'.cell? ⟨b1, o1 + x * 5 + 2, none⟩ = some (.slice ax X.args.length cx) ∧
              w'.cell? ⟨b1, o1 + x * 5 + 3, none⟩ = some (.slice lx X.labels.length dx) ∧ w'.cell? ⟨b1, o1 + x * 5 + 4, none⟩ = some (.bool X.isOpen) ∧
              w'.cell? ⟨b2', o2 + y * 5, none⟩ = some (.int .i64 Y.kind) ∧ w'.cell? ⟨b2', o2 + y * 5 + 1, none⟩ = some (.string Y.name) ∧ w'.cell? ⟨b2', o2 + y * 5 + 2, none⟩ = some (.slice ay Y.args.length cy) ∧
              w'.cell? ⟨b2', o2 + y * 5 + 3, none⟩ = some (.slice ly' Y.labels.length dy) ∧ w'.cell? ⟨b2', o2 + y * 5 + 4, none⟩ = some (.bool Y.isOpen)) (go_keep) (fail)
          all_goals (go_wp2_with fail; go_meet)
          all_goals refine ⟨_, _, rfl, rfl, by omega, by omega, ?_, ?_, Go.below_drewN (((Below.refl _ _).alloc (Nat.le_refl _) _).alloc (by simp) _) 1⟩
          all_goals first | exact heap_one _ _ _ | exact heap_two _ _ _
        case rest =>
          obtain ⟨Bx, By, rfl, rfl, hBx, hBy, hox, hoy, bC⟩ := hcut
          have c0' := cell_below bC c0
          have c1' := cell_below bC c1
          have xc0 := cell_of_heap hox (j := 0) rfl
          have xc1 := cell_of_heap hox (j := 1) rfl
          have xc2 := cell_of_heap hox (j := 2) rfl
          have xc3 := cell_of_heap hox (j := 3) rfl
          have xc4 := cell_of_heap hox (j := 4) rfl
          have yc0 := cell_of_heap hoy (j := 0) rfl
          have yc1 := cell_of_heap hoy (j := 1) rfl
          have yc2 := cell_of_heap hoy (j := 2) rfl
          have yc3 := cell_of_heap hoy (j := 3) rfl
          have yc4 := cell_of_heap hoy (j := 4) rfl
          have HbC := Tre.hid bC
          have HOX := Tre.hid hox
          have HOY := Tre.hid hoy
          clear bC hox hoy c0 c1 x0 x1 x2 x3 x4 y0 y1 y2 y3 y4 gA0 hA0 j1 j2 j3 j4 j1' j2' j3' j4' j5'
          go_wp2_with fail
          refine (alike_any X Y ax cx lx dx ay cy ly' dy wc ((XL.out.below HBA.out).below HbC.out) ((YL.out.below HBA.out).below HbC.out) (by have := labels_len X; omega) (by have := labels_len Y; omega) (by have := args_len X; omega) (by have := args_len Y; omega)).mono ?_
          rintro e w3 ⟨rfl, d3⟩
          have b3 : Below wA.heap.size wA w3 := HbC.out.trans (d3.mono HbC.out.size)
          have c0 := cell_below d3 c0'
          have c1 := cell_below d3 c1'
          have x0 := cell_below d3 xc0
          have x1 := cell_below d3 xc1
          have x2 := cell_below d3 xc2
          have x3 := cell_below d3 xc3
          have x4 := cell_below d3 xc4
          have y2 := cell_below d3 yc2
          have HOX3 := Tre.hid ((d3.block Bx (lt_heap HOX.out)).trans HOX.out)
          have HOY3 := Tre.hid ((d3.block By (lt_heap HOY.out)).trans HOY.out)
          have Hb3 := Tre.hid b3
          clear d3 HbC b3 c0' c1' xc0 xc1 xc2 xc3 xc4 yc0 yc1 yc2 yc3 yc4 HOX HOY
          cases hal : alikeB X Y with
          | false =>
            have HAL : Hid (¬ SameG g h) := not_same_alike (HI.out.rl (x, y) (by simp)) (by rw [show g.nd (x, y).1 = X from HX.out, show h.nd (x, y).2 = Y from HY.out]; exact hal)
            clear hal
            go_wp2_with fail
            go_ret
            exact ⟨ret_bool (sameB_false HAL.out).symm, HBA.out.trans (Hb3.out.mono hwA)⟩
          | true =>
            have HAL := Tre.hid hal
            have HL : Hid (X.args.length = Y.args.length) := alike_deg hal
            have HDX : Hid (g.deg x = X.args.length) := by show _ = _; unfold Graph.deg; rw [HX.out]
            have HDY : Hid (h.deg y = X.args.length) := by show _ = _; unfold Graph.deg; rw [HY.out]; exact HL.out.symm
            have hXa : X.args.length ≤ 8388608 := by have := args_len X; omega
            clear hal
            go_wp2_with fail
            refine (free_any X ax cx lx dx w3).mono ?_
            rintro e w4 ⟨rfl, d4⟩
            have b4 : Below wA.heap.size wA w4 := Hb3.out.trans (d4.mono Hb3.out.size)
            have c0' := cell_below d4 c0
            have c1' := cell_below d4 c1
            have x2' := cell_below d4 x2
            have HOX4 := Tre.hid ((d4.block Bx (lt_heap HOX3.out)).trans HOX3.out)
            have HOY4 := Tre.hid ((d4.block By (lt_heap HOY3.out)).trans HOY3.out)
            have Hb4 := Tre.hid b4
            clear d4 b4 Hb3 c0 c1 x0 x1 x2 x3 x4 y2 HOX3 HOY3
            have HalX : Hid (alikeB (g.nd (x, y).1) (h.nd (x, y).2) = true) := by show _ = _; rw [show g.nd (x, y).1 = X from HX.out, show h.nd (x, y).2 = Y from HY.out]; exact HAL.out
            have HfrX : Hid (freeB (g.nd (x, y).1) = freeB X) := by show _ = _; rw [show g.nd (x, y).1 = X from HX.out]
            have HLM : Hid (left g h (upd m (x, y) ()) + X.args.length = left g h m) := by
              have := left_mark (g := g) (h := h) (p := (x, y)) hxl hyl HMET.out
              rw [show g.deg (x, y).1 = X.args.length from HDX.out] at this
              exact this
            have HbS : Hid (Below S w2 w4) := HbA.out.trans (Hb4.out.mono hSA)
            cases hfr : freeB X with
            | false =>
              have HFR := Tre.hid hfr
              clear hfr
              go_wp2_with fail
              have P : ∃ m' f' bk' N1 N2 N3, St w4 S (.slice (some ⟨gb, 0, none⟩) l'.length cap) l' m' f' bk' N1 N2 N3 ∧ Inv g h (fun q _ => q = (x, y)) l' m' f' bk' ∧ left g h m' + X.args.length = left g h m ∧ m' (x, y) ≠ none :=
                ⟨_, _, _, _, _, _, HST.out.kept (grown_of Hb4.out), HI.out.mark HalX.out (by rw [HfrX.out]; exact HFR.out), HLM.out, by rw [upd_same]; simp⟩
              have HTX := HOX4
              have HTY := HOY4
              have HTB := HbS
              clear x2' c0' c1'
              obtain ⟨m', f', bk', N1, N2, N3, hSt, hInv, hLeft, hMX⟩ := P
              have HMX := Tre.hid hMX
              have HSt := Tre.hid hSt
              have HInv := Tre.hid hInv
              have HLeft := Tre.hid hLeft
              clear hSt hInv hLeft hMX
              go_loopw [8, 114] (fun v8 v114 wr => ∃ (j : Nat) (l2 : List (Nat × Nat)), j ≤ X.args.length ∧ v114 = .int .i64 j ∧ Hid (l2.length = l'.length + j) ∧ Hid (St wr S v8 l2 m' f' bk' N1 N2 N3) ∧ Hid (Inv g h (fun q i => q = (x, y) ∧ j ≤ i) l2 m' f' bk') ∧ Hid (wr.heap[Bx]? = some (nodeObj X ax cx lx dx)) ∧ Hid (wr.heap[By]? = some (nodeObj Y ay cy ly' dy)) ∧ Hid (Below S w2 wr)) (fun _ v114 _ => X.args.length - (intOf v114).toNat)
              case atStart => exact ⟨0, l', Nat.zero_le _, rfl, rfl, HSt.out, HInv.out.first, HTX.out, HTY.out, HTB.out⟩
              case round =>
                obtain ⟨j, l2, hj, rfl, hl2, hst, hinv, hhx, hhy, hbw⟩ := hrel
                by_cases hlt : j < X.args.length
                · have hl3 : l2.length ≤ 4398054900000 := by have := hl2.out; omega
                  have hjx : j < g.deg x := by rw [HDX.out]; exact hlt
                  have hjy : j < h.deg y := by rw [HDY.out]; exact hlt
                  obtain ⟨kx, hkx, ekx, _⟩ := OG.arg hxl hjx
                  obtain ⟨ky, hky, eky, _⟩ := OH.arg hyl hjy
                  rw [HX.out] at hkx
                  rw [HY.out] at hky
                  have Bw : Below w.heap.size w wr := HB2.out.trans (hbw.out.mono (by omega))
                  obtain ⟨bx, px, hax, hcx⟩ := (XA.out.below Bw).at_ j (.int .i64 kx) (by rw [List.getElem?_map, hkx]; rfl)
                  obtain ⟨by', py, hay, hcy⟩ := (YA.out.below Bw).at_ j (.int .i64 ky) (by rw [List.getElem?_map, hky]; rfl)
                  have hbx : bx < w.heap.size := by
                    obtain ⟨b9, o9, e9, h9⟩ := XA.out.at_ j (.int .i64 kx) (by rw [List.getElem?_map, hkx]; rfl)
                    rw [hax] at e9; cases e9; exact World.block_lt_of_cell? w _ h9
                  have hby : by' < w.heap.size := by
                    obtain ⟨b9, o9, e9, h9⟩ := YA.out.at_ j (.int .i64 ky) (by rw [List.getElem?_map, hky]; rfl)
                    rw [hay] at e9; cases e9; exact World.block_lt_of_cell? w _ h9
                  have hsz : w.heap.size ≤ wr.heap.size := Bw.size
                  have zX := cell_of_heap hhx.out (j := 2) (u := .slice ax X.args.length cx) rfl
                  have zY := cell_of_heap hhy.out (j := 2) (u := .slice ay Y.args.length cy) rfl
                  have lX := World.block_lt_of_cell? wr _ zX
                  have lY := World.block_lt_of_cell? wr _ zY
                  rw [hax] at zX
                  rw [hay] at zY
                  have i1' : (0 : Int) ≤ (j : Int) := by omega
                  have i2' : (j : Int) < X.args.length := by omega
                  have i3' : (j : Int) < Y.args.length := by have := HL.out; omega
                  have HKX := Tre.hid ekx
                  have HKY := Tre.hid eky
                  clear hkx hky ekx eky hax hay hj hjx hjy
                  have own := hst.out.own
                  have nX : u8.ownBlock ≠ some Bx := own_type own hhx.out (by decide)
                  have nY : u8.ownBlock ≠ some By := own_type own hhy.out (by decide)
                  have nx : u8.ownBlock ≠ some bx := own_ne own (by omega)
                  have ny : u8.ownBlock ≠ some by' := own_ne own (by omega)
                  have hSi : S ≤ wr.heap.size := Nat.le_of_lt hst.out.m1.lt
                  go_wp2_with fail
                  go_region_held3 (fun w' => w'.cell? ⟨Bx, 2, none⟩ = some (.slice (some ⟨bx, px, none⟩) X.args.length cx) ∧ w'.cell? ⟨By, 2, none⟩ = some (.slice (some ⟨by', py, none⟩) Y.args.length cy) ∧
                      w'.cell? ⟨bx, px + j, none⟩ = some (.int .i64 kx) ∧ w'.cell? ⟨by', py + j, none⟩ = some (.int .i64 ky))
                    (first
                      | go_keep
                      | (
                         go_split_ands
                         refine ⟨?_, ?_, ?_, ?_⟩
                         · (rw [hgrow.cell_far _ (by simp; omega) (Ne.symm nX)]; assumption)
                         · (rw [hgrow.cell_far _ (by simp; omega) (Ne.symm nY)]; assumption)
                         · (rw [hgrow.cell_far _ (by simp; omega) (Ne.symm nx)]; assumption)
                         · (rw [hgrow.cell_far _ (by simp; omega) (Ne.symm ny)]; assumption)))
                    ((refine step_append_lies _ (by rfl) _ _ _ (by rfl) S 76 ip _ 2 16 Tryz.underlying77 IP1.out IP2.out IP3.out IP4.out rfl (by omega) u8 l2.length (pcells l2) (by rfl) ((own.alloc _).drew)
                        ⟨wr.heap.size, 0, none⟩ 1 1 [.int .i64 kx, .int .i64 ky] (by rfl) (by rfl) (World.news_of_block (cs := #[.int .i64 kx, .int .i64 ky]) (t := 76) (fr := (0, 0)) (heap_alloc_new wr _)) (by simp [Value.oneCell'])
                        (by omega) (by unfold maxLen; omega) (by omega) (by simp; omega) (wr.heap.size + 1) (by simp) ?_; intro gg cap' w1 hown1 hgrow hat hlt1))
                  go_wp2_with fail
                  go_roundw
                  case measure => simp [intOf]; omega
                  case rel =>
                    refine ⟨j + 1, l2 ++ [(kx, ky)], by omega, by go_num, ?_, ?_, ?_, ?_, ?_, ?_⟩
                    · have := hl2.out; show _ = _; rw [List.length_append, List.length_singleton]; omega
                    · exact ⟨by rw [List.length_append, List.length_singleton, pcells_snoc]; exact hown1, ((hst.out.m1.alloc _).drew).kept hgrow (own_map own hst.out.m1).symm, ((hst.out.m2.alloc _).drew).kept hgrow (own_map own hst.out.m2).symm, ((hst.out.m3.alloc _).drew).kept hgrow (own_map own hst.out.m3).symm⟩
                    · have := hinv.out.more (p := (x, y)) (j := j) HMX.out (by rw [show g.deg (x, y).1 = X.args.length from HDX.out]; exact hlt) (by rw [show h.deg (x, y).2 = X.args.length from HDY.out]; exact hlt)
                      rw [show g.kid (x, y).1 j = kx from HKX.out.symm, show h.kid (x, y).2 j = ky from HKY.out.symm] at this
                      exact this
                    · exact (hgrow.block Bx (by simp; omega) (Ne.symm nX)).trans ((Below.heap_alloc wr _ Bx lX).trans hhx.out)
                    · exact (hgrow.block By (by simp; omega) (Ne.symm nY)).trans ((Below.heap_alloc wr _ By lY).trans hhy.out)
                    · exact ((hbw.out.alloc hSi _).drew).grown hgrow (by simp; omega) (fun k e => own_ge own e)
                · go_wp2_with fail
                  go_roundg (l2.length + left g h m')
                  case measure =>
                    have h1 := HK.out
                    have h2 := hl2.out
                    have h3 := HLeft.out
                    omega
                  case rel =>
                    have h1 := HK.out
                    have h2 := hl2.out
                    have h3 := HLeft.out
                    refine ⟨l2, m', f', bk', N1, N2, N3, hst.out.own, hst.out.m1, hst.out.m2, hst.out.m3, hbw.out, hinv.out.last ?_, rfl, by omega⟩
                    rw [show g.deg (x, y).1 = X.args.length from HDX.out]; omega
            | true =>
              have HFR := Tre.hid hfr
              clear hfr
              have mm2 := (HST.out.kept (grown_of Hb4.out)).m2
              have mm3 := (HST.out.kept (grown_of Hb4.out)).m3
              have kx := kn x (by omega)
              have ky := kn y (by omega)
              cases hfx : f x with
              | some fb =>
                have hne : fb ≠ y := fun e => by subst e; exact (HI.out.fo _ _ hfx).1 HMET.out
                have e1 : ((fb : Int) != (y : Int)) = true := by rw [bne_iff_ne]; omega
                have HNS : Hid (¬ SameG g h) := HI.out.not_forth (p := (x, y)) hfx hne
                have HFX := Tre.hid hfx
                clear hfx hne
                cases hby : bk y with
                | some ba =>
                  have HBY := Tre.hid hby
                  clear hby
                  go_wp2_with (first | (refine wpList_look_some rfl _ _ 54 rfl 3 KI injN Tryz.underlying54 (zi _) rfl mm2 x rfl kx fb HFX.out ?_) | (refine wpList_look_some rfl _ _ 54 rfl 3 KI injN Tryz.underlying54 (zi _) rfl mm3 y rfl ky ba HBY.out ?_))
                  go_ret
                  exact ⟨ret_bool (sameB_false HNS.out).symm, HBA.out.trans (Hb4.out.mono hwA)⟩
                | none =>
                  have HBY := Tre.hid hby
                  clear hby
                  go_wp2_with (first | (refine wpList_look_some rfl _ _ 54 rfl 3 KI injN Tryz.underlying54 (zi _) rfl mm2 x rfl kx fb HFX.out ?_) | (refine wpList_look_none rfl _ _ 54 rfl 3 KI injN Tryz.underlying54 (zi _) rfl mm3 y rfl ky HBY.out ?_))
                  go_ret
                  exact ⟨ret_bool (sameB_false HNS.out).symm, HBA.out.trans (Hb4.out.mono hwA)⟩
              | none =>
                have HFX := Tre.hid hfx
                clear hfx
                cases hby : bk y with
                | some ba =>
                  have hne : ba ≠ x := fun e => by subst e; exact (HI.out.ba _ _ hby).1 HMET.out
                  have e1 : ((ba : Int) != (x : Int)) = true := by rw [bne_iff_ne]; omega
                  have HNS : Hid (¬ SameG g h) := HI.out.not_back (p := (x, y)) hby hne
                  have HBY := Tre.hid hby
                  clear hby hne
                  go_wp2_with (first | (refine wpList_look_none rfl _ _ 54 rfl 3 KI injN Tryz.underlying54 (zi _) rfl mm2 x rfl kx HFX.out ?_) | (refine wpList_look_some rfl _ _ 54 rfl 3 KI injN Tryz.underlying54 (zi _) rfl mm3 y rfl ky ba HBY.out ?_))
                  go_ret
                  exact ⟨ret_bool (sameB_false HNS.out).symm, HBA.out.trans (Hb4.out.mono hwA)⟩
                | none =>
                  have HBY := Tre.hid hby
                  clear hby
                  go_wp2_with (first | (refine wpList_look_none rfl _ _ 54 rfl 3 KI injN Tryz.underlying54 (zi _) rfl mm2 x rfl kx HFX.out ?_) | (refine wpList_look_none rfl _ _ 54 rfl 3 KI injN Tryz.underlying54 (zi _) rfl mm3 y rfl ky HBY.out ?_))
                  have lP := World.block_lt_of_cell? w4 _ c0'
                  have hP2 : S + 1 + 1 < wr.heap.size := M3.out.lt
                  obtain ⟨u1, q1, mu1, gu1⟩ := mm2.drew.run_store KI injN Tryz.underlying54 kx y
                  obtain ⟨u2, q2, mu2, gu2⟩ := (mm3.drew.kept gu1 (by simp)).run_store KI injN Tryz.underlying54 ky x
                  have q1' : (Instr.mapUpdate 54 (.map (some (S + 1))) (.int .i64 (x : Int)) (.int .i64 (y : Int))).run Tryz.prog w4.drew = .ok () u1 := q1
                  have q2' : (Instr.mapUpdate 54 (.map (some (S + 1 + 1))) (.int .i64 (y : Int)) (.int .i64 (x : Int))).run Tryz.prog u1 = .ok () u2 := q2
                  have cu0 := gu1.cell (a := ⟨wr.heap.size, 0, none⟩) c0' (by simp; omega)
                  have cu1 := gu1.cell (a := ⟨wr.heap.size, 1, none⟩) c1' (by simp; omega)
                  have cu0' := gu2.cell cu0 (by simp; omega)
                  have cu1' := gu2.cell cu1 (by simp; omega)
                  have MM2 := Tre.hid mm2
                  have MM3 := Tre.hid mm3
                  have U2 := Tre.hid mu2
                  have U1 := Tre.hid (mu1.kept gu2 (by simp))
                  have GU1 := Tre.hid gu1
                  have GU2 := Tre.hid gu2
                  clear mm2 mm3 q1 q2 mu1 mu2 gu1 gu2
                  go_region_held3 (fun w' => w'.cell? ⟨wr.heap.size, 0, none⟩ = some (.int .i64 (x : Int)) ∧ w'.cell? ⟨wr.heap.size, 1, none⟩ = some (.int .i64 (y : Int))) (go_keep) (fail)
                  have own4 := (HST.out.kept (grown_of Hb4.out)).own
                  have m14 := (HST.out.kept (grown_of Hb4.out)).m1
                  have P : ∃ m' f' bk' N1 N2 N3, St u2 S (.slice (some ⟨gb, 0, none⟩) l'.length cap) l' m' f' bk' N1 N2 N3 ∧ Inv g h (fun q _ => q = (x, y)) l' m' f' bk' ∧ left g h m' + X.args.length = left g h m ∧ m' (x, y) ≠ none :=
                    ⟨_, _, _, _, _, _, ⟨(own4.drew.kept GU1.out (.inr (own_map own4 MM2.out))).kept GU2.out (.inr (own_map own4 MM3.out)), (m14.drew.kept GU1.out (by simp)).kept GU2.out (by simp; omega), U1.out, U2.out⟩,
                      HI.out.markFree HalX.out (by rw [HfrX.out]; exact HFR.out) (fun b e => by rw [show f (x, y).1 = none from HFX.out] at e; cases e) (fun b e => by rw [show bk (x, y).2 = none from HBY.out] at e; cases e), HLM.out, by rw [upd_same]; simp⟩
                  have lX4 := lt_heap HOX4.out
                  have lY4 := lt_heap HOY4.out
                  have lX1 : Bx < u1.heap.size := Nat.lt_of_lt_of_le lX4 GU1.out.size
                  have lY1 : By < u1.heap.size := Nat.lt_of_lt_of_le lY4 GU1.out.size
                  have HTX : Hid (u2.heap[Bx]? = some (nodeObj X ax cx lx dx)) := (GU2.out.block Bx lX1 (by simp; omega)).trans ((GU1.out.block Bx lX4 (by simp; omega)).trans HOX4.out)
                  have HTY : Hid (u2.heap[By]? = some (nodeObj Y ay cy ly' dy)) := (GU2.out.block By lY1 (by simp; omega)).trans ((GU1.out.block By lY4 (by simp; omega)).trans HOY4.out)
                  have xu := cell_of_heap HTX.out (j := 2) (u := .slice ax X.args.length cx) rfl
                  have PP := Tre.hid P
                  clear P
                  have hS4 : S ≤ w4.heap.size := by omega
                  have HTB : Hid (Below S w2 u2) := (HbS.out.drew.grown GU1.out hS4 (fun k e => by cases e; omega)).grown GU2.out (Nat.le_trans hS4 GU1.out.size) (fun k e => by cases e; omega)
                  clear x2' c0' c1' q1' q2' cu0 cu1 cu0' cu1' own4 m14 lX4 lY4 lX1 lY1 lP
                  go_wp2_with fail
                  have P := PP.out
                  clear PP xu
                  obtain ⟨m', f', bk', N1, N2, N3, hSt, hInv, hLeft, hMX⟩ := P
                  have HMX := Tre.hid hMX
                  have HSt := Tre.hid hSt
                  have HInv := Tre.hid hInv
                  have HLeft := Tre.hid hLeft
                  clear hSt hInv hLeft hMX
                  go_loopw [8, 114] (fun v8 v114 wr => ∃ (j : Nat) (l2 : List (Nat × Nat)), j ≤ X.args.length ∧ v114 = .int .i64 j ∧ Hid (l2.length = l'.length + j) ∧ Hid (St wr S v8 l2 m' f' bk' N1 N2 N3) ∧ Hid (Inv g h (fun q i => q = (x, y) ∧ j ≤ i) l2 m' f' bk') ∧ Hid (wr.heap[Bx]? = some (nodeObj X ax cx lx dx)) ∧ Hid (wr.heap[By]? = some (nodeObj Y ay cy ly' dy)) ∧ Hid (Below S w2 wr)) (fun _ v114 _ => X.args.length - (intOf v114).toNat)
                  case atStart => exact ⟨0, l', Nat.zero_le _, rfl, rfl, HSt.out, HInv.out.first, HTX.out, HTY.out, HTB.out⟩
                  case round =>
                    obtain ⟨j, l2, hj, rfl, hl2, hst, hinv, hhx, hhy, hbw⟩ := hrel
                    by_cases hlt : j < X.args.length
                    · have hl3 : l2.length ≤ 4398054900000 := by have := hl2.out; omega
                      have hjx : j < g.deg x := by rw [HDX.out]; exact hlt
                      have hjy : j < h.deg y := by rw [HDY.out]; exact hlt
                      obtain ⟨kx, hkx, ekx, _⟩ := OG.arg hxl hjx
                      obtain ⟨ky, hky, eky, _⟩ := OH.arg hyl hjy
                      rw [HX.out] at hkx
                      rw [HY.out] at hky
                      have Bw : Below w.heap.size w wr := HB2.out.trans (hbw.out.mono (by omega))
                      obtain ⟨bx, px, hax, hcx⟩ := (XA.out.below Bw).at_ j (.int .i64 kx) (by rw [List.getElem?_map, hkx]; rfl)
                      obtain ⟨by', py, hay, hcy⟩ := (YA.out.below Bw).at_ j (.int .i64 ky) (by rw [List.getElem?_map, hky]; rfl)
                      have hbx : bx < w.heap.size := by
                        obtain ⟨b9, o9, e9, h9⟩ := XA.out.at_ j (.int .i64 kx) (by rw [List.getElem?_map, hkx]; rfl)
                        rw [hax] at e9; cases e9; exact World.block_lt_of_cell? w _ h9
                      have hby : by' < w.heap.size := by
                        obtain ⟨b9, o9, e9, h9⟩ := YA.out.at_ j (.int .i64 ky) (by rw [List.getElem?_map, hky]; rfl)
                        rw [hay] at e9; cases e9; exact World.block_lt_of_cell? w _ h9
                      have hsz : w.heap.size ≤ wr.heap.size := Bw.size
                      have zX := cell_of_heap hhx.out (j := 2) (u := .slice ax X.args.length cx) rfl
                      have zY := cell_of_heap hhy.out (j := 2) (u := .slice ay Y.args.length cy) rfl
                      have lX := World.block_lt_of_cell? wr _ zX
                      have lY := World.block_lt_of_cell? wr _ zY
                      rw [hax] at zX
                      rw [hay] at zY
                      have i1' : (0 : Int) ≤ (j : Int) := by omega
                      have i2' : (j : Int) < X.args.length := by omega
                      have i3' : (j : Int) < Y.args.length := by have := HL.out; omega
                      have HKX := Tre.hid ekx
                      have HKY := Tre.hid eky
                      clear hkx hky ekx eky hax hay hj hjx hjy
                      have own := hst.out.own
                      have nX : u8.ownBlock ≠ some Bx := own_type own hhx.out (by decide)
                      have nY : u8.ownBlock ≠ some By := own_type own hhy.out (by decide)
                      have nx : u8.ownBlock ≠ some bx := own_ne own (by omega)
                      have ny : u8.ownBlock ≠ some by' := own_ne own (by omega)
                      have hSi : S ≤ wr.heap.size := Nat.le_of_lt hst.out.m1.lt
                      go_wp2_with fail
                      go_region_held3 (fun w' => w'.cell? ⟨Bx, 2, none⟩ = some (.slice (some ⟨bx, px, none⟩) X.args.length cx) ∧ w'.cell? ⟨By, 2, none⟩ = some (.slice (some ⟨by', py, none⟩) Y.args.length cy) ∧
                          w'.cell? ⟨bx, px + j, none⟩ = some (.int .i64 kx) ∧ w'.cell? ⟨by', py + j, none⟩ = some (.int .i64 ky))
                        (first
                          | go_keep
                          | (
                             go_split_ands
                             refine ⟨?_, ?_, ?_, ?_⟩
                             · (rw [hgrow.cell_far _ (by simp; omega) (Ne.symm nX)]; assumption)
                             · (rw [hgrow.cell_far _ (by simp; omega) (Ne.symm nY)]; assumption)
                             · (rw [hgrow.cell_far _ (by simp; omega) (Ne.symm nx)]; assumption)
                             · (rw [hgrow.cell_far _ (by simp; omega) (Ne.symm ny)]; assumption)))
                        ((refine step_append_lies _ (by rfl) _ _ _ (by rfl) S 76 ip _ 2 16 Tryz.underlying77 IP1.out IP2.out IP3.out IP4.out rfl (by omega) u8 l2.length (pcells l2) (by rfl) ((own.alloc _).drew)
                            ⟨wr.heap.size, 0, none⟩ 1 1 [.int .i64 kx, .int .i64 ky] (by rfl) (by rfl) (World.news_of_block (cs := #[.int .i64 kx, .int .i64 ky]) (t := 76) (fr := (0, 0)) (heap_alloc_new wr _)) (by simp [Value.oneCell'])
                            (by omega) (by unfold maxLen; omega) (by omega) (by simp; omega) (wr.heap.size + 1) (by simp) ?_; intro gg cap' w1 hown1 hgrow hat hlt1))
                      go_wp2_with fail
                      go_roundw
                      case measure => simp [intOf]; omega
                      case rel =>
                        refine ⟨j + 1, l2 ++ [(kx, ky)], by omega, by go_num, ?_, ?_, ?_, ?_, ?_, ?_⟩
                        · have := hl2.out; show _ = _; rw [List.length_append, List.length_singleton]; omega
                        · exact ⟨by rw [List.length_append, List.length_singleton, pcells_snoc]; exact hown1, ((hst.out.m1.alloc _).drew).kept hgrow (own_map own hst.out.m1).symm, ((hst.out.m2.alloc _).drew).kept hgrow (own_map own hst.out.m2).symm, ((hst.out.m3.alloc _).drew).kept hgrow (own_map own hst.out.m3).symm⟩
                        · have := hinv.out.more (p := (x, y)) (j := j) HMX.out (by rw [show g.deg (x, y).1 = X.args.length from HDX.out]; exact hlt) (by rw [show h.deg (x, y).2 = X.args.length from HDY.out]; exact hlt)
                          rw [show g.kid (x, y).1 j = kx from HKX.out.symm, show h.kid (x, y).2 j = ky from HKY.out.symm] at this
                          exact this
                        · exact (hgrow.block Bx (by simp; omega) (Ne.symm nX)).trans ((Below.heap_alloc wr _ Bx lX).trans hhx.out)
                        · exact (hgrow.block By (by simp; omega) (Ne.symm nY)).trans ((Below.heap_alloc wr _ By lY).trans hhy.out)
                        · exact ((hbw.out.alloc hSi _).drew).grown hgrow (by simp; omega) (fun k e => own_ge own e)
                    · go_wp2_with fail
                      go_roundg (l2.length + left g h m')
                      case measure =>
                        have h1 := HK.out
                        have h2 := hl2.out
                        have h3 := HLeft.out
                        omega
                      case rel =>
                        have h1 := HK.out
                        have h2 := hl2.out
                        have h3 := HLeft.out
                        refine ⟨l2, m', f', bk', N1, N2, N3, hst.out.own, hst.out.m1, hst.out.m2, hst.out.m3, hbw.out, hinv.out.last ?_, rfl, by omega⟩
                        rw [show g.deg (x, y).1 = X.args.length from HDX.out]; omega
end Go.Proofs.YtlkfhbmjemjohaaGreatDoor.gr
