/- inst: a search among labels that rise; the matcher's args. -/
import Derived.Test.YtlkfhbmjemjohaaDoorB17
import Derived.Test.YtlkfhbmjemjohaaDoorB20
import Derived.Test.YtlkfhbmjemjohaaDoorB05
import Derived.Sort.Walk0
namespace Go.Tre
open Go.RowKit
theorem less_trans {a b c : List UInt8} (h1 : Op.bytesLess a b = true) (h2 : Op.bytesLess b c = true) : Op.bytesLess a c = true := by
  rw [Go.Proofs.bytesLess_eq, decide_eq_true_iff] at *
  exact List.lt_trans h1 h2
theorem less_irrefl (a : List UInt8) : Op.bytesLess a a = false := by
  rw [Go.Proofs.bytesLess_eq, decide_eq_false_iff_not]
  exact List.lt_irrefl a
theorem rising_lt {l : List ByteArray} (h : rising l = true) : ∀ (d i : Nat), i + d + 1 < l.length → Op.bytesLess (l.getD i ByteArray.empty).toList (l.getD (i + d + 1) ByteArray.empty).toList = true := by
  have one : ∀ i, i + 1 < l.length → Op.bytesLess (l.getD i ByteArray.empty).toList (l.getD (i + 1) ByteArray.empty).toList = true := fun i hi => by
    unfold rising at h
    have := (List.all_eq_true.1 h) (i + 1) (List.mem_range.2 hi)
    unfold labelOk at this
    rw [Bool.and_eq_true, Bool.or_eq_true] at this
    rcases this.2 with h2 | h2
    · simp at h2
    · simpa using h2
  intro d
  induction d with
  | zero => intro i hi; exact one i (by omega)
  | succ d ih => intro i hi; exact less_trans (ih i (by omega)) (one (i + d + 1) (by omega))
theorem search_found {l : List ByteArray} (h : rising l = true) {i : Nat} (hi : i < l.length) : Lib.bsGo (fun t => Op.bytesLess (l.getD t ByteArray.empty).toList (l.getD i ByteArray.empty).toList) l.length 0 l.length = i := by
  have e : ∀ (f lo hi' : Nat), lo ≤ i → i ≤ hi' → hi' ≤ l.length → hi' - lo ≤ f → Lib.bsGo (fun t => Op.bytesLess (l.getD t ByteArray.empty).toList (l.getD i ByteArray.empty).toList) f lo hi' = i := by
    intro f
    induction f with
    | zero => intro lo hi' h1 h2 _ h3; simp [Lib.bsGo]; omega
    | succ f ih =>
      intro lo hi' h1 h2 h4 h3
      unfold Lib.bsGo
      by_cases hl : lo < hi'
      · rw [if_pos hl]
        by_cases hm : (lo + hi') / 2 < i
        · have : Op.bytesLess (l.getD ((lo + hi') / 2) ByteArray.empty).toList (l.getD i ByteArray.empty).toList = true := by
            have := rising_lt h (i - (lo + hi') / 2 - 1) ((lo + hi') / 2) (by omega)
            rwa [show (lo + hi') / 2 + (i - (lo + hi') / 2 - 1) + 1 = i by omega] at this
          rw [if_pos this]
          exact ih _ _ (by omega) h2 h4 (by omega)
        · have : Op.bytesLess (l.getD ((lo + hi') / 2) ByteArray.empty).toList (l.getD i ByteArray.empty).toList = false := by
            by_cases he : (lo + hi') / 2 = i
            · rw [he]; exact less_irrefl _
            · have hlt := rising_lt h ((lo + hi') / 2 - i - 1) i (by omega)
              rw [show i + ((lo + hi') / 2 - i - 1) + 1 = (lo + hi') / 2 by omega] at hlt
              cases hb : Op.bytesLess (l.getD ((lo + hi') / 2) ByteArray.empty).toList (l.getD i ByteArray.empty).toList
              · rfl
              · have := less_trans hb hlt
                rw [less_irrefl] at this; cases this
          rw [if_neg (by rw [this]; simp)]
          exact ih _ _ h1 (by omega) (by omega) (by omega)
      · rw [if_neg hl]; omega
  exact e _ _ _ (Nat.zero_le _) (by omega) (Nat.le_refl _) (by omega)
end Go.Tre
namespace Go.Proofs.YtlkfhbmjemjohaaDoor.gr
open Go.RowKit Go.Shelf Go.Maps Go.Tre lex
theorem infoPI : (Tryd.prog.info? 66).map (fun i => (i.zero, i.size, i.bytes)) = some (some (.agg #[.int .i64 0, .int .i64 0]), 2, 16) := by kernel_rfl
theorem search_any (a : Option Addr) (c : Nat) (l : List ByteArray) (i : Nat) (s : ByteArray) (w : World) (hx : StrsAt w a l) (hr : rising l = true) (hi : i < l.length) (hs : l[i]? = some s) (hb : l.length ≤ 8388608) :
    Calls Tryd.prog 47 #[.slice a l.length c, .string s] w fun e w' => e = .returned (.tuple #[.int .i64 (i : Int), .bool true]) ∧ Below w.heap.size w w' := by
  obtain ⟨b, o, rfl, _⟩ := hx.at_ i (.string s) (by rw [List.getElem?_map, hs]; rfl)
  have hsd : s = l.getD i ByteArray.empty := by rw [List.getD_eq_getElem?_getD, hs]; rfl
  refine (Tryd.slices_BinarySearch_string b o l.length c (fun t => l.getD t ByteArray.empty) s w (by omega) (fun j hj => ?_)).mono ?_
  · obtain ⟨b', o', e, hc⟩ := hx.at_ j (.string l[j]) (by rw [List.getElem?_map, List.getElem?_eq_getElem hj]; rfl)
    cases e
    rw [hc, List.getD_eq_getElem?_getD, List.getElem?_eq_getElem hj]; rfl
  · rintro e w' ⟨rfl, q, rfl⟩
    refine ⟨?_, below_drewN (Below.refl _ _) q⟩
    rw [hsd, search_found hr hi, decide_eq_true ⟨hi, rfl⟩]

set_option maxRecDepth 100000 in
set_option maxHeartbeats 8000000 in
theorem args_any (X Y : Tre.Node) (ax ay lx ly : Option Addr) (cx cy dx dy : Nat) (xs ys : List Nat) (bM : Nat) (c0 c1 c2 c3 c4 c5 v : Value) (l : List (Nat × Nat)) (rs : List Res) (w0 w : World)
    (M : Mem w0 w (cellsR bM 64 #[c0, c1, c2, c3, c4, c5, v] :: rowR 66 2 (v) (l).length (pcells (l)) :: rs)) (XA : IntsAt w0 ax X.args) (XL : StrsAt w0 lx X.labels) (hY : ∀ (W : World) (r1 r2 r3 r4 : Res), Mem w0 W (r1 :: r2 :: r3 :: r4 :: rs) → IntsAt W ay Y.args ∧ StrsAt W ly Y.labels)
    (hXE : X.args = xs.map fun k : Nat => (k : Int)) (hYE : Y.args = ys.map fun k : Nat => (k : Int)) (hal : Y.args.length = X.args.length) (hlab : Y.labels = X.labels) (hk3 : X.kind = 3 → X.labels.length = X.args.length ∧ rising X.labels = true)
    (hb1 : X.args.length ≤ 2097152) (hb2 : X.labels.length ≤ 2097152) (hb3 : l.length ≤ 4398046511104) :
    Calls Tryd.prog 40 #[.pointer (some ⟨bM, 0, none⟩), .agg #[.int .i64 X.kind, .string X.name, .slice ax X.args.length cx, .slice lx X.labels.length dx, .bool X.isOpen], .agg #[.int .i64 Y.kind, .string Y.name, .slice ay Y.args.length cy, .slice ly Y.labels.length dy, .bool Y.isOpen]] w fun e w' =>
      e = .returned (.bool true) ∧ ∃ v', Mem w0 w' (cellsR bM 64 #[c0, c1, c2, c3, c4, c5, v'] :: rowR 66 2 (v') (l ++ xs.zip ys).length (pcells (l ++ xs.zip ys)) :: rs) := by
  have M2 := ((M.allocR #[.int .i64 X.kind, .string X.name, .slice ax X.args.length cx, .slice lx X.labels.length dx, .bool X.isOpen] 39).allocR #[.int .i64 Y.kind, .string Y.name, .slice ay Y.args.length cy, .slice ly Y.labels.length dy, .bool Y.isOpen] 39)
  simp only [heapSize_alloc] at M2
  have HM2 := Tre.hid M2
  have HXA := Tre.hid XA
  have HXLS := Tre.hid XL
  have HYA := Tre.hid hY
  have HXE := Tre.hid hXE
  have HYE := Tre.hid hYE
  have HAL := Tre.hid hal
  have HLAB := Tre.hid hlab
  have HXL : Hid (xs.length = X.args.length) := by show _ = _; rw [hXE, List.length_map]
  have HYL : Hid (ys.length = Y.args.length) := by show _ = _; rw [hYE, List.length_map]
  obtain ⟨ji, K1, K2, K3, K4⟩ := info_parts infoPI
  have L1 := Tre.hid K1
  have L2 := Tre.hid K2
  have L3 := Tre.hid K3
  have L4 := Tre.hid K4
  have x2 := M2.cell 1 rfl 2 rfl
  clear M M2 XA XL hY hXE hYE hal hlab K1 K2 K3 K4
  by_cases hk : X.kind = 3
  · obtain ⟨q1, q2⟩ := hk3 hk
    have HLL := Tre.hid q1
    have HRS := Tre.hid q2
    have e3 : (X.kind == 3) = true := by simp [hk]
    clear q1 q2 hk3
    have HK3 := Tre.hid hk
    clear hk
    go_enter Tryd.func40, Tryd.ntmps40
    go_wp2_with fail
    go_loopw [15] (fun v15 wr => ∃ (i : Nat) (vW : Value) (U : List (Nat × Nat)), i ≤ X.args.length ∧ v15 = .int .i64 i ∧ Hid (U = l ++ (xs.zip ys).take i) ∧ Hid (Mem w0 wr (cellsR (w.heap.size + 1) 39 #[.int .i64 Y.kind, .string Y.name, .slice ay Y.args.length cy, .slice ly Y.labels.length dy, .bool Y.isOpen] :: cellsR w.heap.size 39 #[.int .i64 X.kind, .string X.name, .slice ax X.args.length cx, .slice lx X.labels.length dx, .bool X.isOpen] :: cellsR bM 64 #[c0, c1, c2, c3, c4, c5, vW] :: rowR 66 2 (vW) (U).length (pcells (U)) :: rs))) (fun v15 _ => X.args.length - (intOf v15).toNat)
    case atStart => exact ⟨0, v, l, Nat.zero_le _, rfl, by show _ = _; rw [List.take_zero, List.append_nil], HM2.out⟩
    case round =>
      obtain ⟨i, vW, U, hi, rfl, hU, hI⟩ := hrel
      obtain ⟨aW, cW, rfl, _⟩ := hI.out.val 3 rfl
      by_cases hlt : i < X.args.length
      · obtain ⟨x, hx⟩ : ∃ x, Hid (xs[i]? = some x) := ⟨_, List.getElem?_eq_getElem (by rw [HXL.out]; exact hlt)⟩
        obtain ⟨y, hy⟩ : ∃ y, Hid (ys[i]? = some y) := ⟨_, List.getElem?_eq_getElem (by rw [HYL.out, HAL.out]; exact hlt)⟩
        have HZS : Hid ((xs.zip ys).take (i + 1) = (xs.zip ys).take i ++ [(x, y)]) := by
          have hz : (xs.zip ys)[i]? = some (x, y) := by rw [List.getElem?_zip_eq_some]; exact ⟨hx.out, hy.out⟩
          show _ = _; rw [List.take_add_one, hz]; rfl
        have hzl : ((xs.zip ys).take i).length ≤ X.args.length := by rw [List.length_take, List.length_zip, HXL.out]; omega
        have hll : U.length ≤ l.length + X.args.length := by rw [hU.out, List.length_append]; omega
        obtain ⟨bz, oz, rfl, hzc⟩ := (HXA.out.below hI.out.below).at_ i (.int .i64 (x : Int)) (by rw [HXE.out, List.getElem?_map, List.getElem?_map, hx.out]; rfl)
        obtain ⟨by', oy, rfl, _⟩ := (HYA.out wr _ _ _ _ hI.out).1.at_ i (.int .i64 (y : Int)) (by rw [HYE.out, List.getElem?_map, List.getElem?_map, hy.out]; rfl)
        have HYC : Hid (∀ (W : World) (r1 r2 r3 r4 : Res), Mem w0 W (r1 :: r2 :: r3 :: r4 :: rs) → W.cell? ⟨by', oy + i, none⟩ = some (.int .i64 (y : Int))) := fun W _ _ _ _ h => by
          obtain ⟨b', o', e, hc⟩ := (HYA.out W _ _ _ _ h).1.at_ i (.int .i64 (y : Int)) (by rw [HYE.out, List.getElem?_map, List.getElem?_map, hy.out]; rfl)
          cases e; exact hc
        have i1 : (0 : Int) ≤ (i : Int) := by omega
        have i2 : (i : Int) < (X.args.length : Int) := by omega
        have i3 : (i : Int) < (Y.args.length : Int) := by rw [HAL.out]; omega
        have i4 : (i : Int) < (X.labels.length : Int) := by rw [HLL.out]; omega
        obtain ⟨s, hs⟩ : ∃ s, Hid (X.labels[i]? = some s) := ⟨_, List.getElem?_eq_getElem (by rw [HLL.out]; exact hlt)⟩
        obtain ⟨bl, ol, rfl, hlc⟩ := (HXLS.out.below hI.out.below).at_ i (.string s) (by rw [List.getElem?_map, hs.out]; rfl)
        have HLC : Hid (∀ W, Mem w0 W (cellsR (w.heap.size + 1) 39 #[.int .i64 Y.kind, .string Y.name, .slice (some ⟨by', oy, none⟩) Y.args.length cy, .slice ly Y.labels.length dy, .bool Y.isOpen] :: cellsR w.heap.size 39 #[.int .i64 X.kind, .string X.name, .slice (some ⟨bz, oz, none⟩) X.args.length cx, .slice (some ⟨bl, ol, none⟩) X.labels.length dx, .bool X.isOpen] :: cellsR bM 64 #[c0, c1, c2, c3, c4, c5, .slice aW U.length cW] :: rowR 66 2 (.slice aW U.length cW) (U).length (pcells (U)) :: rs) → W.cell? ⟨bl, ol + i, none⟩ = some (.string s)) := fun W h => by
          obtain ⟨b', o', e, hc⟩ := (HXLS.out.below h.below).at_ i (.string s) (by rw [List.getElem?_map, hs.out]; rfl)
          cases e; exact hc
        have HSR : Hid (∀ W, Mem w0 W (cellsR (w.heap.size + 1) 39 #[.int .i64 Y.kind, .string Y.name, .slice (some ⟨by', oy, none⟩) Y.args.length cy, .slice ly Y.labels.length dy, .bool Y.isOpen] :: cellsR w.heap.size 39 #[.int .i64 X.kind, .string X.name, .slice (some ⟨bz, oz, none⟩) X.args.length cx, .slice (some ⟨bl, ol, none⟩) X.labels.length dx, .bool X.isOpen] :: cellsR bM 64 #[c0, c1, c2, c3, c4, c5, .slice aW U.length cW] :: rowR 66 2 (.slice aW U.length cW) (U).length (pcells (U)) :: rs) → Calls Tryd.prog 47 #[.slice ly Y.labels.length dy, .string s] W fun e w' => e = .returned (.tuple #[.int .i64 (i : Int), .bool true]) ∧ Below W.heap.size W w') := fun W h =>
          search_any ly dy Y.labels i s W (HYA.out W _ _ _ _ h).2 (by rw [HLAB.out]; exact HRS.out) (by rw [HLAB.out, HLL.out]; exact hlt) (by rw [HLAB.out]; exact hs.out) (by rw [HLAB.out]; omega)
        have y3 := hI.out.cell 0 rfl 3 rfl
        have x0 := hI.out.cell 1 rfl 0 rfl
        clear hlc
        go_wp2_with fail
        refine wp_region_keep (S := (fun w' => w'.cell? ⟨w.heap.size + 1, 3, none⟩ = some (.slice ly Y.labels.length dy) ∧ w'.cell? ⟨w.heap.size, 3, none⟩ = some (.slice (some ⟨bl, ol, none⟩) X.labels.length dx) ∧ w'.cell? ⟨bl, ol + i, none⟩ = some (.string s))) [] (by kernel_rfl) ?_ (fun hH0 => ?_)
        · exact ⟨hI.out.drew.cell 0 rfl 3 rfl, hI.out.drew.cell 1 rfl 3 rfl, HLC.out _ hI.out.drew⟩
        have H0 := Tre.hid hI.out.drew
        generalize hq : wr.drew = wq0 at H0 hH0 ⊢
        clear hq hI
        refine lPure (i := 0) (some 25) (v := ?_) (by rfl) (by kernel_rfl) (by kernel_rfl) (by kernel_rfl) (by kernel_rfl) (fun _ _ _ h => h) (by rfl) ?_ (keep_of hH0) ?_
        rotate_left
        · intro w; simp only [List.getElem?_toArray, List.getElem?_cons_zero, Option.map_some, Option.some.injEq]; (first | (go_simp; done) | (go_simp; with_reducible rfl))
        try simp only [Act.put, List.setIfInBounds_toArray, List.set_cons_zero, List.set_cons_succ]
        refine lPure (i := 2) (some 27) (v := ?_) (by rfl) (by kernel_rfl) (by kernel_rfl) (by kernel_rfl) (by kernel_rfl) (fun _ _ _ h => h) (by rfl) ?_ (keep_of hH0) ?_
        rotate_left
        · intro w; simp only [List.getElem?_toArray, List.getElem?_cons_succ, List.getElem?_cons_zero, Option.map_some, Option.some.injEq]; (first | (go_simp; done) | (go_simp; with_reducible rfl))
        try simp only [Act.put, List.setIfInBounds_toArray, List.set_cons_zero, List.set_cons_succ]
        refine lPure (i := 4) (some 29) (v := ?_) (by rfl) (by kernel_rfl) (by kernel_rfl) (by kernel_rfl) (by kernel_rfl) (fun _ _ _ h => h) (by rfl) ?_ (keep_of hH0) ?_
        rotate_left
        · intro w; simp only [List.getElem?_toArray, List.getElem?_cons_succ, List.getElem?_cons_zero, Option.map_some, Option.some.injEq]; (first | (go_simp; done) | (go_simp; with_reducible rfl))
        try simp only [Act.put, List.setIfInBounds_toArray, List.set_cons_zero, List.set_cons_succ]
        refine lTake (i := 1) (some 26) (v := ?_) (by rfl) (by kernel_rfl) (by kernel_rfl) (by kernel_rfl) (by kernel_rfl) (by kernel_rfl) (fun _ _ _ h => h) (by rfl) ?_ hH0 ?_
        rotate_left
        · intro w hSw; (try dsimp only at hSw); simp only [List.getElem?_toArray, List.getElem?_cons_succ, List.getElem?_cons_zero, Option.map_some, Option.some.injEq]; (first | (go_simp; done) | (go_simp; with_reducible rfl))
        try simp only [Act.put, List.setIfInBounds_toArray, List.set_cons_zero, List.set_cons_succ]
        refine lTake (i := 3) (some 28) (v := ?_) (by rfl) (by kernel_rfl) (by kernel_rfl) (by kernel_rfl) (by kernel_rfl) (by kernel_rfl) (fun _ _ _ h => h) (by rfl) ?_ hH0 ?_
        rotate_left
        · intro w hSw; (try dsimp only at hSw); simp only [List.getElem?_toArray, List.getElem?_cons_succ, List.getElem?_cons_zero, Option.map_some, Option.some.injEq]; (first | (go_simp; done) | (go_simp; with_reducible rfl))
        try simp only [Act.put, List.setIfInBounds_toArray, List.set_cons_zero, List.set_cons_succ]
        refine lPure (i := 5) (some 30) (v := ?_) (by rfl) (by kernel_rfl) (by kernel_rfl) (by kernel_rfl) (by kernel_rfl) (fun _ _ _ h => h) (by rfl) ?_ (keep_of hH0) ?_
        rotate_left
        · intro w; simp only [List.getElem?_toArray, List.getElem?_cons_succ, List.getElem?_cons_zero, Option.map_some, Option.some.injEq]; (first | (go_simp; done) | (go_simp; with_reducible rfl))
        try simp only [Act.put, List.setIfInBounds_toArray, List.set_cons_zero, List.set_cons_succ]
        refine lTake (i := 6) (some 31) (v := ?_) (by rfl) (by kernel_rfl) (by kernel_rfl) (by kernel_rfl) (by kernel_rfl) (by kernel_rfl) (fun _ _ _ h => h) (by rfl) ?_ hH0 ?_
        rotate_left
        · intro w hSw; (try dsimp only at hSw); simp only [List.getElem?_toArray, List.getElem?_cons_succ, List.getElem?_cons_zero, Option.map_some, Option.some.injEq]; (first | (go_simp; done) | (go_simp; with_reducible rfl))
        try simp only [Act.put, List.setIfInBounds_toArray, List.set_cons_zero, List.set_cons_succ]
        refine lOne 7 (by kernel_rfl) (LStep.op (fun K hK => ?_))
        go_simp
        refine (HSR.out wq0 H0.out).mono ?_
        rintro e wq1 ⟨rfl, bq⟩
        have H1 := Tre.hid (H0.out.quiet bq)
        clear bq
        (try dsimp only)
        refine hK.out _ _ ?_ (fun hH1 => ?_)
        · exact ⟨H1.out.cell 0 rfl 3 rfl, H1.out.cell 1 rfl 3 rfl, HLC.out _ H1.out⟩
        clear hK K hH0
        try simp only [Act.put, List.setIfInBounds_toArray, List.set_cons_zero, List.set_cons_succ]
        refine lPure (i := 8) (some 24) (v := ?_) (by rfl) (by kernel_rfl) (by kernel_rfl) (by kernel_rfl) (by kernel_rfl) (fun _ _ _ h => h) (by rfl) ?_ (keep_of hH1) ?_
        rotate_left
        · intro w; simp only [List.getElem?_toArray, List.getElem?_cons_succ, List.getElem?_cons_zero, Option.map_some, Option.some.injEq]; (first | (go_simp; done) | (go_simp; with_reducible rfl))
        try simp only [Act.put, List.setIfInBounds_toArray, List.set_cons_zero, List.set_cons_succ]
        refine lPure (i := 9) (some 33) (v := ?_) (by rfl) (by kernel_rfl) (by kernel_rfl) (by kernel_rfl) (by kernel_rfl) (fun _ _ _ h => h) (by rfl) ?_ (keep_of hH1) ?_
        rotate_left
        · intro w; simp only [List.getElem?_toArray, List.getElem?_cons_succ, List.getElem?_cons_zero, Option.map_some, Option.some.injEq]; (first | (go_simp; done) | (go_simp; with_reducible rfl))
        try simp only [Act.put, List.setIfInBounds_toArray, List.set_cons_zero, List.set_cons_succ]
        refine lPure (i := 10) (some 34) (v := ?_) (by rfl) (by kernel_rfl) (by kernel_rfl) (by kernel_rfl) (by kernel_rfl) (fun _ _ _ h => h) (by rfl) ?_ (keep_of hH1) ?_
        rotate_left
        · intro w; simp only [List.getElem?_toArray, List.getElem?_cons_succ, List.getElem?_cons_zero, Option.map_some, Option.some.injEq]; (first | (go_simp; done) | (go_simp; with_reducible rfl))
        try simp only [Act.put, List.setIfInBounds_toArray, List.set_cons_zero, List.set_cons_succ]
        refine lPure (i := 11) (some 10) (v := ?_) (by rfl) (by kernel_rfl) (by kernel_rfl) (by kernel_rfl) (by kernel_rfl) (fun _ _ _ h => h) (by rfl) ?_ (keep_of hH1) ?_
        rotate_left
        · intro w; simp only [List.getElem?_toArray, List.getElem?_cons_succ, List.getElem?_cons_zero, Option.map_some, Option.some.injEq]; (first | (go_simp; done) | (go_simp; with_reducible rfl))
        try simp only [Act.put, List.setIfInBounds_toArray, List.set_cons_zero, List.set_cons_succ]
        refine lPure (i := 12) (some 11) (v := ?_) (by rfl) (by kernel_rfl) (by kernel_rfl) (by kernel_rfl) (by kernel_rfl) (fun _ _ _ h => h) (by rfl) ?_ (keep_of hH1) ?_
        rotate_left
        · intro w; simp only [List.getElem?_toArray, List.getElem?_cons_succ, List.getElem?_cons_zero, Option.map_some, Option.some.injEq]; (first | (go_simp; done) | (go_simp; with_reducible rfl))
        try simp only [Act.put, List.setIfInBounds_toArray, List.set_cons_zero, List.set_cons_succ]
        refine lDone (by kernel_rfl) ?_
        clear hH1
        have hI := H1
        clear H0
        go_wp2_with fail
        refine wp_region_keep (S := (fun w' => w'.cell? ⟨bM, 6, none⟩ = some (.slice aW U.length cW) ∧ w'.cell? ⟨w.heap.size + 1, 2, none⟩ = some (.slice (some ⟨by', oy, none⟩) Y.args.length cy) ∧ w'.cell? ⟨by', oy + i, none⟩ = some (.int .i64 (y : Int)))) [16] (by kernel_rfl) ?_ (fun hH0 => ?_)
        · exact ⟨hI.out.drew.cell 2 rfl 6 rfl, hI.out.drew.cell 0 rfl 2 rfl, HYC.out _ _ _ _ _ hI.out.drew⟩
        have G0 := Tre.hid hI.out.drew
        generalize hq : wq1.drew = wr0 at G0 hH0 ⊢
        clear hq hI
        refine lPure (i := 0) (some 38) (v := ?_) (by rfl) (by kernel_rfl) (by kernel_rfl) (by kernel_rfl) (by kernel_rfl) (fun _ _ _ h => h) (by rfl) ?_ (keep_of hH0) ?_
        rotate_left
        · intro w; simp only [List.getElem?_toArray, List.getElem?_cons_zero, Option.map_some, Option.some.injEq]; (first | (go_simp; done) | (go_simp; with_reducible rfl))
        try simp only [Act.put, List.setIfInBounds_toArray, List.set_cons_zero, List.set_cons_succ]
        refine lPure (i := 1) (some 39) (v := ?_) (by rfl) (by kernel_rfl) (by kernel_rfl) (by kernel_rfl) (by kernel_rfl) (fun _ _ _ h => h) (by rfl) ?_ (keep_of hH0) ?_
        rotate_left
        · intro w; simp only [List.getElem?_toArray, List.getElem?_cons_succ, List.getElem?_cons_zero, Option.map_some, Option.some.injEq]; (first | (go_simp; done) | (go_simp; with_reducible rfl))
        try simp only [Act.put, List.setIfInBounds_toArray, List.set_cons_zero, List.set_cons_succ]
        refine lPure (i := 2) (some 40) (v := ?_) (by rfl) (by kernel_rfl) (by kernel_rfl) (by kernel_rfl) (by kernel_rfl) (fun _ _ _ h => h) (by rfl) ?_ (keep_of hH0) ?_
        rotate_left
        · intro w; simp only [List.getElem?_toArray, List.getElem?_cons_succ, List.getElem?_cons_zero, Option.map_some, Option.some.injEq]; (first | (go_simp; done) | (go_simp; with_reducible rfl))
        try simp only [Act.put, List.setIfInBounds_toArray, List.set_cons_zero, List.set_cons_succ]
        refine lPure (i := 3) (some 41) (v := ?_) (by rfl) (by kernel_rfl) (by kernel_rfl) (by kernel_rfl) (by kernel_rfl) (fun _ _ _ h => h) (by rfl) ?_ (keep_of hH0) ?_
        rotate_left
        · intro w; simp only [List.getElem?_toArray, List.getElem?_cons_succ, List.getElem?_cons_zero, Option.map_some, Option.some.injEq]; (first | (go_simp; done) | (go_simp; with_reducible rfl))
        try simp only [Act.put, List.setIfInBounds_toArray, List.set_cons_zero, List.set_cons_succ]
        refine lPure (i := 5) (some 43) (v := ?_) (by rfl) (by kernel_rfl) (by kernel_rfl) (by kernel_rfl) (by kernel_rfl) (fun _ _ _ h => h) (by rfl) ?_ (keep_of hH0) ?_
        rotate_left
        · intro w; simp only [List.getElem?_toArray, List.getElem?_cons_succ, List.getElem?_cons_zero, Option.map_some, Option.some.injEq]; (first | (go_simp; done) | (go_simp; with_reducible rfl))
        try simp only [Act.put, List.setIfInBounds_toArray, List.set_cons_zero, List.set_cons_succ]
        refine lPure (i := 6) (some 44) (v := ?_) (by rfl) (by kernel_rfl) (by kernel_rfl) (by kernel_rfl) (by kernel_rfl) (fun _ _ _ h => h) (by rfl) ?_ (keep_of hH0) ?_
        rotate_left
        · intro w; simp only [List.getElem?_toArray, List.getElem?_cons_succ, List.getElem?_cons_zero, Option.map_some, Option.some.injEq]; (first | (go_simp; done) | (go_simp; with_reducible rfl))
        try simp only [Act.put, List.setIfInBounds_toArray, List.set_cons_zero, List.set_cons_succ]
        refine lPure (i := 8) (some 46) (v := ?_) (by rfl) (by kernel_rfl) (by kernel_rfl) (by kernel_rfl) (by kernel_rfl) (fun _ _ _ h => h) (by rfl) ?_ (keep_of hH0) ?_
        rotate_left
        · intro w; simp only [List.getElem?_toArray, List.getElem?_cons_succ, List.getElem?_cons_zero, Option.map_some, Option.some.injEq]; (first | (go_simp; done) | (go_simp; with_reducible rfl))
        try simp only [Act.put, List.setIfInBounds_toArray, List.set_cons_zero, List.set_cons_succ]
        refine lTake (i := 4) (some 42) (v := ?_) (by rfl) (by kernel_rfl) (by kernel_rfl) (by kernel_rfl) (by kernel_rfl) (by kernel_rfl) (fun _ _ _ h => h) (by rfl) ?_ hH0 ?_
        rotate_left
        · intro w hSw; (try dsimp only at hSw); simp only [List.getElem?_toArray, List.getElem?_cons_succ, List.getElem?_cons_zero, Option.map_some, Option.some.injEq]; (first | (go_simp; done) | (go_simp; with_reducible rfl))
        try simp only [Act.put, List.setIfInBounds_toArray, List.set_cons_zero, List.set_cons_succ]
        refine lTake (i := 7) (some 45) (v := ?_) (by rfl) (by kernel_rfl) (by kernel_rfl) (by kernel_rfl) (by kernel_rfl) (by kernel_rfl) (fun _ _ _ h => h) (by rfl) ?_ hH0 ?_
        rotate_left
        · intro w hSw; (try dsimp only at hSw); simp only [List.getElem?_toArray, List.getElem?_cons_succ, List.getElem?_cons_zero, Option.map_some, Option.some.injEq]; (first | (go_simp; done) | (go_simp; with_reducible rfl))
        try simp only [Act.put, List.setIfInBounds_toArray, List.set_cons_zero, List.set_cons_succ]
        refine lPure (i := 9) (some 47) (v := ?_) (by rfl) (by kernel_rfl) (by kernel_rfl) (by kernel_rfl) (by kernel_rfl) (fun _ _ _ h => h) (by rfl) ?_ (keep_of hH0) ?_
        rotate_left
        · intro w; simp only [List.getElem?_toArray, List.getElem?_cons_succ, List.getElem?_cons_zero, Option.map_some, Option.some.injEq]; (first | (go_simp; done) | (go_simp; with_reducible rfl))
        try simp only [Act.put, List.setIfInBounds_toArray, List.set_cons_zero, List.set_cons_succ]
        refine lTake (i := 10) (some 48) (v := ?_) (by rfl) (by kernel_rfl) (by kernel_rfl) (by kernel_rfl) (by kernel_rfl) (by kernel_rfl) (fun _ _ _ h => h) (by rfl) ?_ hH0 ?_
        rotate_left
        · intro w hSw; (try dsimp only at hSw); simp only [List.getElem?_toArray, List.getElem?_cons_succ, List.getElem?_cons_zero, Option.map_some, Option.some.injEq]; (first | (go_simp; done) | (go_simp; with_reducible rfl))
        try simp only [Act.put, List.setIfInBounds_toArray, List.set_cons_zero, List.set_cons_succ]
        refine lPure (i := 11) (some 49) (v := ?_) (by rfl) (by kernel_rfl) (by kernel_rfl) (by kernel_rfl) (by kernel_rfl) (fun _ _ _ h => h) (by rfl) ?_ (keep_of hH0) ?_
        rotate_left
        · intro w; simp only [List.getElem?_toArray, List.getElem?_cons_succ, List.getElem?_cons_zero, Option.map_some, Option.some.injEq]; (first | (go_simp; done) | (go_simp; with_reducible rfl))
        try simp only [Act.put, List.setIfInBounds_toArray, List.set_cons_zero, List.set_cons_succ]
        refine lOne 12 (by kernel_rfl) (LStep.op (fun K hK => ?_))
        go_simp
        have G1 := Tre.hid (G0.out.allocRow #[.int .i64 (x : Int), .int .i64 (y : Int)] 66 2 1 (by unfold maxLen; omega) rfl)
        generalize hb : wr0.heap.size = b50 at G1 ⊢
        generalize hw : wr0.alloc (.cells #[.int .i64 (x : Int), .int .i64 (y : Int)] 66) = wr1 at G1 ⊢
        clear hb hw
        refine hK.out _ _ ?_ (fun hH1 => ?_)
        · exact ⟨G1.out.cell 3 rfl 6 rfl, G1.out.cell 1 rfl 2 rfl, HYC.out _ _ _ _ _ (G1.out.del 0)⟩
        clear hK K hH0
        try simp only [Act.put, List.setIfInBounds_toArray, List.set_cons_zero, List.set_cons_succ]
        refine lOne 13 (by kernel_rfl) (LStep.op (fun K hK => ?_))
        simp only [List.getElem?_toArray, List.getElem?_cons_succ, List.getElem?_cons_zero]
        rw [if_pos (by rfl)]
        refine wp_append_row _ _ _ 62 (by rfl) 66 ji _ 2 16 Tryd.underlying62 L1.out L2.out L3.out L4.out rfl (by omega) (.slice aW U.length cW) U.length (pcells U) (by rfl) (G1.out.row 4 rfl) (some ⟨b50, 0, none⟩) 1 1 [.int .i64 (x : Int), .int .i64 (y : Int)] (by rfl) ⟨rfl, fun j u hj => ⟨_, 0, rfl, by rw [Nat.zero_add]; exact G1.out.cellAt 0 rfl j hj⟩⟩ (by simp [Value.oneCell']) (by unfold maxLen; omega) (by omega) ?_
        intro v' wr2 hown4 hgrow4 hat4
        have M4 := G1.out.grow 4 rfl hgrow4 hown4 hat4
        obtain ⟨a4, c4', rfl, _⟩ := M4.val 4 rfl
        have G2 := Tre.hid M4
        clear M4 hown4 hgrow4 hat4
        (try dsimp only)
        refine hK.out _ _ ?_ (fun hH2 => ?_)
        · exact ⟨G2.out.cell 3 rfl 6 rfl, G2.out.cell 1 rfl 2 rfl, HYC.out _ _ _ _ _ (G2.out.del 0)⟩
        clear hK K hH1
        try simp only [Act.put, List.setIfInBounds_toArray, List.set_cons_zero, List.set_cons_succ]
        refine lPure (i := 14) (some 52) (v := ?_) (by rfl) (by kernel_rfl) (by kernel_rfl) (by kernel_rfl) (by kernel_rfl) (fun _ _ _ h => h) (by rfl) ?_ (keep_of hH2) ?_
        rotate_left
        · intro w; simp only [List.getElem?_toArray, List.getElem?_cons_succ, List.getElem?_cons_zero, Option.map_some, Option.some.injEq]; (first | (go_simp; done) | (go_simp; with_reducible rfl))
        try simp only [Act.put, List.setIfInBounds_toArray, List.set_cons_zero, List.set_cons_succ]
        refine lPure (i := 15) (some 53) (v := ?_) (by rfl) (by kernel_rfl) (by kernel_rfl) (by kernel_rfl) (by kernel_rfl) (fun _ _ _ h => h) (by rfl) ?_ (keep_of hH2) ?_
        rotate_left
        · intro w; simp only [List.getElem?_toArray, List.getElem?_cons_succ, List.getElem?_cons_zero, Option.map_some, Option.some.injEq]; (first | (go_simp; done) | (go_simp; with_reducible rfl))
        try simp only [Act.put, List.setIfInBounds_toArray, List.set_cons_zero, List.set_cons_succ]
        refine lOne 16 (by kernel_rfl) (LFall.op (by kernel_rfl) (fun K hK => ?_))
        have f2 := G2.out.free 3 rfl 6
        have q2 := G2.out.cell 3 rfl 6 rfl
        have G3 := Tre.hid (G2.out.setCell 3 rfl 6 (.slice a4 (U.length + 1) c4'))
        go_simp
        refine hK.out _ _ ?_
        clear hK K hH2
        try simp only [Act.put, List.setIfInBounds_toArray, List.set_cons_zero, List.set_cons_succ]
        refine lDone (by kernel_rfl) ?_
        clear f2 q2
        go_wp2_with fail
        go_roundw
        case rel =>
          have hh := G3.out.del 0
          refine ⟨i + 1, .slice a4 (U.length + 1) c4', U ++ [(x, y)], by omega, by go_num, ?_, ?_⟩
          · show _ = _
            rw [HZS.out, hU.out, List.append_assoc]
          · show Mem _ _ _
            rw [List.length_append, List.length_singleton, pcells_snoc]
            exact hh
        case measure => simp [intOf]; omega
      · have e : i = X.args.length := by omega
        have hI' := hI.out
        have hU' := hU.out
        rw [e, List.take_of_length_le (by rw [List.length_zip, HXL.out]; omega)] at hU'
        rw [hU'] at hI'
        have HI2 := Tre.hid hI'
        clear hI hI' e hU hU'
        go_wp2_with fail
        go_ret
        exact ⟨rfl, _, (HI2.out.del 0).del 0⟩
  · have e3 : (X.kind == 3) = false := by simp [hk]
    clear hk3
    have HK3 := Tre.hid hk
    clear hk
    go_enter Tryd.func40, Tryd.ntmps40
    go_wp2_with fail
    go_loopw [15] (fun v15 wr => ∃ (i : Nat) (vW : Value) (U : List (Nat × Nat)), i ≤ X.args.length ∧ v15 = .int .i64 i ∧ Hid (U = l ++ (xs.zip ys).take i) ∧ Hid (Mem w0 wr (cellsR (w.heap.size + 1) 39 #[.int .i64 Y.kind, .string Y.name, .slice ay Y.args.length cy, .slice ly Y.labels.length dy, .bool Y.isOpen] :: cellsR w.heap.size 39 #[.int .i64 X.kind, .string X.name, .slice ax X.args.length cx, .slice lx X.labels.length dx, .bool X.isOpen] :: cellsR bM 64 #[c0, c1, c2, c3, c4, c5, vW] :: rowR 66 2 (vW) (U).length (pcells (U)) :: rs))) (fun v15 _ => X.args.length - (intOf v15).toNat)
    case atStart => exact ⟨0, v, l, Nat.zero_le _, rfl, by show _ = _; rw [List.take_zero, List.append_nil], HM2.out⟩
    case round =>
      obtain ⟨i, vW, U, hi, rfl, hU, hI⟩ := hrel
      obtain ⟨aW, cW, rfl, _⟩ := hI.out.val 3 rfl
      by_cases hlt : i < X.args.length
      · obtain ⟨x, hx⟩ : ∃ x, Hid (xs[i]? = some x) := ⟨_, List.getElem?_eq_getElem (by rw [HXL.out]; exact hlt)⟩
        obtain ⟨y, hy⟩ : ∃ y, Hid (ys[i]? = some y) := ⟨_, List.getElem?_eq_getElem (by rw [HYL.out, HAL.out]; exact hlt)⟩
        have HZS : Hid ((xs.zip ys).take (i + 1) = (xs.zip ys).take i ++ [(x, y)]) := by
          have hz : (xs.zip ys)[i]? = some (x, y) := by rw [List.getElem?_zip_eq_some]; exact ⟨hx.out, hy.out⟩
          show _ = _; rw [List.take_add_one, hz]; rfl
        have hzl : ((xs.zip ys).take i).length ≤ X.args.length := by rw [List.length_take, List.length_zip, HXL.out]; omega
        have hll : U.length ≤ l.length + X.args.length := by rw [hU.out, List.length_append]; omega
        obtain ⟨bz, oz, rfl, hzc⟩ := (HXA.out.below hI.out.below).at_ i (.int .i64 (x : Int)) (by rw [HXE.out, List.getElem?_map, List.getElem?_map, hx.out]; rfl)
        obtain ⟨by', oy, rfl, _⟩ := (HYA.out wr _ _ _ _ hI.out).1.at_ i (.int .i64 (y : Int)) (by rw [HYE.out, List.getElem?_map, List.getElem?_map, hy.out]; rfl)
        have HYC : Hid (∀ (W : World) (r1 r2 r3 r4 : Res), Mem w0 W (r1 :: r2 :: r3 :: r4 :: rs) → W.cell? ⟨by', oy + i, none⟩ = some (.int .i64 (y : Int))) := fun W _ _ _ _ h => by
          obtain ⟨b', o', e, hc⟩ := (HYA.out W _ _ _ _ h).1.at_ i (.int .i64 (y : Int)) (by rw [HYE.out, List.getElem?_map, List.getElem?_map, hy.out]; rfl)
          cases e; exact hc
        have i1 : (0 : Int) ≤ (i : Int) := by omega
        have i2 : (i : Int) < (X.args.length : Int) := by omega
        have i3 : (i : Int) < (Y.args.length : Int) := by rw [HAL.out]; omega
        have x0 := hI.out.cell 1 rfl 0 rfl
        go_wp2_with fail
        refine wp_region_keep (S := (fun w' => w'.cell? ⟨bM, 6, none⟩ = some (.slice aW U.length cW) ∧ w'.cell? ⟨w.heap.size + 1, 2, none⟩ = some (.slice (some ⟨by', oy, none⟩) Y.args.length cy) ∧ w'.cell? ⟨by', oy + i, none⟩ = some (.int .i64 (y : Int)))) [16] (by kernel_rfl) ?_ (fun hH0 => ?_)
        · exact ⟨hI.out.drew.cell 2 rfl 6 rfl, hI.out.drew.cell 0 rfl 2 rfl, HYC.out _ _ _ _ _ hI.out.drew⟩
        have G0 := Tre.hid hI.out.drew
        generalize hq : wr.drew = wr0 at G0 hH0 ⊢
        clear hq hI
        refine lPure (i := 0) (some 38) (v := ?_) (by rfl) (by kernel_rfl) (by kernel_rfl) (by kernel_rfl) (by kernel_rfl) (fun _ _ _ h => h) (by rfl) ?_ (keep_of hH0) ?_
        rotate_left
        · intro w; simp only [List.getElem?_toArray, List.getElem?_cons_zero, Option.map_some, Option.some.injEq]; (first | (go_simp; done) | (go_simp; with_reducible rfl))
        try simp only [Act.put, List.setIfInBounds_toArray, List.set_cons_zero, List.set_cons_succ]
        refine lPure (i := 1) (some 39) (v := ?_) (by rfl) (by kernel_rfl) (by kernel_rfl) (by kernel_rfl) (by kernel_rfl) (fun _ _ _ h => h) (by rfl) ?_ (keep_of hH0) ?_
        rotate_left
        · intro w; simp only [List.getElem?_toArray, List.getElem?_cons_succ, List.getElem?_cons_zero, Option.map_some, Option.some.injEq]; (first | (go_simp; done) | (go_simp; with_reducible rfl))
        try simp only [Act.put, List.setIfInBounds_toArray, List.set_cons_zero, List.set_cons_succ]
        refine lPure (i := 2) (some 40) (v := ?_) (by rfl) (by kernel_rfl) (by kernel_rfl) (by kernel_rfl) (by kernel_rfl) (fun _ _ _ h => h) (by rfl) ?_ (keep_of hH0) ?_
        rotate_left
        · intro w; simp only [List.getElem?_toArray, List.getElem?_cons_succ, List.getElem?_cons_zero, Option.map_some, Option.some.injEq]; (first | (go_simp; done) | (go_simp; with_reducible rfl))
        try simp only [Act.put, List.setIfInBounds_toArray, List.set_cons_zero, List.set_cons_succ]
        refine lPure (i := 3) (some 41) (v := ?_) (by rfl) (by kernel_rfl) (by kernel_rfl) (by kernel_rfl) (by kernel_rfl) (fun _ _ _ h => h) (by rfl) ?_ (keep_of hH0) ?_
        rotate_left
        · intro w; simp only [List.getElem?_toArray, List.getElem?_cons_succ, List.getElem?_cons_zero, Option.map_some, Option.some.injEq]; (first | (go_simp; done) | (go_simp; with_reducible rfl))
        try simp only [Act.put, List.setIfInBounds_toArray, List.set_cons_zero, List.set_cons_succ]
        refine lPure (i := 5) (some 43) (v := ?_) (by rfl) (by kernel_rfl) (by kernel_rfl) (by kernel_rfl) (by kernel_rfl) (fun _ _ _ h => h) (by rfl) ?_ (keep_of hH0) ?_
        rotate_left
        · intro w; simp only [List.getElem?_toArray, List.getElem?_cons_succ, List.getElem?_cons_zero, Option.map_some, Option.some.injEq]; (first | (go_simp; done) | (go_simp; with_reducible rfl))
        try simp only [Act.put, List.setIfInBounds_toArray, List.set_cons_zero, List.set_cons_succ]
        refine lPure (i := 6) (some 44) (v := ?_) (by rfl) (by kernel_rfl) (by kernel_rfl) (by kernel_rfl) (by kernel_rfl) (fun _ _ _ h => h) (by rfl) ?_ (keep_of hH0) ?_
        rotate_left
        · intro w; simp only [List.getElem?_toArray, List.getElem?_cons_succ, List.getElem?_cons_zero, Option.map_some, Option.some.injEq]; (first | (go_simp; done) | (go_simp; with_reducible rfl))
        try simp only [Act.put, List.setIfInBounds_toArray, List.set_cons_zero, List.set_cons_succ]
        refine lPure (i := 8) (some 46) (v := ?_) (by rfl) (by kernel_rfl) (by kernel_rfl) (by kernel_rfl) (by kernel_rfl) (fun _ _ _ h => h) (by rfl) ?_ (keep_of hH0) ?_
        rotate_left
        · intro w; simp only [List.getElem?_toArray, List.getElem?_cons_succ, List.getElem?_cons_zero, Option.map_some, Option.some.injEq]; (first | (go_simp; done) | (go_simp; with_reducible rfl))
        try simp only [Act.put, List.setIfInBounds_toArray, List.set_cons_zero, List.set_cons_succ]
        refine lTake (i := 4) (some 42) (v := ?_) (by rfl) (by kernel_rfl) (by kernel_rfl) (by kernel_rfl) (by kernel_rfl) (by kernel_rfl) (fun _ _ _ h => h) (by rfl) ?_ hH0 ?_
        rotate_left
        · intro w hSw; (try dsimp only at hSw); simp only [List.getElem?_toArray, List.getElem?_cons_succ, List.getElem?_cons_zero, Option.map_some, Option.some.injEq]; (first | (go_simp; done) | (go_simp; with_reducible rfl))
        try simp only [Act.put, List.setIfInBounds_toArray, List.set_cons_zero, List.set_cons_succ]
        refine lTake (i := 7) (some 45) (v := ?_) (by rfl) (by kernel_rfl) (by kernel_rfl) (by kernel_rfl) (by kernel_rfl) (by kernel_rfl) (fun _ _ _ h => h) (by rfl) ?_ hH0 ?_
        rotate_left
        · intro w hSw; (try dsimp only at hSw); simp only [List.getElem?_toArray, List.getElem?_cons_succ, List.getElem?_cons_zero, Option.map_some, Option.some.injEq]; (first | (go_simp; done) | (go_simp; with_reducible rfl))
        try simp only [Act.put, List.setIfInBounds_toArray, List.set_cons_zero, List.set_cons_succ]
        refine lPure (i := 9) (some 47) (v := ?_) (by rfl) (by kernel_rfl) (by kernel_rfl) (by kernel_rfl) (by kernel_rfl) (fun _ _ _ h => h) (by rfl) ?_ (keep_of hH0) ?_
        rotate_left
        · intro w; simp only [List.getElem?_toArray, List.getElem?_cons_succ, List.getElem?_cons_zero, Option.map_some, Option.some.injEq]; (first | (go_simp; done) | (go_simp; with_reducible rfl))
        try simp only [Act.put, List.setIfInBounds_toArray, List.set_cons_zero, List.set_cons_succ]
        refine lTake (i := 10) (some 48) (v := ?_) (by rfl) (by kernel_rfl) (by kernel_rfl) (by kernel_rfl) (by kernel_rfl) (by kernel_rfl) (fun _ _ _ h => h) (by rfl) ?_ hH0 ?_
        rotate_left
        · intro w hSw; (try dsimp only at hSw); simp only [List.getElem?_toArray, List.getElem?_cons_succ, List.getElem?_cons_zero, Option.map_some, Option.some.injEq]; (first | (go_simp; done) | (go_simp; with_reducible rfl))
        try simp only [Act.put, List.setIfInBounds_toArray, List.set_cons_zero, List.set_cons_succ]
        refine lPure (i := 11) (some 49) (v := ?_) (by rfl) (by kernel_rfl) (by kernel_rfl) (by kernel_rfl) (by kernel_rfl) (fun _ _ _ h => h) (by rfl) ?_ (keep_of hH0) ?_
        rotate_left
        · intro w; simp only [List.getElem?_toArray, List.getElem?_cons_succ, List.getElem?_cons_zero, Option.map_some, Option.some.injEq]; (first | (go_simp; done) | (go_simp; with_reducible rfl))
        try simp only [Act.put, List.setIfInBounds_toArray, List.set_cons_zero, List.set_cons_succ]
        refine lOne 12 (by kernel_rfl) (LStep.op (fun K hK => ?_))
        go_simp
        have G1 := Tre.hid (G0.out.allocRow #[.int .i64 (x : Int), .int .i64 (y : Int)] 66 2 1 (by unfold maxLen; omega) rfl)
        generalize hb : wr0.heap.size = b50 at G1 ⊢
        generalize hw : wr0.alloc (.cells #[.int .i64 (x : Int), .int .i64 (y : Int)] 66) = wr1 at G1 ⊢
        clear hb hw
        refine hK.out _ _ ?_ (fun hH1 => ?_)
        · exact ⟨G1.out.cell 3 rfl 6 rfl, G1.out.cell 1 rfl 2 rfl, HYC.out _ _ _ _ _ (G1.out.del 0)⟩
        clear hK K hH0
        try simp only [Act.put, List.setIfInBounds_toArray, List.set_cons_zero, List.set_cons_succ]
        refine lOne 13 (by kernel_rfl) (LStep.op (fun K hK => ?_))
        simp only [List.getElem?_toArray, List.getElem?_cons_succ, List.getElem?_cons_zero]
        rw [if_pos (by rfl)]
        refine wp_append_row _ _ _ 62 (by rfl) 66 ji _ 2 16 Tryd.underlying62 L1.out L2.out L3.out L4.out rfl (by omega) (.slice aW U.length cW) U.length (pcells U) (by rfl) (G1.out.row 4 rfl) (some ⟨b50, 0, none⟩) 1 1 [.int .i64 (x : Int), .int .i64 (y : Int)] (by rfl) ⟨rfl, fun j u hj => ⟨_, 0, rfl, by rw [Nat.zero_add]; exact G1.out.cellAt 0 rfl j hj⟩⟩ (by simp [Value.oneCell']) (by unfold maxLen; omega) (by omega) ?_
        intro v' wr2 hown4 hgrow4 hat4
        have M4 := G1.out.grow 4 rfl hgrow4 hown4 hat4
        obtain ⟨a4, c4', rfl, _⟩ := M4.val 4 rfl
        have G2 := Tre.hid M4
        clear M4 hown4 hgrow4 hat4
        (try dsimp only)
        refine hK.out _ _ ?_ (fun hH2 => ?_)
        · exact ⟨G2.out.cell 3 rfl 6 rfl, G2.out.cell 1 rfl 2 rfl, HYC.out _ _ _ _ _ (G2.out.del 0)⟩
        clear hK K hH1
        try simp only [Act.put, List.setIfInBounds_toArray, List.set_cons_zero, List.set_cons_succ]
        refine lPure (i := 14) (some 52) (v := ?_) (by rfl) (by kernel_rfl) (by kernel_rfl) (by kernel_rfl) (by kernel_rfl) (fun _ _ _ h => h) (by rfl) ?_ (keep_of hH2) ?_
        rotate_left
        · intro w; simp only [List.getElem?_toArray, List.getElem?_cons_succ, List.getElem?_cons_zero, Option.map_some, Option.some.injEq]; (first | (go_simp; done) | (go_simp; with_reducible rfl))
        try simp only [Act.put, List.setIfInBounds_toArray, List.set_cons_zero, List.set_cons_succ]
        refine lPure (i := 15) (some 53) (v := ?_) (by rfl) (by kernel_rfl) (by kernel_rfl) (by kernel_rfl) (by kernel_rfl) (fun _ _ _ h => h) (by rfl) ?_ (keep_of hH2) ?_
        rotate_left
        · intro w; simp only [List.getElem?_toArray, List.getElem?_cons_succ, List.getElem?_cons_zero, Option.map_some, Option.some.injEq]; (first | (go_simp; done) | (go_simp; with_reducible rfl))
        try simp only [Act.put, List.setIfInBounds_toArray, List.set_cons_zero, List.set_cons_succ]
        refine lOne 16 (by kernel_rfl) (LFall.op (by kernel_rfl) (fun K hK => ?_))
        have f2 := G2.out.free 3 rfl 6
        have q2 := G2.out.cell 3 rfl 6 rfl
        have G3 := Tre.hid (G2.out.setCell 3 rfl 6 (.slice a4 (U.length + 1) c4'))
        go_simp
        refine hK.out _ _ ?_
        clear hK K hH2
        try simp only [Act.put, List.setIfInBounds_toArray, List.set_cons_zero, List.set_cons_succ]
        refine lDone (by kernel_rfl) ?_
        clear f2 q2
        go_wp2_with fail
        go_roundw
        case rel =>
          have hh := G3.out.del 0
          refine ⟨i + 1, .slice a4 (U.length + 1) c4', U ++ [(x, y)], by omega, by go_num, ?_, ?_⟩
          · show _ = _
            rw [HZS.out, hU.out, List.append_assoc]
          · show Mem _ _ _
            rw [List.length_append, List.length_singleton, pcells_snoc]
            exact hh
        case measure => simp [intOf]; omega
      · have e : i = X.args.length := by omega
        have hI' := hI.out
        have hU' := hU.out
        rw [e, List.take_of_length_le (by rw [List.length_zip, HXL.out]; omega)] at hU'
        rw [hU'] at hI'
        have HI2 := Tre.hid hI'
        clear hI hI' e hU hU'
        go_wp2_with fail
        go_ret
        exact ⟨rfl, _, (HI2.out.del 0).del 0⟩
end Go.Proofs.YtlkfhbmjemjohaaDoor.gr
