/- trefoillaw01: LexJoins. -/
import Derived.Test.YtejajdebpibocaaGreatDoorB16
import Derived.Test.YtejajdebpibocaaGreatDoorB01
import Derived.Deep.RegionHeld3
set_option linter.unusedVariables false
namespace Go.Tre
def shiftT (d : Nat) (t : Tok) : Tok := { t with at_ := t.at_ + d }
def joinL (N : Nat) (X Y : List Tok) : List Tok := X.dropLast ++ Y.map (shiftT (N + 1))
theorem join_data (a b : ByteArray) : ((a ++ ⟨#[32]⟩) ++ b : ByteArray).data.toList = a.data.toList ++ 32 :: b.data.toList := by simp [ByteArray.data_append]
theorem joinL_len {X : List Tok} (h : X ≠ []) (N : Nat) (Y : List Tok) : (joinL N X Y).length + 1 = X.length + Y.length := by
  unfold joinL
  have := List.length_pos_iff.2 h
  simp only [List.length_append, List.length_dropLast, List.length_map]
  omega
theorem allS_len : ∀ (k : Nat) (l : List UInt8), l.length ≤ k → ∀ (N : Nat) (x : List Tok), allS N l = some x → x.length ≤ l.length + 1
  | k, l, hk, N, x, hx => by
    rw [allS_eq] at hx
    cases hs : skipS l with
    | none => rw [hs] at hx; cases hx
    | some r =>
      have hrl := skipS_len hs
      cases r with
      | nil => rw [hs] at hx; cases hx; simp
      | cons c r =>
        rw [hs] at hx
        simp only at hx
        cases hn : nextS (c :: r) with
        | none => rw [hn] at hx; cases hx
        | some q =>
          obtain ⟨t0, n⟩ := q
          rw [hn] at hx
          obtain ⟨xs, hxs, rfl⟩ := Option.map_eq_some_iff.1 hx
          have hnl := nextS_len hn
          have hcr : (c :: r).length = r.length + 1 := rfl
          have hdl : ((c :: r).drop n).length = (c :: r).length - n := by simp
          cases k with
          | zero => omega
          | succ k =>
            have := allS_len k ((c :: r).drop n) (by omega) N xs hxs
            rw [List.length_cons]
            omega
theorem lexS_length {l : List UInt8} {x : List Tok} (h : lexS l = some x) : x.length ≤ l.length + 1 := by
  unfold lexS at h
  split at h
  · exact allS_len _ l (Nat.le_refl _) _ x h
  · cases h
end Go.Tre
namespace Go.Proofs.YtejajdebpibocaaGreatDoor.lex
open Go.RowKit Go.Tre
theorem same_at (a b : Option Addr) (ca cb n : Nat) (P : List Tok) {x y : List Tok} (w : World) (ha : ToksAt w a x) (hb : ToksAt w b y) (hx : x = P) (hy : y = P) (hn : P.length = n) (hl : n ≤ 4194304) :
    Calls Tryz.prog 8 #[.slice a n ca, .slice b n cb] w fun e w' => e = .returned (.bool true) ∧ Below w.heap.size w w' := by
  rw [hx] at ha
  rw [hy] at hb
  subst hn
  exact same_eq a b ca cb P w ha hb hl
set_option maxRecDepth 100000 in
set_option maxHeartbeats 8000000 in
theorem lexJoins_ok (a b : ByteArray) (w : World) (ha : a.size ≤ 1000) (hb : b.size ≤ 1000) (E : LexEnv w) (X Y : List Tok) (hX : lexS a.data.toList = some X) (hY : lexS b.data.toList = some Y) :
    Calls Tryz.prog 3 #[.string a, .string b] w fun e w' => e = .returned (.bool true) ∧ Below w.heap.size w w' := by
  have HE := Tre.hid E
  have HX := Tre.hid hX
  have HY := Tre.hid hY
  have HXN := Tre.hid (lexS_ne hX)
  have HYN := Tre.hid (lexS_ne hY)
  have hXl : X.length ≤ 1001 := by have h1 := lexS_length hX; have h2 : a.data.toList.length = a.size := rfl; omega
  have hYl : Y.length ≤ 1001 := by have h1 := lexS_length hY; have h2 : b.data.toList.length = b.size := rfl; omega
  obtain ⟨ab, hab⟩ : ∃ ab : ByteArray, Hid (((a ++ ⟨#[32]⟩) ++ b : ByteArray) = ab) := ⟨_, rfl⟩
  have habs : ab.size ≤ 4194304 := by rw [← hab.out]; simp only [ByteArray.size_append]; have : (⟨#[32]⟩ : ByteArray).size = 1 := rfl; omega
  have HZ : Hid (lexS ab.data.toList = some (joinL a.size X Y)) := by
    show _ = _
    rw [← hab.out, join_data]
    exact lexS_join hX hY (by have h1 : a.data.toList.length = a.size := rfl; have h2 : b.data.toList.length = b.size := rfl; omega)
  have HZL := Tre.hid (joinL_len HXN.out a.size Y)
  have heq := eqTok
  clear E hX hY
  go_enter Tryz.func3, Tryz.ntmps3
  go_wp2_with fail
  refine (alive w HE.out).mono ?_
  rintro e w1 ⟨rfl, b1⟩
  have HB1 := Tre.hid b1
  clear b1
  go_wp2_with fail
  refine (Lex a w1 (by omega) (HE.out.below HB1.out)).mono ?_
  rw [HX.out]
  intro e w2 hp
  rcases hp with ⟨ts, vx, hd, rfl, M2⟩ | ⟨hd, _⟩
  · cases hd
    have HM2 := Tre.hid M2
    clear M2
    go_wp2_with fail
    refine (Lex b w2 (by omega) ((HE.out.below HB1.out).below HM2.out.below)).mono ?_
    rw [HY.out]
    intro e w3 hp
    rcases hp with ⟨ts, vy, hd, rfl, M3⟩ | ⟨hd, _⟩
    · cases hd
      have HM3 := Tre.hid (HM2.out.call M3)
      have hcat1 : ¬ (9223372036854775807 < a.size + 1) := by omega
      have hcat2 : ¬ (9223372036854775807 < a.size + 1 + b.size) := by omega
      clear M3 HM2
      go_wp2_with fail
      generalize hq : (a ++ ⟨#[32]⟩) ++ b = ab2 at hab ⊢
      obtain rfl : ab2 = ab := hab.out
      clear hq hab hcat1 hcat2
      refine (Lex ab2 w3 habs ((HE.out.below HB1.out).below HM3.out.below)).mono ?_
      rw [HZ.out]
      intro e w4 hp
      rcases hp with ⟨ts, vz, hd, rfl, M4⟩ | ⟨hd, _⟩
      · cases hd
        have HM4 := Tre.hid (HM3.out.call M4)
        -- FROM HERE BY gen_joins.py
        obtain ⟨n, hn⟩ : ∃ n, Hid (X.length = n + 1) := ⟨X.length - 1, by have := List.length_pos_iff.2 HXN.out; show _ = _; omega⟩
        obtain ⟨m, hm⟩ : ∃ m, Hid (Y.length = m) := ⟨_, rfl⟩
        have hm1 : 1 ≤ m := by have := List.length_pos_iff.2 HYN.out; have := hm.out; omega
        have hnl : n ≤ 1000 := by have := hn.out; omega
        have hml : m ≤ 1001 := by have := hm.out; omega
        have hz : Hid ((joinL a.size X Y).length = n + m) := by show _ = _; have h1 := HZL.out; have h2 := hn.out; have h3 := hm.out; omega
        have HM5 : Hid (Mem w1 w4 [rowR 29 4 vz (n + m) ((joinL a.size X Y).flatMap tokCells), rowR 29 4 vy m (Y.flatMap tokCells), rowR 29 4 vx (n + 1) (X.flatMap tokCells)]) := by
          have := HM4.out
          show Mem _ _ _
          rw [← hz.out, ← hm.out, ← hn.out]; exact this
        clear HM4
        obtain ⟨gx, cx, rfl, hcx⟩ := HM5.out.val 2 rfl
        obtain ⟨gy, cy, rfl, hcy⟩ := HM5.out.val 1 rfl
        obtain ⟨gz, cz, rfl, hcz⟩ := HM5.out.val 0 rfl
        obtain ⟨uz, huz⟩ : ∃ u, ((joinL a.size X Y).flatMap tokCells)[0]? = some u := ⟨_, List.getElem?_eq_getElem (by rw [tokCells_len, hz.out]; omega)⟩
        obtain ⟨g0, rfl, _, _, _⟩ := HM5.out.getRow 0 rfl 0 huz
        clear huz
        have HTZ : Hid (∀ {w' : World}, Mem w1 w' [rowR 29 4 (.slice (some ⟨g0, 0, none⟩) (n + m) cz) (n + m) ((joinL a.size X Y).flatMap tokCells), rowR 29 4 (.slice gy m cy) m (Y.flatMap tokCells), rowR 29 4 (.slice gx (n + 1) cx) (n + 1) (X.flatMap tokCells)] → ToksAt w' (some ⟨g0, 0, none⟩) (joinL a.size X Y)) := fun h => toks_of h 0 rfl hz.out.symm
        have HTY : Hid (∀ {w' : World}, Mem w1 w' [rowR 29 4 (.slice (some ⟨g0, 0, none⟩) (n + m) cz) (n + m) ((joinL a.size X Y).flatMap tokCells), rowR 29 4 (.slice gy m cy) m (Y.flatMap tokCells), rowR 29 4 (.slice gx (n + 1) cx) (n + 1) (X.flatMap tokCells)] → ToksAt w' gy Y) := fun h => toks_of h 1 rfl hm.out.symm
        have HTX : Hid (∀ {w' : World}, Mem w1 w' [rowR 29 4 (.slice (some ⟨g0, 0, none⟩) (n + m) cz) (n + m) ((joinL a.size X Y).flatMap tokCells), rowR 29 4 (.slice gy m cy) m (Y.flatMap tokCells), rowR 29 4 (.slice gx (n + 1) cx) (n + 1) (X.flatMap tokCells)] → ToksAt w' gx X) := fun h => toks_of h 2 rfl hn.out.symm
        have HDL : Hid (X.dropLast.length = n) := by show _ = _; rw [List.length_dropLast, hn.out]; rfl
        have HZT : Hid ((joinL a.size X Y).take n = X.dropLast) := by
          show _ = _
          unfold joinL
          rw [List.take_append_of_le_length (by rw [HDL.out]; exact Nat.le_refl _), List.take_of_length_le (by rw [HDL.out]; exact Nat.le_refl _)]
        have HXT : Hid (X.take n = X.dropLast) := by show _ = _; rw [List.dropLast_eq_take, hn.out]; rfl
        have p1 : IntKind.i64.wrap (((n : Int) + 1) + (m : Int)) = ((n : Int) + 1) + (m : Int) := IntWalk.i64_in _ (by omega)
        have p2 : IntKind.i64.wrap (((n : Int) + 1) + (m : Int) - 1) = (n : Int) + (m : Int) := by rw [show ((n : Int) + 1) + (m : Int) - 1 = (n : Int) + m by omega]; exact IntWalk.i64_in _ (by omega)
        have p3 : IntKind.i64.wrap ((n : Int) + 1 - 1) = (n : Int) := by rw [show (n : Int) + 1 - 1 = (n : Int) by omega]; exact IntWalk.i64_in _ (by omega)
        have p3b : IntKind.i64.wrap (n : Int) = (n : Int) := IntWalk.i64_in _ (by omega)
        have p4 : (n : Int) ≤ (cz : Int) := by omega
        have p5 : (n : Int) ≤ (cx : Int) := by omega
        have p6 : (0 : Int) ≤ (n : Int) := by omega
        go_wp2_with fail
        refine wp_region_keep (S := (fun _ => True)) [] (by kernel_rfl) ?_ (fun hH0 => ?_)
        · exact trivial
        have H0 := Tre.hid HM5.out.drew
        generalize hq : w4.drew = wq0 at H0 hH0 ⊢
        clear hq
        refine lPure (i := 0) (some 58) (v := ?_) (by rfl) (by kernel_rfl) (by kernel_rfl) (by kernel_rfl) (by kernel_rfl) (fun _ _ _ h => h) (by rfl) ?_ (keep_of hH0) ?_
        rotate_left
        · intro w; simp only [List.getElem?_toArray, List.getElem?_cons_zero, Option.map_some, Option.some.injEq]; (first | (go_simp; done) | (go_simp; with_reducible rfl))
        try simp only [Act.put, List.setIfInBounds_toArray, List.set_cons_zero, List.set_cons_succ]
        refine lPure (i := 1) (some 59) (v := ?_) (by rfl) (by kernel_rfl) (by kernel_rfl) (by kernel_rfl) (by kernel_rfl) (fun _ _ _ h => h) (by rfl) ?_ (keep_of hH0) ?_
        rotate_left
        · intro w; simp only [List.getElem?_toArray, List.getElem?_cons_succ, List.getElem?_cons_zero, Option.map_some, Option.some.injEq]; (first | (go_simp; done) | (go_simp; with_reducible rfl))
        try simp only [Act.put, List.setIfInBounds_toArray, List.set_cons_zero, List.set_cons_succ]
        refine lPure (i := 2) (some 60) (v := ?_) (by rfl) (by kernel_rfl) (by kernel_rfl) (by kernel_rfl) (by kernel_rfl) (fun _ _ _ h => h) (by rfl) ?_ (keep_of hH0) ?_
        rotate_left
        · intro w; simp only [List.getElem?_toArray, List.getElem?_cons_succ, List.getElem?_cons_zero, Option.map_some, Option.some.injEq]; (first | (go_simp; done) | (go_simp; with_reducible rfl))
        try simp only [Act.put, List.setIfInBounds_toArray, List.set_cons_zero, List.set_cons_succ]
        refine lPure (i := 3) (some 61) (v := ?_) (by rfl) (by kernel_rfl) (by kernel_rfl) (by kernel_rfl) (by kernel_rfl) (fun _ _ _ h => h) (by rfl) ?_ (keep_of hH0) ?_
        rotate_left
        · intro w; simp only [List.getElem?_toArray, List.getElem?_cons_succ, List.getElem?_cons_zero, Option.map_some, Option.some.injEq]; (first | (go_simp; done) | (go_simp; with_reducible rfl))
        try simp only [Act.put, List.setIfInBounds_toArray, List.set_cons_zero, List.set_cons_succ]
        refine lPure (i := 4) (some 62) (v := ?_) (by rfl) (by kernel_rfl) (by kernel_rfl) (by kernel_rfl) (by kernel_rfl) (fun _ _ _ h => h) (by rfl) ?_ (keep_of hH0) ?_
        rotate_left
        · intro w; simp only [List.getElem?_toArray, List.getElem?_cons_succ, List.getElem?_cons_zero, Option.map_some, Option.some.injEq]; (first | (go_simp; done) | (go_simp; with_reducible rfl))
        try simp only [Act.put, List.setIfInBounds_toArray, List.set_cons_zero, List.set_cons_succ]
        refine lPure (i := 5) (some 63) (v := ?_) (by rfl) (by kernel_rfl) (by kernel_rfl) (by kernel_rfl) (by kernel_rfl) (fun _ _ _ h => h) (by rfl) ?_ (keep_of hH0) ?_
        rotate_left
        · intro w; simp only [List.getElem?_toArray, List.getElem?_cons_succ, List.getElem?_cons_zero, Option.map_some, Option.some.injEq]; (first | (go_simp; done) | (go_simp; with_reducible rfl))
        try simp only [Act.put, List.setIfInBounds_toArray, List.set_cons_zero, List.set_cons_succ]
        refine lPure (i := 6) (some 64) (v := ?_) (by rfl) (by kernel_rfl) (by kernel_rfl) (by kernel_rfl) (by kernel_rfl) (fun _ _ _ h => h) (by rfl) ?_ (keep_of hH0) ?_
        rotate_left
        · intro w; simp only [List.getElem?_toArray, List.getElem?_cons_succ, List.getElem?_cons_zero, Option.map_some, Option.some.injEq]; (first | (go_simp; done) | (go_simp; with_reducible rfl))
        try simp only [Act.put, List.setIfInBounds_toArray, List.set_cons_zero, List.set_cons_succ]
        refine lPure (i := 7) (some 65) (v := ?_) (by rfl) (by kernel_rfl) (by kernel_rfl) (by kernel_rfl) (by kernel_rfl) (fun _ _ _ h => h) (by rfl) ?_ (keep_of hH0) ?_
        rotate_left
        · intro w; simp only [List.getElem?_toArray, List.getElem?_cons_succ, List.getElem?_cons_zero, Option.map_some, Option.some.injEq]; (first | (go_simp; done) | (go_simp; with_reducible rfl))
        try simp only [Act.put, List.setIfInBounds_toArray, List.set_cons_zero, List.set_cons_succ]
        refine lPure (i := 8) (some 66) (v := ?_) (by rfl) (by kernel_rfl) (by kernel_rfl) (by kernel_rfl) (by kernel_rfl) (fun _ _ _ h => h) (by rfl) ?_ (keep_of hH0) ?_
        rotate_left
        · intro w; simp only [List.getElem?_toArray, List.getElem?_cons_succ, List.getElem?_cons_zero, Option.map_some, Option.some.injEq]; (first | (go_simp; done) | (go_simp; with_reducible rfl))
        try simp only [Act.put, List.setIfInBounds_toArray, List.set_cons_zero, List.set_cons_succ]
        refine lPure (i := 9) (some 67) (v := ?_) (by rfl) (by kernel_rfl) (by kernel_rfl) (by kernel_rfl) (by kernel_rfl) (fun _ _ _ h => h) (by rfl) ?_ (keep_of hH0) ?_
        rotate_left
        · intro w; simp only [List.getElem?_toArray, List.getElem?_cons_succ, List.getElem?_cons_zero, Option.map_some, Option.some.injEq]; (first | (go_simp; done) | (go_simp; with_reducible rfl))
        try simp only [Act.put, List.setIfInBounds_toArray, List.set_cons_zero, List.set_cons_succ]
        refine lPure (i := 10) (some 68) (v := ?_) (by rfl) (by kernel_rfl) (by kernel_rfl) (by kernel_rfl) (by kernel_rfl) (fun _ _ _ h => h) (by rfl) ?_ (keep_of hH0) ?_
        rotate_left
        · intro w; simp only [List.getElem?_toArray, List.getElem?_cons_succ, List.getElem?_cons_zero, Option.map_some, Option.some.injEq]; (first | (go_simp; done) | (go_simp; with_reducible rfl))
        try simp only [Act.put, List.setIfInBounds_toArray, List.set_cons_zero, List.set_cons_succ]
        refine lPure (i := 11) (some 69) (v := ?_) (by rfl) (by kernel_rfl) (by kernel_rfl) (by kernel_rfl) (by kernel_rfl) (fun _ _ _ h => h) (by rfl) ?_ (keep_of hH0) ?_
        rotate_left
        · intro w; simp only [List.getElem?_toArray, List.getElem?_cons_succ, List.getElem?_cons_zero, Option.map_some, Option.some.injEq]; (first | (go_simp; done) | (go_simp; with_reducible rfl))
        try simp only [Act.put, List.setIfInBounds_toArray, List.set_cons_zero, List.set_cons_succ]
        refine lPure (i := 12) (some 70) (v := ?_) (by rfl) (by kernel_rfl) (by kernel_rfl) (by kernel_rfl) (by kernel_rfl) (fun _ _ _ h => h) (by rfl) ?_ (keep_of hH0) ?_
        rotate_left
        · intro w; simp only [List.getElem?_toArray, List.getElem?_cons_succ, List.getElem?_cons_zero, Option.map_some, Option.some.injEq]; (first | (go_simp; done) | (go_simp; with_reducible rfl))
        try simp only [Act.put, List.setIfInBounds_toArray, List.set_cons_zero, List.set_cons_succ]
        refine lPure (i := 13) (some 71) (v := ?_) (by rfl) (by kernel_rfl) (by kernel_rfl) (by kernel_rfl) (by kernel_rfl) (fun _ _ _ h => h) (by rfl) ?_ (keep_of hH0) ?_
        rotate_left
        · intro w; simp only [List.getElem?_toArray, List.getElem?_cons_succ, List.getElem?_cons_zero, Option.map_some, Option.some.injEq]; (first | (go_simp; done) | (go_simp; with_reducible rfl))
        try simp only [Act.put, List.setIfInBounds_toArray, List.set_cons_zero, List.set_cons_succ]
        refine lPure (i := 14) (some 72) (v := ?_) (by rfl) (by kernel_rfl) (by kernel_rfl) (by kernel_rfl) (by kernel_rfl) (fun _ _ _ h => h) (by rfl) ?_ (keep_of hH0) ?_
        rotate_left
        · intro w; simp only [List.getElem?_toArray, List.getElem?_cons_succ, List.getElem?_cons_zero, Option.map_some, Option.some.injEq]; (first | (go_simp; done) | (go_simp; with_reducible rfl))
        try simp only [Act.put, List.setIfInBounds_toArray, List.set_cons_zero, List.set_cons_succ]
        refine lPure (i := 15) (some 73) (v := ?_) (by rfl) (by kernel_rfl) (by kernel_rfl) (by kernel_rfl) (by kernel_rfl) (fun _ _ _ h => h) (by rfl) ?_ (keep_of hH0) ?_
        rotate_left
        · intro w; simp only [List.getElem?_toArray, List.getElem?_cons_succ, List.getElem?_cons_zero, Option.map_some, Option.some.injEq]; (first | (go_simp; done) | (go_simp; with_reducible rfl))
        try simp only [Act.put, List.setIfInBounds_toArray, List.set_cons_zero, List.set_cons_succ]
        refine lPure (i := 16) (some 74) (v := ?_) (by rfl) (by kernel_rfl) (by kernel_rfl) (by kernel_rfl) (by kernel_rfl) (fun _ _ _ h => h) (by rfl) ?_ (keep_of hH0) ?_
        rotate_left
        · intro w; simp only [List.getElem?_toArray, List.getElem?_cons_succ, List.getElem?_cons_zero, Option.map_some, Option.some.injEq]; (first | (go_simp; done) | (go_simp; with_reducible rfl))
        try simp only [Act.put, List.setIfInBounds_toArray, List.set_cons_zero, List.set_cons_succ]
        refine lPure (i := 17) (some 75) (v := ?_) (by rfl) (by kernel_rfl) (by kernel_rfl) (by kernel_rfl) (by kernel_rfl) (fun _ _ _ h => h) (by rfl) ?_ (keep_of hH0) ?_
        rotate_left
        · intro w; simp only [List.getElem?_toArray, List.getElem?_cons_succ, List.getElem?_cons_zero, Option.map_some, Option.some.injEq]; (first | (go_simp; done) | (go_simp; with_reducible rfl))
        try simp only [Act.put, List.setIfInBounds_toArray, List.set_cons_zero, List.set_cons_succ]
        refine lPure (i := 18) (some 76) (v := ?_) (by rfl) (by kernel_rfl) (by kernel_rfl) (by kernel_rfl) (by kernel_rfl) (fun _ _ _ h => h) (by rfl) ?_ (keep_of hH0) ?_
        rotate_left
        · intro w; simp only [List.getElem?_toArray, List.getElem?_cons_succ, List.getElem?_cons_zero, Option.map_some, Option.some.injEq]; (first | (go_simp; done) | (go_simp; with_reducible rfl))
        try simp only [Act.put, List.setIfInBounds_toArray, List.set_cons_zero, List.set_cons_succ]
        refine lPure (i := 19) (some 77) (v := ?_) (by rfl) (by kernel_rfl) (by kernel_rfl) (by kernel_rfl) (by kernel_rfl) (fun _ _ _ h => h) (by rfl) ?_ (keep_of hH0) ?_
        rotate_left
        · intro w; simp only [List.getElem?_toArray, List.getElem?_cons_succ, List.getElem?_cons_zero, Option.map_some, Option.some.injEq]; (first | (go_simp; done) | (go_simp; with_reducible rfl))
        try simp only [Act.put, List.setIfInBounds_toArray, List.set_cons_zero, List.set_cons_succ]
        refine lPure (i := 20) (some 78) (v := ?_) (by rfl) (by kernel_rfl) (by kernel_rfl) (by kernel_rfl) (by kernel_rfl) (fun _ _ _ h => h) (by rfl) ?_ (keep_of hH0) ?_
        rotate_left
        · intro w; simp only [List.getElem?_toArray, List.getElem?_cons_succ, List.getElem?_cons_zero, Option.map_some, Option.some.injEq]; (first | (go_simp; done) | (go_simp; with_reducible rfl))
        try simp only [Act.put, List.setIfInBounds_toArray, List.set_cons_zero, List.set_cons_succ]
        refine lPure (i := 21) (some 79) (v := ?_) (by rfl) (by kernel_rfl) (by kernel_rfl) (by kernel_rfl) (by kernel_rfl) (fun _ _ _ h => h) (by rfl) ?_ (keep_of hH0) ?_
        rotate_left
        · intro w; simp only [List.getElem?_toArray, List.getElem?_cons_succ, List.getElem?_cons_zero, Option.map_some, Option.some.injEq]; (first | (go_simp; done) | (go_simp; with_reducible rfl))
        try simp only [Act.put, List.setIfInBounds_toArray, List.set_cons_zero, List.set_cons_succ]
        refine lPure (i := 22) (some 80) (v := ?_) (by rfl) (by kernel_rfl) (by kernel_rfl) (by kernel_rfl) (by kernel_rfl) (fun _ _ _ h => h) (by rfl) ?_ (keep_of hH0) ?_
        rotate_left
        · intro w; simp only [List.getElem?_toArray, List.getElem?_cons_succ, List.getElem?_cons_zero, Option.map_some, Option.some.injEq]; (first | (go_simp; done) | (go_simp; with_reducible rfl))
        try simp only [Act.put, List.setIfInBounds_toArray, List.set_cons_zero, List.set_cons_succ]
        refine lPure (i := 23) (some 81) (v := ?_) (by rfl) (by kernel_rfl) (by kernel_rfl) (by kernel_rfl) (by kernel_rfl) (fun _ _ _ h => h) (by rfl) ?_ (keep_of hH0) ?_
        rotate_left
        · intro w; simp only [List.getElem?_toArray, List.getElem?_cons_succ, List.getElem?_cons_zero, Option.map_some, Option.some.injEq]; (first | (go_simp; done) | (go_simp; with_reducible rfl))
        try simp only [Act.put, List.setIfInBounds_toArray, List.set_cons_zero, List.set_cons_succ]
        refine lOne 24 (by kernel_rfl) (LStep.op (fun K hK => ?_))
        go_simp
        refine (same_at (some ⟨g0, 0, none⟩) gx cz cx n X.dropLast wq0 ((HTZ.out H0.out).take n) ((HTX.out H0.out).take n) HZT.out HXT.out HDL.out (by omega)).mono ?_
        rintro e wq1 ⟨rfl, mq⟩
        have H1 := Tre.hid (H0.out.quiet mq)
        clear mq
        (try dsimp only)
        refine hK.out _ _ ?_ (fun hH1 => ?_)
        · exact trivial
        clear hK K hH0
        try simp only [Act.put, List.setIfInBounds_toArray, List.set_cons_zero, List.set_cons_succ]
        refine lPure (i := 25) (some 83) (v := ?_) (by rfl) (by kernel_rfl) (by kernel_rfl) (by kernel_rfl) (by kernel_rfl) (fun _ _ _ h => h) (by rfl) ?_ (keep_of hH1) ?_
        rotate_left
        · intro w; simp only [List.getElem?_toArray, List.getElem?_cons_succ, List.getElem?_cons_zero, Option.map_some, Option.some.injEq]; (first | (go_simp; done) | (go_simp; with_reducible rfl))
        try simp only [Act.put, List.setIfInBounds_toArray, List.set_cons_zero, List.set_cons_succ]
        refine lPure (i := 26) (some 84) (v := ?_) (by rfl) (by kernel_rfl) (by kernel_rfl) (by kernel_rfl) (by kernel_rfl) (fun _ _ _ h => h) (by rfl) ?_ (keep_of hH1) ?_
        rotate_left
        · intro w; simp only [List.getElem?_toArray, List.getElem?_cons_succ, List.getElem?_cons_zero, Option.map_some, Option.some.injEq]; (first | (go_simp; done) | (go_simp; with_reducible rfl))
        try simp only [Act.put, List.setIfInBounds_toArray, List.set_cons_zero, List.set_cons_succ]
        refine lDone (by kernel_rfl) ?_
        clear hH1
        go_wp2_with fail
        clear p1 p2 p3 p3b p4 p5 p6
        go_loopw [91] (fun v wr => ∃ i : Nat, i ≤ m ∧ v = .int .i64 i ∧ Hid (Mem w1 wr [rowR 29 4 (.slice (some ⟨g0, 0, none⟩) (n + m) cz) (n + m) ((joinL a.size X Y).flatMap tokCells), rowR 29 4 (.slice gy m cy) m (Y.flatMap tokCells), rowR 29 4 (.slice gx (n + 1) cx) (n + 1) (X.flatMap tokCells)])) (fun v _ => m - (intOf v).toNat)
        case atStart => exact ⟨0, Nat.zero_le _, rfl, H1.out⟩
        case round =>
          obtain ⟨i, hi, rfl, HM⟩ := hrel
          by_cases hlt : i < m
          · obtain ⟨y, hy⟩ : ∃ y, Y[i]? = some y := ⟨_, List.getElem?_eq_getElem (by rw [hm.out]; exact hlt)⟩
            have hzy : (joinL a.size X Y)[n + i]? = some (shiftT (a.size + 1) y) := by
              unfold joinL
              rw [List.getElem?_append_right (by rw [HDL.out]; omega), HDL.out, Nat.add_sub_cancel_left, List.getElem?_map, hy]; rfl
            have hyat : y.at_ ≤ 1000 := by have h1 := (lexS_cut HY.out hy).1; have h2 : b.data.toList.length = b.size := rfl; omega
            obtain ⟨b1, o1, e1, z0, z1, z2, z3⟩ := (HTZ.out HM.out).tok hzy
            cases e1
            rw [show 0 + (n + i) * 4 = n * 4 + i * 4 by omega] at z0 z1 z2 z3
            rw [show ((shiftT (a.size + 1) y).at_ : Int) = (y.at_ : Int) + ((a.size : Int) + 1) by show ((y.at_ + (a.size + 1) : Nat) : Int) = _; omega] at z1
            rw [show (shiftT (a.size + 1) y).kind = y.kind from rfl] at z0
            rw [show (shiftT (a.size + 1) y).n = y.n from rfl] at z2
            rw [show (shiftT (a.size + 1) y).s = y.s from rfl] at z3
            obtain ⟨b2, o2, rfl, y0, y1, y2, y3⟩ := (HTY.out HM.out).tok hy
            have HB := Tre.hid (HM.out.allocR (tokV y.kind ((y.at_ : Int) + ((a.size : Int) + 1)) y.n ⟨y.s.toArray⟩) 29)
            have hte := tokEq_refl y.kind y.at_ y.n ⟨y.s.toArray⟩
            have hbl := World.block_lt_of_cell? wr _ y0
            simp only at hbl
            clear hy hzy
            go_wp2_with fail
            have MB := HM.out.allocR (tokV y.kind y.at_ y.n ⟨y.s.toArray⟩) 29
            have MBA := (Below.refl wr.heap.size wr).alloc (Nat.le_refl _) (.cells (tokV y.kind y.at_ y.n ⟨y.s.toArray⟩) 29)
            have HMB := Tre.hid (HM.out.alloc (.cells (tokV y.kind y.at_ y.n ⟨y.s.toArray⟩) 29))
            have k0 := MB.cell 0 rfl 0 rfl
            have k1 := MB.cell 0 rfl 1 rfl
            have k2 := MB.cell 0 rfl 2 rfl
            have k3 := MB.cell 0 rfl 3 rfl
            have y0 := cell_below MBA y0
            have y1 := cell_below MBA y1
            have y2 := cell_below MBA y2
            have y3 := cell_below MBA y3
            generalize hg : wr.alloc (.cells (tokV y.kind y.at_ y.n ⟨y.s.toArray⟩) 29) = w5 at HMB k0 k1 k2 k3 y0 y1 y2 y3 ⊢
            clear MB MBA hg z0 z1 z2 z3 HB
            go_region_held3 (fun w' => w'.cell? ⟨wr.heap.size, 0, none⟩ = some (.int .i64 y.kind) ∧ w'.cell? ⟨wr.heap.size, 1, none⟩ = some (.int .i64 y.at_) ∧ w'.cell? ⟨wr.heap.size, 2, none⟩ = some (.int .i64 y.n) ∧ w'.cell? ⟨wr.heap.size, 3, none⟩ = some (.string ⟨y.s.toArray⟩) ∧ w'.cell? ⟨b2, o2 + i * 4, none⟩ = some (.int .i64 y.kind) ∧ w'.cell? ⟨b2, o2 + i * 4 + 1, none⟩ = some (.int .i64 y.at_) ∧ w'.cell? ⟨b2, o2 + i * 4 + 2, none⟩ = some (.int .i64 y.n) ∧ w'.cell? ⟨b2, o2 + i * 4 + 3, none⟩ = some (.string ⟨y.s.toArray⟩)) (go_keep) (fail)
            go_wp2_with fail
            go_roundw
            case rel => exact ⟨i + 1, by omega, by go_num, HMB.out.drew⟩
            case measure => simp [intOf]; omega
          · go_wp2_with fail
            obtain ⟨wo, hwo⟩ : ∃ wo : World, wo = wr := ⟨_, rfl⟩
            have HMo := HM
            rw [← hwo] at HMo ⊢
            clear hwo HM
            clear wr
            go_loopw [112] (fun v wr => ∃ j : Nat, j ≤ n + 1 ∧ v = .int .i64 j ∧ Hid (Mem w1 wr [rowR 29 4 (.slice (some ⟨g0, 0, none⟩) (n + m) cz) (n + m) ((joinL a.size X Y).flatMap tokCells), rowR 29 4 (.slice gy m cy) m (Y.flatMap tokCells), rowR 29 4 (.slice gx (n + 1) cx) (n + 1) (X.flatMap tokCells)])) (fun v _ => n + 1 - (intOf v).toNat)
            case atStart => exact ⟨0, Nat.zero_le _, rfl, HMo.out⟩
            case round =>
              obtain ⟨j, hj, rfl, HM⟩ := hrel
              by_cases hlt2 : j < n + 1
              · obtain ⟨t, ht⟩ : ∃ t, X[j]? = some t := ⟨_, List.getElem?_eq_getElem (by rw [hn.out]; exact hlt2)⟩
                obtain ⟨hta, hcut⟩ := lexS_cut HX.out ht
                have hta' : t.at_ ≤ a.size := hta
                have HCUT : Hid (lexS (a.extract 0 t.at_).data.toList = some (X.take j ++ [⟨0, t.at_, 0, []⟩])) := by
                  show _ = _
                  rw [extract_take a 0 t.at_ hta', List.drop_zero, Nat.sub_zero]; exact hcut
                have hcl : Hid ((X.take j).length = j) := by show _ = _; rw [List.length_take, hn.out]; omega
                obtain ⟨b2, o2, rfl, y0, y1, y2, y3⟩ := (HTX.out HM.out).tok ht
                have MB := HM.out.allocR (tokV t.kind t.at_ t.n ⟨t.s.toArray⟩) 29
                have HMB := Tre.hid (HM.out.alloc (.cells (tokV t.kind t.at_ t.n ⟨t.s.toArray⟩) 29))
                have hes : (a.extract 0 t.at_).size ≤ 4194304 := by rw [ByteArray.size_extract]; omega
                clear ht hta hcut MB
                go_wp2_with fail
                refine (Lex (a.extract 0 t.at_) _ hes ((HE.out.below HB1.out).below HMB.out.below)).mono ?_
                rw [HCUT.out]
                intro e w6 hp
                rcases hp with ⟨ts, vc, hd, rfl, M6⟩ | ⟨hd, _⟩
                · cases hd
                  have M7 := HMB.out.call M6
                  have HM7 : Hid (Mem w1 w6 (rowR 29 4 vc (j + 1) ((X.take j ++ [(⟨0, t.at_, 0, []⟩ : Tok)]).flatMap tokCells) :: [rowR 29 4 (.slice (some ⟨g0, 0, none⟩) (n + m) cz) (n + m) ((joinL a.size X Y).flatMap tokCells), rowR 29 4 (.slice gy m cy) m (Y.flatMap tokCells), rowR 29 4 (.slice (some ⟨b2, o2, none⟩) (n + 1) cx) (n + 1) (X.flatMap tokCells)])) := by
                    show Mem _ _ _
                    have e1 : (X.take j ++ [(⟨0, t.at_, 0, []⟩ : Tok)]).length = j + 1 := by rw [List.length_append, hcl.out]; rfl
                    rw [← e1]; exact M7
                  obtain ⟨gc, cc, rfl, hcc⟩ := HM7.out.val 0 rfl
                  have HTC : Hid (∀ {w' : World}, Mem w1 w' [rowR 29 4 (.slice gc (j + 1) cc) (j + 1) ((X.take j ++ [(⟨0, t.at_, 0, []⟩ : Tok)]).flatMap tokCells), rowR 29 4 (.slice (some ⟨g0, 0, none⟩) (n + m) cz) (n + m) ((joinL a.size X Y).flatMap tokCells), rowR 29 4 (.slice gy m cy) m (Y.flatMap tokCells), rowR 29 4 (.slice (some ⟨b2, o2, none⟩) (n + 1) cx) (n + 1) (X.flatMap tokCells)] → ToksAt w' gc (X.take j ++ [(⟨0, t.at_, 0, []⟩ : Tok)])) := fun h => toks_of h 0 rfl (by rw [List.length_append, hcl.out, List.length_singleton])
                  have HTX2 : Hid (∀ {w' : World}, Mem w1 w' [rowR 29 4 (.slice gc (j + 1) cc) (j + 1) ((X.take j ++ [(⟨0, t.at_, 0, []⟩ : Tok)]).flatMap tokCells), rowR 29 4 (.slice (some ⟨g0, 0, none⟩) (n + m) cz) (n + m) ((joinL a.size X Y).flatMap tokCells), rowR 29 4 (.slice gy m cy) m (Y.flatMap tokCells), rowR 29 4 (.slice (some ⟨b2, o2, none⟩) (n + 1) cx) (n + 1) (X.flatMap tokCells)] → ToksAt w' (some ⟨b2, o2, none⟩) X) := fun h => toks_of h 3 rfl hn.out.symm
                  have HC1 : Hid ((X.take j ++ [(⟨0, t.at_, 0, []⟩ : Tok)]).take j = X.take j) := by
                    show _ = _
                    rw [List.take_append_of_le_length (by rw [hcl.out]; exact Nat.le_refl _), List.take_of_length_le (by rw [hcl.out]; exact Nat.le_refl _)]
                  have p1 : IntKind.i64.wrap ((j : Int) + 1) = (j : Int) + 1 := IntWalk.i64_in _ (by omega)
                  have p4 : (j : Int) ≤ (cc : Int) := by omega
                  have p5 : (j : Int) ≤ (cx : Int) := by omega
                  have p6 : (0 : Int) ≤ (j : Int) := by omega
                  clear M6 M7 HMB
                  go_wp2_with fail
                  refine wp_region_keep (S := (fun _ => True)) [] (by kernel_rfl) ?_ (fun hH0 => ?_)
                  · exact trivial
                  have H0 := Tre.hid HM7.out.drew
                  generalize hq : w6.drew = wq0 at H0 hH0 ⊢
                  clear hq
                  refine lPure (i := 0) (some 126) (v := ?_) (by rfl) (by kernel_rfl) (by kernel_rfl) (by kernel_rfl) (by kernel_rfl) (fun _ _ _ h => h) (by rfl) ?_ (keep_of hH0) ?_
                  rotate_left
                  · intro w; simp only [List.getElem?_toArray, List.getElem?_cons_zero, Option.map_some, Option.some.injEq]; (first | (go_simp; done) | (go_simp; with_reducible rfl))
                  try simp only [Act.put, List.setIfInBounds_toArray, List.set_cons_zero, List.set_cons_succ]
                  refine lPure (i := 1) (some 127) (v := ?_) (by rfl) (by kernel_rfl) (by kernel_rfl) (by kernel_rfl) (by kernel_rfl) (fun _ _ _ h => h) (by rfl) ?_ (keep_of hH0) ?_
                  rotate_left
                  · intro w; simp only [List.getElem?_toArray, List.getElem?_cons_succ, List.getElem?_cons_zero, Option.map_some, Option.some.injEq]; (first | (go_simp; done) | (go_simp; with_reducible rfl))
                  try simp only [Act.put, List.setIfInBounds_toArray, List.set_cons_zero, List.set_cons_succ]
                  refine lPure (i := 2) (some 128) (v := ?_) (by rfl) (by kernel_rfl) (by kernel_rfl) (by kernel_rfl) (by kernel_rfl) (fun _ _ _ h => h) (by rfl) ?_ (keep_of hH0) ?_
                  rotate_left
                  · intro w; simp only [List.getElem?_toArray, List.getElem?_cons_succ, List.getElem?_cons_zero, Option.map_some, Option.some.injEq]; (first | (go_simp; done) | (go_simp; with_reducible rfl))
                  try simp only [Act.put, List.setIfInBounds_toArray, List.set_cons_zero, List.set_cons_succ]
                  refine lPure (i := 3) (some 129) (v := ?_) (by rfl) (by kernel_rfl) (by kernel_rfl) (by kernel_rfl) (by kernel_rfl) (fun _ _ _ h => h) (by rfl) ?_ (keep_of hH0) ?_
                  rotate_left
                  · intro w; simp only [List.getElem?_toArray, List.getElem?_cons_succ, List.getElem?_cons_zero, Option.map_some, Option.some.injEq]; (first | (go_simp; done) | (go_simp; with_reducible rfl))
                  try simp only [Act.put, List.setIfInBounds_toArray, List.set_cons_zero, List.set_cons_succ]
                  refine lPure (i := 4) (some 130) (v := ?_) (by rfl) (by kernel_rfl) (by kernel_rfl) (by kernel_rfl) (by kernel_rfl) (fun _ _ _ h => h) (by rfl) ?_ (keep_of hH0) ?_
                  rotate_left
                  · intro w; simp only [List.getElem?_toArray, List.getElem?_cons_succ, List.getElem?_cons_zero, Option.map_some, Option.some.injEq]; (first | (go_simp; done) | (go_simp; with_reducible rfl))
                  try simp only [Act.put, List.setIfInBounds_toArray, List.set_cons_zero, List.set_cons_succ]
                  refine lPure (i := 5) (some 131) (v := ?_) (by rfl) (by kernel_rfl) (by kernel_rfl) (by kernel_rfl) (by kernel_rfl) (fun _ _ _ h => h) (by rfl) ?_ (keep_of hH0) ?_
                  rotate_left
                  · intro w; simp only [List.getElem?_toArray, List.getElem?_cons_succ, List.getElem?_cons_zero, Option.map_some, Option.some.injEq]; (first | (go_simp; done) | (go_simp; with_reducible rfl))
                  try simp only [Act.put, List.setIfInBounds_toArray, List.set_cons_zero, List.set_cons_succ]
                  refine lPure (i := 6) (some 132) (v := ?_) (by rfl) (by kernel_rfl) (by kernel_rfl) (by kernel_rfl) (by kernel_rfl) (fun _ _ _ h => h) (by rfl) ?_ (keep_of hH0) ?_
                  rotate_left
                  · intro w; simp only [List.getElem?_toArray, List.getElem?_cons_succ, List.getElem?_cons_zero, Option.map_some, Option.some.injEq]; (first | (go_simp; done) | (go_simp; with_reducible rfl))
                  try simp only [Act.put, List.setIfInBounds_toArray, List.set_cons_zero, List.set_cons_succ]
                  refine lPure (i := 7) (some 133) (v := ?_) (by rfl) (by kernel_rfl) (by kernel_rfl) (by kernel_rfl) (by kernel_rfl) (fun _ _ _ h => h) (by rfl) ?_ (keep_of hH0) ?_
                  rotate_left
                  · intro w; simp only [List.getElem?_toArray, List.getElem?_cons_succ, List.getElem?_cons_zero, Option.map_some, Option.some.injEq]; (first | (go_simp; done) | (go_simp; with_reducible rfl))
                  try simp only [Act.put, List.setIfInBounds_toArray, List.set_cons_zero, List.set_cons_succ]
                  refine lPure (i := 8) (some 134) (v := ?_) (by rfl) (by kernel_rfl) (by kernel_rfl) (by kernel_rfl) (by kernel_rfl) (fun _ _ _ h => h) (by rfl) ?_ (keep_of hH0) ?_
                  rotate_left
                  · intro w; simp only [List.getElem?_toArray, List.getElem?_cons_succ, List.getElem?_cons_zero, Option.map_some, Option.some.injEq]; (first | (go_simp; done) | (go_simp; with_reducible rfl))
                  try simp only [Act.put, List.setIfInBounds_toArray, List.set_cons_zero, List.set_cons_succ]
                  refine lPure (i := 9) (some 135) (v := ?_) (by rfl) (by kernel_rfl) (by kernel_rfl) (by kernel_rfl) (by kernel_rfl) (fun _ _ _ h => h) (by rfl) ?_ (keep_of hH0) ?_
                  rotate_left
                  · intro w; simp only [List.getElem?_toArray, List.getElem?_cons_succ, List.getElem?_cons_zero, Option.map_some, Option.some.injEq]; (first | (go_simp; done) | (go_simp; with_reducible rfl))
                  try simp only [Act.put, List.setIfInBounds_toArray, List.set_cons_zero, List.set_cons_succ]
                  refine lPure (i := 10) (some 136) (v := ?_) (by rfl) (by kernel_rfl) (by kernel_rfl) (by kernel_rfl) (by kernel_rfl) (fun _ _ _ h => h) (by rfl) ?_ (keep_of hH0) ?_
                  rotate_left
                  · intro w; simp only [List.getElem?_toArray, List.getElem?_cons_succ, List.getElem?_cons_zero, Option.map_some, Option.some.injEq]; (first | (go_simp; done) | (go_simp; with_reducible rfl))
                  try simp only [Act.put, List.setIfInBounds_toArray, List.set_cons_zero, List.set_cons_succ]
                  refine lPure (i := 11) (some 137) (v := ?_) (by rfl) (by kernel_rfl) (by kernel_rfl) (by kernel_rfl) (by kernel_rfl) (fun _ _ _ h => h) (by rfl) ?_ (keep_of hH0) ?_
                  rotate_left
                  · intro w; simp only [List.getElem?_toArray, List.getElem?_cons_succ, List.getElem?_cons_zero, Option.map_some, Option.some.injEq]; (first | (go_simp; done) | (go_simp; with_reducible rfl))
                  try simp only [Act.put, List.setIfInBounds_toArray, List.set_cons_zero, List.set_cons_succ]
                  refine lPure (i := 12) (some 138) (v := ?_) (by rfl) (by kernel_rfl) (by kernel_rfl) (by kernel_rfl) (by kernel_rfl) (fun _ _ _ h => h) (by rfl) ?_ (keep_of hH0) ?_
                  rotate_left
                  · intro w; simp only [List.getElem?_toArray, List.getElem?_cons_succ, List.getElem?_cons_zero, Option.map_some, Option.some.injEq]; (first | (go_simp; done) | (go_simp; with_reducible rfl))
                  try simp only [Act.put, List.setIfInBounds_toArray, List.set_cons_zero, List.set_cons_succ]
                  refine lPure (i := 13) (some 139) (v := ?_) (by rfl) (by kernel_rfl) (by kernel_rfl) (by kernel_rfl) (by kernel_rfl) (fun _ _ _ h => h) (by rfl) ?_ (keep_of hH0) ?_
                  rotate_left
                  · intro w; simp only [List.getElem?_toArray, List.getElem?_cons_succ, List.getElem?_cons_zero, Option.map_some, Option.some.injEq]; (first | (go_simp; done) | (go_simp; with_reducible rfl))
                  try simp only [Act.put, List.setIfInBounds_toArray, List.set_cons_zero, List.set_cons_succ]
                  refine lPure (i := 14) (some 140) (v := ?_) (by rfl) (by kernel_rfl) (by kernel_rfl) (by kernel_rfl) (by kernel_rfl) (fun _ _ _ h => h) (by rfl) ?_ (keep_of hH0) ?_
                  rotate_left
                  · intro w; simp only [List.getElem?_toArray, List.getElem?_cons_succ, List.getElem?_cons_zero, Option.map_some, Option.some.injEq]; (first | (go_simp; done) | (go_simp; with_reducible rfl))
                  try simp only [Act.put, List.setIfInBounds_toArray, List.set_cons_zero, List.set_cons_succ]
                  refine lPure (i := 15) (some 141) (v := ?_) (by rfl) (by kernel_rfl) (by kernel_rfl) (by kernel_rfl) (by kernel_rfl) (fun _ _ _ h => h) (by rfl) ?_ (keep_of hH0) ?_
                  rotate_left
                  · intro w; simp only [List.getElem?_toArray, List.getElem?_cons_succ, List.getElem?_cons_zero, Option.map_some, Option.some.injEq]; (first | (go_simp; done) | (go_simp; with_reducible rfl))
                  try simp only [Act.put, List.setIfInBounds_toArray, List.set_cons_zero, List.set_cons_succ]
                  refine lOne 16 (by kernel_rfl) (LStep.op (fun K hK => ?_))
                  go_simp
                  refine (same_at gc (some ⟨b2, o2, none⟩) cc cx j (X.take j) wq0 ((HTC.out H0.out).take j) ((HTX2.out H0.out).take j) HC1.out rfl hcl.out (by omega)).mono ?_
                  rintro e wq1 ⟨rfl, mq⟩
                  have H1 := Tre.hid (H0.out.quiet mq)
                  clear mq
                  (try dsimp only)
                  refine hK.out _ _ ?_ (fun hH1 => ?_)
                  · exact trivial
                  clear hK K hH0
                  try simp only [Act.put, List.setIfInBounds_toArray, List.set_cons_zero, List.set_cons_succ]
                  refine lPure (i := 17) (some 143) (v := ?_) (by rfl) (by kernel_rfl) (by kernel_rfl) (by kernel_rfl) (by kernel_rfl) (fun _ _ _ h => h) (by rfl) ?_ (keep_of hH1) ?_
                  rotate_left
                  · intro w; simp only [List.getElem?_toArray, List.getElem?_cons_succ, List.getElem?_cons_zero, Option.map_some, Option.some.injEq]; (first | (go_simp; done) | (go_simp; with_reducible rfl))
                  try simp only [Act.put, List.setIfInBounds_toArray, List.set_cons_zero, List.set_cons_succ]
                  refine lPure (i := 18) (some 144) (v := ?_) (by rfl) (by kernel_rfl) (by kernel_rfl) (by kernel_rfl) (by kernel_rfl) (fun _ _ _ h => h) (by rfl) ?_ (keep_of hH1) ?_
                  rotate_left
                  · intro w; simp only [List.getElem?_toArray, List.getElem?_cons_succ, List.getElem?_cons_zero, Option.map_some, Option.some.injEq]; (first | (go_simp; done) | (go_simp; with_reducible rfl))
                  try simp only [Act.put, List.setIfInBounds_toArray, List.set_cons_zero, List.set_cons_succ]
                  refine lDone (by kernel_rfl) ?_
                  clear hH1
                  clear p1 p4 p5 p6
                  go_wp2_with fail
                  go_roundw
                  case rel =>
                    have h := (H1.out.del 0)
                    exact ⟨j + 1, by omega, by go_num, h⟩
                  case measure => simp [intOf]; omega
                · cases hd
              · go_wp2_with fail
                go_ret
                exact ⟨rfl, HB1.out.trans (HM.out.below.mono HB1.out.size)⟩
      · cases hd
    · cases hd
  · cases hd
end Go.Proofs.YtejajdebpibocaaGreatDoor.lex
