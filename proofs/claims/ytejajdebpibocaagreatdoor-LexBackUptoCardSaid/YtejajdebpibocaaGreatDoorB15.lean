/- lex.Put. -/
import Derived.Test.YtejajdebpibocaaGreatDoorB03
import Derived.Test.YtejajdebpibocaaGreatDoorB05
import Derived.Test.YtejajdebpibocaaGreatDoorB13
import Derived.Test.YtejajdebpibocaaGreatDoorB14
import Derived.Test.YtejajdebpibocaaGreatDoorB01
import Derived.Deep.RegionHeld3
import Derived.Lib.ItoaLen
set_option linter.unusedVariables false
namespace Go.Tre
open Go.RowKit
/-- what lex.Put hands back -/
def PutPost (k n : Int) (s : ByteArray) (w : World) (e : Ending) (w' : World) : Prop :=
  Below w.heap.size w w' ∧ ((∃ (x : ByteArray) (t : Tok), e = .returned (.tuple #[.string x, .int .i64 0]) ∧ x.size ≤ 4194303 ∧ t.at_ = 0 ∧ lexS x.data.toList = some [t, ⟨0, x.data.toList.length, 0, []⟩] ∧ k = t.kind ∧ n = t.n ∧ s.data.toList = t.s) ∨
    e = .returned (.tuple #[.string ⟨#[]⟩, .int .i64 2]))
theorem put_yes {x : ByteArray} {t : Tok} {k n : Int} {s : ByteArray} (h : lexS x.data.toList = some [t, ⟨0, x.data.toList.length, 0, []⟩]) (ht : tokEq t.kind t.at_ t.n ⟨t.s.toArray⟩ k 0 n s = true) (hx : x.size ≤ 4194303) :
    ∃ (x' : ByteArray) (t : Tok), Ending.returned (.tuple #[.string x, .int .i64 0]) = .returned (.tuple #[.string x', .int .i64 0]) ∧ x'.size ≤ 4194303 ∧ t.at_ = 0 ∧ lexS x'.data.toList = some [t, ⟨0, x'.data.toList.length, 0, []⟩] ∧ k = t.kind ∧ n = t.n ∧ s.data.toList = t.s := by
  simp only [tokEq, Bool.and_eq_true, decide_eq_true_eq] at ht
  obtain ⟨⟨⟨h1, h2⟩, h3⟩, h4⟩ := ht
  exact ⟨x, t, rfl, hx, by omega, h, h1.symm, h3.symm, h4.symm⟩
end Go.Tre
namespace Go.Proofs.YtejajdebpibocaaGreatDoor.lex
open Go.RowKit Go.Tre rep
set_option maxRecDepth 100000 in
set_option maxHeartbeats 4000000 in
theorem put_tick (a n : Int) (s : ByteArray) (w : World) (hs : s.size ≤ 2097150) (E : LexEnv w) :
    Calls Tryz.prog 11 #[.agg (tokV 5 a n s)] w (PutPost 5 n s w) := by
  have HE := Tre.hid E
  have HM := Tre.hid ((Mem.nil w).allocR (tokV 5 0 n s) 29)
  have hcat : ¬ (9223372036854775807 < 1 + s.size) := by omega
  clear E
  go_enter Tryz.func11, Tryz.ntmps11
  go_wp2_with fail
  have hxs : (⟨#[39]⟩ ++ s : ByteArray).size ≤ 4194303 := by rw [ByteArray.size_append]; show 1 + s.size ≤ _; omega
  generalize (⟨#[39]⟩ ++ s : ByteArray) = x at *
  clear hcat
  -- THE TEXT IS x, ITS SIZE IS KNOWN (hxs); HM: the box
  have hx4 : x.size ≤ 4194304 := by omega
  refine (Lex x _ hx4 (HE.out.below HM.out.below)).mono ?_
  intro e w3 hp
  rcases hp with ⟨ts, v, hd, rfl, M3⟩ | ⟨hd, at_, rfl, b3⟩
  · have HD := Tre.hid hd
    have HM3 := Tre.hid (HM.out.call M3)
    clear M3 HM hd
    by_cases h2 : ts.length = 2
    · obtain ⟨t, rfl⟩ := lexS_two HD.out h2
      have HM4 : Hid (Mem w w3 [rowR 29 4 v 2 ([t, (⟨0, x.data.toList.length, 0, []⟩ : Tok)].flatMap tokCells), cellsR w.heap.size 29 (tokV 5 0 n s)]) := HM3.out
      clear HM3 h2
      obtain ⟨g, c, rfl, hg1, hg2⟩ := HM4.out.pos 0 rfl
      have y0 : w3.cell? ⟨g, 0, none⟩ = some (.int .i64 (t.kind : Int)) := HM4.out.cellAt 0 rfl 0 rfl
      have y1 : w3.cell? ⟨g, 1, none⟩ = some (.int .i64 (t.at_ : Int)) := HM4.out.cellAt 0 rfl 1 rfl
      have y2 : w3.cell? ⟨g, 2, none⟩ = some (.int .i64 t.n) := HM4.out.cellAt 0 rfl 2 rfl
      have y3 : w3.cell? ⟨g, 3, none⟩ = some (.string ⟨t.s.toArray⟩) := HM4.out.cellAt 0 rfl 3 rfl
      have k0 : w3.cell? ⟨w.heap.size, 0, none⟩ = some (.int .i64 5) := HM4.out.cell 1 rfl 0 rfl
      have k1 : w3.cell? ⟨w.heap.size, 1, none⟩ = some (.int .i64 0) := HM4.out.cell 1 rfl 1 rfl
      have k2 : w3.cell? ⟨w.heap.size, 2, none⟩ = some (.int .i64 n) := HM4.out.cell 1 rfl 2 rfl
      have k3 : w3.cell? ⟨w.heap.size, 3, none⟩ = some (.string s) := HM4.out.cell 1 rfl 3 rfl
      have HBW := Tre.hid HM4.out.below
      have heq := eqTok
      clear HM4 hg1 hg2
      go_wp2_with fail
      go_region_held3 (fun w' => w'.cell? ⟨g, 0, none⟩ = some (.int .i64 (t.kind : Int)) ∧ w'.cell? ⟨g, 1, none⟩ = some (.int .i64 (t.at_ : Int)) ∧ w'.cell? ⟨g, 2, none⟩ = some (.int .i64 t.n) ∧ w'.cell? ⟨g, 3, none⟩ = some (.string ⟨t.s.toArray⟩) ∧ w'.cell? ⟨w.heap.size, 0, none⟩ = some (.int .i64 5) ∧ w'.cell? ⟨w.heap.size, 1, none⟩ = some (.int .i64 0) ∧ w'.cell? ⟨w.heap.size, 2, none⟩ = some (.int .i64 n) ∧ w'.cell? ⟨w.heap.size, 3, none⟩ = some (.string s)) (go_keep) (fail)
      cases hte : tokEq t.kind t.at_ t.n ⟨t.s.toArray⟩ 5 0 n s
      · go_wp2_with fail
        go_ret2
        exact ⟨HBW.out.drew, .inr rfl⟩
      · go_wp2_with fail
        go_ret2
        exact ⟨HBW.out.drew, .inl (put_yes HD.out hte hxs)⟩
    · have h2i : ((ts.length : Int) != 2) = true := by simp; omega
      obtain ⟨va, vc, rfl, hvc⟩ := HM3.out.val 0 rfl
      have HBW := Tre.hid HM3.out.below
      clear HM3 HD
      go_wp2_with fail
      refine wp_region_keep (S := (fun _ => True)) [] (by kernel_rfl) ?_ (fun hH0 => ?_)
      · exact trivial
      have HB := Tre.hid HBW.out.drew
      generalize hq : World.drew _ = wq0 at HB hH0 ⊢
      clear hq HBW
      refine lPure (i := 0) (some 36) (v := ?_) (by rfl) (by kernel_rfl) (by kernel_rfl) (by kernel_rfl) (by kernel_rfl) (fun _ _ _ h => h) (by rfl) ?_ (keep_of hH0) ?_
      rotate_left
      · intro w; simp only [List.getElem?_toArray, List.getElem?_cons_zero, Option.map_some, Option.some.injEq]; (first | (go_simp; done) | (go_simp; with_reducible rfl))
      try simp only [Act.put, List.setIfInBounds_toArray, List.set_cons_zero, List.set_cons_succ]
      refine lPure (i := 1) (some 37) (v := ?_) (by rfl) (by kernel_rfl) (by kernel_rfl) (by kernel_rfl) (by kernel_rfl) (fun _ _ _ h => h) (by rfl) ?_ (keep_of hH0) ?_
      rotate_left
      · intro w; simp only [List.getElem?_toArray, List.getElem?_cons_succ, List.getElem?_cons_zero, Option.map_some, Option.some.injEq]; (first | (go_simp; done) | (go_simp; with_reducible rfl))
      try simp only [Act.put, List.setIfInBounds_toArray, List.set_cons_zero, List.set_cons_succ]
      refine lPure (i := 2) (some 38) (v := ?_) (by rfl) (by kernel_rfl) (by kernel_rfl) (by kernel_rfl) (by kernel_rfl) (fun _ _ _ h => h) (by rfl) ?_ (keep_of hH0) ?_
      rotate_left
      · intro w; simp only [List.getElem?_toArray, List.getElem?_cons_succ, List.getElem?_cons_zero, Option.map_some, Option.some.injEq]; (first | (go_simp; done) | (go_simp; with_reducible rfl))
      try simp only [Act.put, List.setIfInBounds_toArray, List.set_cons_zero, List.set_cons_succ]
      refine lPure (i := 3) (some 39) (v := ?_) (by rfl) (by kernel_rfl) (by kernel_rfl) (by kernel_rfl) (by kernel_rfl) (fun _ _ _ h => h) (by rfl) ?_ (keep_of hH0) ?_
      rotate_left
      · intro w; simp only [List.getElem?_toArray, List.getElem?_cons_succ, List.getElem?_cons_zero, Option.map_some, Option.some.injEq]; (first | (go_simp; done) | (go_simp; with_reducible rfl))
      try simp only [Act.put, List.setIfInBounds_toArray, List.set_cons_zero, List.set_cons_succ]
      refine lPure (i := 4) (some 40) (v := ?_) (by rfl) (by kernel_rfl) (by kernel_rfl) (by kernel_rfl) (by kernel_rfl) (fun _ _ _ h => h) (by rfl) ?_ (keep_of hH0) ?_
      rotate_left
      · intro w; simp only [List.getElem?_toArray, List.getElem?_cons_succ, List.getElem?_cons_zero, Option.map_some, Option.some.injEq]; (first | (go_simp; done) | (go_simp; with_reducible rfl))
      try simp only [Act.put, List.setIfInBounds_toArray, List.set_cons_zero, List.set_cons_succ]
      refine lPure (i := 5) (some 41) (v := ?_) (by rfl) (by kernel_rfl) (by kernel_rfl) (by kernel_rfl) (by kernel_rfl) (fun _ _ _ h => h) (by rfl) ?_ (keep_of hH0) ?_
      rotate_left
      · intro w; simp only [List.getElem?_toArray, List.getElem?_cons_succ, List.getElem?_cons_zero, Option.map_some, Option.some.injEq]; (first | (go_simp; done) | (go_simp; with_reducible rfl))
      try simp only [Act.put, List.setIfInBounds_toArray, List.set_cons_zero, List.set_cons_succ]
      refine lPure (i := 6) (some 42) (v := ?_) (by rfl) (by kernel_rfl) (by kernel_rfl) (by kernel_rfl) (by kernel_rfl) (fun _ _ _ h => h) (by rfl) ?_ (keep_of hH0) ?_
      rotate_left
      · intro w; simp only [List.getElem?_toArray, List.getElem?_cons_succ, List.getElem?_cons_zero, Option.map_some, Option.some.injEq]; (first | (go_simp; done) | (go_simp; with_reducible rfl))
      try simp only [Act.put, List.setIfInBounds_toArray, List.set_cons_zero, List.set_cons_succ]
      refine lPure (i := 7) (some 43) (v := ?_) (by rfl) (by kernel_rfl) (by kernel_rfl) (by kernel_rfl) (by kernel_rfl) (fun _ _ _ h => h) (by rfl) ?_ (keep_of hH0) ?_
      rotate_left
      · intro w; simp only [List.getElem?_toArray, List.getElem?_cons_succ, List.getElem?_cons_zero, Option.map_some, Option.some.injEq]; (first | (go_simp; done) | (go_simp; with_reducible rfl))
      try simp only [Act.put, List.setIfInBounds_toArray, List.set_cons_zero, List.set_cons_succ]
      refine lPureNo (i := 8) (some 44) (by rfl) (by kernel_rfl) (by kernel_rfl) (by kernel_rfl) (by kernel_rfl) (fun _ _ _ h => h) (by rfl) (keep_of hH0) ?_
      try simp only [Act.put, List.setIfInBounds_toArray, List.set_cons_zero, List.set_cons_succ]
      refine lPureNo (i := 9) (some 45) (by rfl) (by kernel_rfl) (by kernel_rfl) (by kernel_rfl) (by kernel_rfl) (fun _ _ _ h => h) (by rfl) (keep_of hH0) ?_
      try simp only [Act.put, List.setIfInBounds_toArray, List.set_cons_zero, List.set_cons_succ]
      refine lPureNo (i := 10) (some 46) (by rfl) (by kernel_rfl) (by kernel_rfl) (by kernel_rfl) (by kernel_rfl) (fun _ _ _ h => h) (by rfl) (keep_of hH0) ?_
      try simp only [Act.put, List.setIfInBounds_toArray, List.set_cons_zero, List.set_cons_succ]
      refine lPureNo (i := 11) (some 47) (by rfl) (by kernel_rfl) (by kernel_rfl) (by kernel_rfl) (by kernel_rfl) (fun _ _ _ h => h) (by rfl) (keep_of hH0) ?_
      try simp only [Act.put, List.setIfInBounds_toArray, List.set_cons_zero, List.set_cons_succ]
      refine lPureNo (i := 12) (some 48) (by rfl) (by kernel_rfl) (by kernel_rfl) (by kernel_rfl) (by kernel_rfl) (fun _ _ _ h => h) (by rfl) (keep_of hH0) ?_
      try simp only [Act.put, List.setIfInBounds_toArray, List.set_cons_zero, List.set_cons_succ]
      refine lPure (i := 13) (some 49) (v := ?_) (by rfl) (by kernel_rfl) (by kernel_rfl) (by kernel_rfl) (by kernel_rfl) (fun _ _ _ h => h) (by rfl) ?_ (keep_of hH0) ?_
      rotate_left
      · intro w; simp only [List.getElem?_toArray, List.getElem?_cons_succ, List.getElem?_cons_zero, Option.map_some, Option.some.injEq]; (first | (go_simp; done) | (go_simp; with_reducible rfl))
      try simp only [Act.put, List.setIfInBounds_toArray, List.set_cons_zero, List.set_cons_succ]
      refine lDone (by kernel_rfl) ?_
      clear hH0
      go_wp2_with fail
      go_ret2
      exact ⟨HB.out, .inr rfl⟩
  · obtain ⟨z, hz, hz0⟩ : ∃ z : Nat, (if x.size ≤ 65536 then 5 else 3 : Nat) = z ∧ z ≠ 0 := ⟨_, rfl, by split <;> omega⟩
    rw [hz]
    have hz1 : ((z : Int) != 0) = true := by simp; omega
    have HBW := Tre.hid (HM.out.quiet b3).below
    clear b3 HM hz hd
    go_wp2_with fail
    refine wp_region_keep (S := (fun _ => True)) [] (by kernel_rfl) ?_ (fun hH0 => ?_)
    · exact trivial
    have HB := Tre.hid HBW.out.drew
    generalize hq : World.drew _ = wq0 at HB hH0 ⊢
    clear hq HBW
    refine lPure (i := 0) (some 36) (v := ?_) (by rfl) (by kernel_rfl) (by kernel_rfl) (by kernel_rfl) (by kernel_rfl) (fun _ _ _ h => h) (by rfl) ?_ (keep_of hH0) ?_
    rotate_left
    · intro w; simp only [List.getElem?_toArray, List.getElem?_cons_zero, Option.map_some, Option.some.injEq]; (first | (go_simp; done) | (go_simp; with_reducible rfl))
    try simp only [Act.put, List.setIfInBounds_toArray, List.set_cons_zero, List.set_cons_succ]
    refine lPure (i := 1) (some 37) (v := ?_) (by rfl) (by kernel_rfl) (by kernel_rfl) (by kernel_rfl) (by kernel_rfl) (fun _ _ _ h => h) (by rfl) ?_ (keep_of hH0) ?_
    rotate_left
    · intro w; simp only [List.getElem?_toArray, List.getElem?_cons_succ, List.getElem?_cons_zero, Option.map_some, Option.some.injEq]; (first | (go_simp; done) | (go_simp; with_reducible rfl))
    try simp only [Act.put, List.setIfInBounds_toArray, List.set_cons_zero, List.set_cons_succ]
    refine lPure (i := 2) (some 38) (v := ?_) (by rfl) (by kernel_rfl) (by kernel_rfl) (by kernel_rfl) (by kernel_rfl) (fun _ _ _ h => h) (by rfl) ?_ (keep_of hH0) ?_
    rotate_left
    · intro w; simp only [List.getElem?_toArray, List.getElem?_cons_succ, List.getElem?_cons_zero, Option.map_some, Option.some.injEq]; (first | (go_simp; done) | (go_simp; with_reducible rfl))
    try simp only [Act.put, List.setIfInBounds_toArray, List.set_cons_zero, List.set_cons_succ]
    refine lPureNo (i := 3) (some 39) (by rfl) (by kernel_rfl) (by kernel_rfl) (by kernel_rfl) (by kernel_rfl) (fun _ _ _ h => h) (by rfl) (keep_of hH0) ?_
    try simp only [Act.put, List.setIfInBounds_toArray, List.set_cons_zero, List.set_cons_succ]
    refine lPureNo (i := 4) (some 40) (by rfl) (by kernel_rfl) (by kernel_rfl) (by kernel_rfl) (by kernel_rfl) (fun _ _ _ h => h) (by rfl) (keep_of hH0) ?_
    try simp only [Act.put, List.setIfInBounds_toArray, List.set_cons_zero, List.set_cons_succ]
    refine lPureNo (i := 5) (some 41) (by rfl) (by kernel_rfl) (by kernel_rfl) (by kernel_rfl) (by kernel_rfl) (fun _ _ _ h => h) (by rfl) (keep_of hH0) ?_
    try simp only [Act.put, List.setIfInBounds_toArray, List.set_cons_zero, List.set_cons_succ]
    refine lPure (i := 6) (some 42) (v := ?_) (by rfl) (by kernel_rfl) (by kernel_rfl) (by kernel_rfl) (by kernel_rfl) (fun _ _ _ h => h) (by rfl) ?_ (keep_of hH0) ?_
    rotate_left
    · intro w; simp only [List.getElem?_toArray, List.getElem?_cons_succ, List.getElem?_cons_zero, Option.map_some, Option.some.injEq]; (first | (go_simp; done) | (go_simp; with_reducible rfl))
    try simp only [Act.put, List.setIfInBounds_toArray, List.set_cons_zero, List.set_cons_succ]
    refine lPure (i := 7) (some 43) (v := ?_) (by rfl) (by kernel_rfl) (by kernel_rfl) (by kernel_rfl) (by kernel_rfl) (fun _ _ _ h => h) (by rfl) ?_ (keep_of hH0) ?_
    rotate_left
    · intro w; simp only [List.getElem?_toArray, List.getElem?_cons_succ, List.getElem?_cons_zero, Option.map_some, Option.some.injEq]; (first | (go_simp; done) | (go_simp; with_reducible rfl))
    try simp only [Act.put, List.setIfInBounds_toArray, List.set_cons_zero, List.set_cons_succ]
    refine lPureNo (i := 8) (some 44) (by rfl) (by kernel_rfl) (by kernel_rfl) (by kernel_rfl) (by kernel_rfl) (fun _ _ _ h => h) (by rfl) (keep_of hH0) ?_
    try simp only [Act.put, List.setIfInBounds_toArray, List.set_cons_zero, List.set_cons_succ]
    refine lPureNo (i := 9) (some 45) (by rfl) (by kernel_rfl) (by kernel_rfl) (by kernel_rfl) (by kernel_rfl) (fun _ _ _ h => h) (by rfl) (keep_of hH0) ?_
    try simp only [Act.put, List.setIfInBounds_toArray, List.set_cons_zero, List.set_cons_succ]
    refine lPureNo (i := 10) (some 46) (by rfl) (by kernel_rfl) (by kernel_rfl) (by kernel_rfl) (by kernel_rfl) (fun _ _ _ h => h) (by rfl) (keep_of hH0) ?_
    try simp only [Act.put, List.setIfInBounds_toArray, List.set_cons_zero, List.set_cons_succ]
    refine lPureNo (i := 11) (some 47) (by rfl) (by kernel_rfl) (by kernel_rfl) (by kernel_rfl) (by kernel_rfl) (fun _ _ _ h => h) (by rfl) (keep_of hH0) ?_
    try simp only [Act.put, List.setIfInBounds_toArray, List.set_cons_zero, List.set_cons_succ]
    refine lPureNo (i := 12) (some 48) (by rfl) (by kernel_rfl) (by kernel_rfl) (by kernel_rfl) (by kernel_rfl) (fun _ _ _ h => h) (by rfl) (keep_of hH0) ?_
    try simp only [Act.put, List.setIfInBounds_toArray, List.set_cons_zero, List.set_cons_succ]
    refine lPure (i := 13) (some 49) (v := ?_) (by rfl) (by kernel_rfl) (by kernel_rfl) (by kernel_rfl) (by kernel_rfl) (fun _ _ _ h => h) (by rfl) ?_ (keep_of hH0) ?_
    rotate_left
    · intro w; simp only [List.getElem?_toArray, List.getElem?_cons_succ, List.getElem?_cons_zero, Option.map_some, Option.some.injEq]; (first | (go_simp; done) | (go_simp; with_reducible rfl))
    try simp only [Act.put, List.setIfInBounds_toArray, List.set_cons_zero, List.set_cons_succ]
    refine lDone (by kernel_rfl) ?_
    clear hH0
    go_wp2_with fail
    go_ret2
    exact ⟨HB.out, .inr rfl⟩
set_option maxRecDepth 100000 in
set_option maxHeartbeats 4000000 in
theorem put_else (k a n : Int) (s : ByteArray) (w : World) (hs : s.size ≤ 2097150) (E : LexEnv w) (n5 : ¬ k = 5) (n3 : ¬ k = 3) (n4 : ¬ k = 4) :
    Calls Tryz.prog 11 #[.agg (tokV k a n s)] w (PutPost k n s w) := by
  have HE := Tre.hid E
  have HM := Tre.hid ((Mem.nil w).allocR (tokV k 0 n s) 29)
  have hxs : s.size ≤ 4194303 := by omega
  clear E
  go_enter Tryz.func11, Tryz.ntmps11
  go_wp2_with fail
  clear n5 n3 n4
  -- THE TEXT IS s, ITS SIZE IS KNOWN (hxs); HM: the box
  have hx4 : s.size ≤ 4194304 := by omega
  refine (Lex s _ hx4 (HE.out.below HM.out.below)).mono ?_
  intro e w3 hp
  rcases hp with ⟨ts, v, hd, rfl, M3⟩ | ⟨hd, at_, rfl, b3⟩
  · have HD := Tre.hid hd
    have HM3 := Tre.hid (HM.out.call M3)
    clear M3 HM hd
    by_cases h2 : ts.length = 2
    · obtain ⟨t, rfl⟩ := lexS_two HD.out h2
      have HM4 : Hid (Mem w w3 [rowR 29 4 v 2 ([t, (⟨0, s.data.toList.length, 0, []⟩ : Tok)].flatMap tokCells), cellsR w.heap.size 29 (tokV k 0 n s)]) := HM3.out
      clear HM3 h2
      obtain ⟨g, c, rfl, hg1, hg2⟩ := HM4.out.pos 0 rfl
      have y0 : w3.cell? ⟨g, 0, none⟩ = some (.int .i64 (t.kind : Int)) := HM4.out.cellAt 0 rfl 0 rfl
      have y1 : w3.cell? ⟨g, 1, none⟩ = some (.int .i64 (t.at_ : Int)) := HM4.out.cellAt 0 rfl 1 rfl
      have y2 : w3.cell? ⟨g, 2, none⟩ = some (.int .i64 t.n) := HM4.out.cellAt 0 rfl 2 rfl
      have y3 : w3.cell? ⟨g, 3, none⟩ = some (.string ⟨t.s.toArray⟩) := HM4.out.cellAt 0 rfl 3 rfl
      have k0 : w3.cell? ⟨w.heap.size, 0, none⟩ = some (.int .i64 k) := HM4.out.cell 1 rfl 0 rfl
      have k1 : w3.cell? ⟨w.heap.size, 1, none⟩ = some (.int .i64 0) := HM4.out.cell 1 rfl 1 rfl
      have k2 : w3.cell? ⟨w.heap.size, 2, none⟩ = some (.int .i64 n) := HM4.out.cell 1 rfl 2 rfl
      have k3 : w3.cell? ⟨w.heap.size, 3, none⟩ = some (.string s) := HM4.out.cell 1 rfl 3 rfl
      have HBW := Tre.hid HM4.out.below
      have heq := eqTok
      clear HM4 hg1 hg2
      go_wp2_with fail
      go_region_held3 (fun w' => w'.cell? ⟨g, 0, none⟩ = some (.int .i64 (t.kind : Int)) ∧ w'.cell? ⟨g, 1, none⟩ = some (.int .i64 (t.at_ : Int)) ∧ w'.cell? ⟨g, 2, none⟩ = some (.int .i64 t.n) ∧ w'.cell? ⟨g, 3, none⟩ = some (.string ⟨t.s.toArray⟩) ∧ w'.cell? ⟨w.heap.size, 0, none⟩ = some (.int .i64 k) ∧ w'.cell? ⟨w.heap.size, 1, none⟩ = some (.int .i64 0) ∧ w'.cell? ⟨w.heap.size, 2, none⟩ = some (.int .i64 n) ∧ w'.cell? ⟨w.heap.size, 3, none⟩ = some (.string s)) (go_keep) (fail)
      cases hte : tokEq t.kind t.at_ t.n ⟨t.s.toArray⟩ k 0 n s
      · go_wp2_with fail
        go_ret2
        exact ⟨HBW.out.drew, .inr rfl⟩
      · go_wp2_with fail
        go_ret2
        exact ⟨HBW.out.drew, .inl (put_yes HD.out hte hxs)⟩
    · have h2i : ((ts.length : Int) != 2) = true := by simp; omega
      obtain ⟨va, vc, rfl, hvc⟩ := HM3.out.val 0 rfl
      have HBW := Tre.hid HM3.out.below
      clear HM3 HD
      go_wp2_with fail
      refine wp_region_keep (S := (fun _ => True)) [] (by kernel_rfl) ?_ (fun hH0 => ?_)
      · exact trivial
      have HB := Tre.hid HBW.out.drew
      generalize hq : World.drew _ = wq0 at HB hH0 ⊢
      clear hq HBW
      refine lPure (i := 0) (some 36) (v := ?_) (by rfl) (by kernel_rfl) (by kernel_rfl) (by kernel_rfl) (by kernel_rfl) (fun _ _ _ h => h) (by rfl) ?_ (keep_of hH0) ?_
      rotate_left
      · intro w; simp only [List.getElem?_toArray, List.getElem?_cons_zero, Option.map_some, Option.some.injEq]; (first | (go_simp; done) | (go_simp; with_reducible rfl))
      try simp only [Act.put, List.setIfInBounds_toArray, List.set_cons_zero, List.set_cons_succ]
      refine lPure (i := 1) (some 37) (v := ?_) (by rfl) (by kernel_rfl) (by kernel_rfl) (by kernel_rfl) (by kernel_rfl) (fun _ _ _ h => h) (by rfl) ?_ (keep_of hH0) ?_
      rotate_left
      · intro w; simp only [List.getElem?_toArray, List.getElem?_cons_succ, List.getElem?_cons_zero, Option.map_some, Option.some.injEq]; (first | (go_simp; done) | (go_simp; with_reducible rfl))
      try simp only [Act.put, List.setIfInBounds_toArray, List.set_cons_zero, List.set_cons_succ]
      refine lPure (i := 2) (some 38) (v := ?_) (by rfl) (by kernel_rfl) (by kernel_rfl) (by kernel_rfl) (by kernel_rfl) (fun _ _ _ h => h) (by rfl) ?_ (keep_of hH0) ?_
      rotate_left
      · intro w; simp only [List.getElem?_toArray, List.getElem?_cons_succ, List.getElem?_cons_zero, Option.map_some, Option.some.injEq]; (first | (go_simp; done) | (go_simp; with_reducible rfl))
      try simp only [Act.put, List.setIfInBounds_toArray, List.set_cons_zero, List.set_cons_succ]
      refine lPure (i := 3) (some 39) (v := ?_) (by rfl) (by kernel_rfl) (by kernel_rfl) (by kernel_rfl) (by kernel_rfl) (fun _ _ _ h => h) (by rfl) ?_ (keep_of hH0) ?_
      rotate_left
      · intro w; simp only [List.getElem?_toArray, List.getElem?_cons_succ, List.getElem?_cons_zero, Option.map_some, Option.some.injEq]; (first | (go_simp; done) | (go_simp; with_reducible rfl))
      try simp only [Act.put, List.setIfInBounds_toArray, List.set_cons_zero, List.set_cons_succ]
      refine lPure (i := 4) (some 40) (v := ?_) (by rfl) (by kernel_rfl) (by kernel_rfl) (by kernel_rfl) (by kernel_rfl) (fun _ _ _ h => h) (by rfl) ?_ (keep_of hH0) ?_
      rotate_left
      · intro w; simp only [List.getElem?_toArray, List.getElem?_cons_succ, List.getElem?_cons_zero, Option.map_some, Option.some.injEq]; (first | (go_simp; done) | (go_simp; with_reducible rfl))
      try simp only [Act.put, List.setIfInBounds_toArray, List.set_cons_zero, List.set_cons_succ]
      refine lPure (i := 5) (some 41) (v := ?_) (by rfl) (by kernel_rfl) (by kernel_rfl) (by kernel_rfl) (by kernel_rfl) (fun _ _ _ h => h) (by rfl) ?_ (keep_of hH0) ?_
      rotate_left
      · intro w; simp only [List.getElem?_toArray, List.getElem?_cons_succ, List.getElem?_cons_zero, Option.map_some, Option.some.injEq]; (first | (go_simp; done) | (go_simp; with_reducible rfl))
      try simp only [Act.put, List.setIfInBounds_toArray, List.set_cons_zero, List.set_cons_succ]
      refine lPure (i := 6) (some 42) (v := ?_) (by rfl) (by kernel_rfl) (by kernel_rfl) (by kernel_rfl) (by kernel_rfl) (fun _ _ _ h => h) (by rfl) ?_ (keep_of hH0) ?_
      rotate_left
      · intro w; simp only [List.getElem?_toArray, List.getElem?_cons_succ, List.getElem?_cons_zero, Option.map_some, Option.some.injEq]; (first | (go_simp; done) | (go_simp; with_reducible rfl))
      try simp only [Act.put, List.setIfInBounds_toArray, List.set_cons_zero, List.set_cons_succ]
      refine lPure (i := 7) (some 43) (v := ?_) (by rfl) (by kernel_rfl) (by kernel_rfl) (by kernel_rfl) (by kernel_rfl) (fun _ _ _ h => h) (by rfl) ?_ (keep_of hH0) ?_
      rotate_left
      · intro w; simp only [List.getElem?_toArray, List.getElem?_cons_succ, List.getElem?_cons_zero, Option.map_some, Option.some.injEq]; (first | (go_simp; done) | (go_simp; with_reducible rfl))
      try simp only [Act.put, List.setIfInBounds_toArray, List.set_cons_zero, List.set_cons_succ]
      refine lPureNo (i := 8) (some 44) (by rfl) (by kernel_rfl) (by kernel_rfl) (by kernel_rfl) (by kernel_rfl) (fun _ _ _ h => h) (by rfl) (keep_of hH0) ?_
      try simp only [Act.put, List.setIfInBounds_toArray, List.set_cons_zero, List.set_cons_succ]
      refine lPureNo (i := 9) (some 45) (by rfl) (by kernel_rfl) (by kernel_rfl) (by kernel_rfl) (by kernel_rfl) (fun _ _ _ h => h) (by rfl) (keep_of hH0) ?_
      try simp only [Act.put, List.setIfInBounds_toArray, List.set_cons_zero, List.set_cons_succ]
      refine lPureNo (i := 10) (some 46) (by rfl) (by kernel_rfl) (by kernel_rfl) (by kernel_rfl) (by kernel_rfl) (fun _ _ _ h => h) (by rfl) (keep_of hH0) ?_
      try simp only [Act.put, List.setIfInBounds_toArray, List.set_cons_zero, List.set_cons_succ]
      refine lPureNo (i := 11) (some 47) (by rfl) (by kernel_rfl) (by kernel_rfl) (by kernel_rfl) (by kernel_rfl) (fun _ _ _ h => h) (by rfl) (keep_of hH0) ?_
      try simp only [Act.put, List.setIfInBounds_toArray, List.set_cons_zero, List.set_cons_succ]
      refine lPureNo (i := 12) (some 48) (by rfl) (by kernel_rfl) (by kernel_rfl) (by kernel_rfl) (by kernel_rfl) (fun _ _ _ h => h) (by rfl) (keep_of hH0) ?_
      try simp only [Act.put, List.setIfInBounds_toArray, List.set_cons_zero, List.set_cons_succ]
      refine lPure (i := 13) (some 49) (v := ?_) (by rfl) (by kernel_rfl) (by kernel_rfl) (by kernel_rfl) (by kernel_rfl) (fun _ _ _ h => h) (by rfl) ?_ (keep_of hH0) ?_
      rotate_left
      · intro w; simp only [List.getElem?_toArray, List.getElem?_cons_succ, List.getElem?_cons_zero, Option.map_some, Option.some.injEq]; (first | (go_simp; done) | (go_simp; with_reducible rfl))
      try simp only [Act.put, List.setIfInBounds_toArray, List.set_cons_zero, List.set_cons_succ]
      refine lDone (by kernel_rfl) ?_
      clear hH0
      go_wp2_with fail
      go_ret2
      exact ⟨HB.out, .inr rfl⟩
  · obtain ⟨z, hz, hz0⟩ : ∃ z : Nat, (if s.size ≤ 65536 then 5 else 3 : Nat) = z ∧ z ≠ 0 := ⟨_, rfl, by split <;> omega⟩
    rw [hz]
    have hz1 : ((z : Int) != 0) = true := by simp; omega
    have HBW := Tre.hid (HM.out.quiet b3).below
    clear b3 HM hz hd
    go_wp2_with fail
    refine wp_region_keep (S := (fun _ => True)) [] (by kernel_rfl) ?_ (fun hH0 => ?_)
    · exact trivial
    have HB := Tre.hid HBW.out.drew
    generalize hq : World.drew _ = wq0 at HB hH0 ⊢
    clear hq HBW
    refine lPure (i := 0) (some 36) (v := ?_) (by rfl) (by kernel_rfl) (by kernel_rfl) (by kernel_rfl) (by kernel_rfl) (fun _ _ _ h => h) (by rfl) ?_ (keep_of hH0) ?_
    rotate_left
    · intro w; simp only [List.getElem?_toArray, List.getElem?_cons_zero, Option.map_some, Option.some.injEq]; (first | (go_simp; done) | (go_simp; with_reducible rfl))
    try simp only [Act.put, List.setIfInBounds_toArray, List.set_cons_zero, List.set_cons_succ]
    refine lPure (i := 1) (some 37) (v := ?_) (by rfl) (by kernel_rfl) (by kernel_rfl) (by kernel_rfl) (by kernel_rfl) (fun _ _ _ h => h) (by rfl) ?_ (keep_of hH0) ?_
    rotate_left
    · intro w; simp only [List.getElem?_toArray, List.getElem?_cons_succ, List.getElem?_cons_zero, Option.map_some, Option.some.injEq]; (first | (go_simp; done) | (go_simp; with_reducible rfl))
    try simp only [Act.put, List.setIfInBounds_toArray, List.set_cons_zero, List.set_cons_succ]
    refine lPure (i := 2) (some 38) (v := ?_) (by rfl) (by kernel_rfl) (by kernel_rfl) (by kernel_rfl) (by kernel_rfl) (fun _ _ _ h => h) (by rfl) ?_ (keep_of hH0) ?_
    rotate_left
    · intro w; simp only [List.getElem?_toArray, List.getElem?_cons_succ, List.getElem?_cons_zero, Option.map_some, Option.some.injEq]; (first | (go_simp; done) | (go_simp; with_reducible rfl))
    try simp only [Act.put, List.setIfInBounds_toArray, List.set_cons_zero, List.set_cons_succ]
    refine lPureNo (i := 3) (some 39) (by rfl) (by kernel_rfl) (by kernel_rfl) (by kernel_rfl) (by kernel_rfl) (fun _ _ _ h => h) (by rfl) (keep_of hH0) ?_
    try simp only [Act.put, List.setIfInBounds_toArray, List.set_cons_zero, List.set_cons_succ]
    refine lPureNo (i := 4) (some 40) (by rfl) (by kernel_rfl) (by kernel_rfl) (by kernel_rfl) (by kernel_rfl) (fun _ _ _ h => h) (by rfl) (keep_of hH0) ?_
    try simp only [Act.put, List.setIfInBounds_toArray, List.set_cons_zero, List.set_cons_succ]
    refine lPureNo (i := 5) (some 41) (by rfl) (by kernel_rfl) (by kernel_rfl) (by kernel_rfl) (by kernel_rfl) (fun _ _ _ h => h) (by rfl) (keep_of hH0) ?_
    try simp only [Act.put, List.setIfInBounds_toArray, List.set_cons_zero, List.set_cons_succ]
    refine lPure (i := 6) (some 42) (v := ?_) (by rfl) (by kernel_rfl) (by kernel_rfl) (by kernel_rfl) (by kernel_rfl) (fun _ _ _ h => h) (by rfl) ?_ (keep_of hH0) ?_
    rotate_left
    · intro w; simp only [List.getElem?_toArray, List.getElem?_cons_succ, List.getElem?_cons_zero, Option.map_some, Option.some.injEq]; (first | (go_simp; done) | (go_simp; with_reducible rfl))
    try simp only [Act.put, List.setIfInBounds_toArray, List.set_cons_zero, List.set_cons_succ]
    refine lPure (i := 7) (some 43) (v := ?_) (by rfl) (by kernel_rfl) (by kernel_rfl) (by kernel_rfl) (by kernel_rfl) (fun _ _ _ h => h) (by rfl) ?_ (keep_of hH0) ?_
    rotate_left
    · intro w; simp only [List.getElem?_toArray, List.getElem?_cons_succ, List.getElem?_cons_zero, Option.map_some, Option.some.injEq]; (first | (go_simp; done) | (go_simp; with_reducible rfl))
    try simp only [Act.put, List.setIfInBounds_toArray, List.set_cons_zero, List.set_cons_succ]
    refine lPureNo (i := 8) (some 44) (by rfl) (by kernel_rfl) (by kernel_rfl) (by kernel_rfl) (by kernel_rfl) (fun _ _ _ h => h) (by rfl) (keep_of hH0) ?_
    try simp only [Act.put, List.setIfInBounds_toArray, List.set_cons_zero, List.set_cons_succ]
    refine lPureNo (i := 9) (some 45) (by rfl) (by kernel_rfl) (by kernel_rfl) (by kernel_rfl) (by kernel_rfl) (fun _ _ _ h => h) (by rfl) (keep_of hH0) ?_
    try simp only [Act.put, List.setIfInBounds_toArray, List.set_cons_zero, List.set_cons_succ]
    refine lPureNo (i := 10) (some 46) (by rfl) (by kernel_rfl) (by kernel_rfl) (by kernel_rfl) (by kernel_rfl) (fun _ _ _ h => h) (by rfl) (keep_of hH0) ?_
    try simp only [Act.put, List.setIfInBounds_toArray, List.set_cons_zero, List.set_cons_succ]
    refine lPureNo (i := 11) (some 47) (by rfl) (by kernel_rfl) (by kernel_rfl) (by kernel_rfl) (by kernel_rfl) (fun _ _ _ h => h) (by rfl) (keep_of hH0) ?_
    try simp only [Act.put, List.setIfInBounds_toArray, List.set_cons_zero, List.set_cons_succ]
    refine lPureNo (i := 12) (some 48) (by rfl) (by kernel_rfl) (by kernel_rfl) (by kernel_rfl) (by kernel_rfl) (fun _ _ _ h => h) (by rfl) (keep_of hH0) ?_
    try simp only [Act.put, List.setIfInBounds_toArray, List.set_cons_zero, List.set_cons_succ]
    refine lPure (i := 13) (some 49) (v := ?_) (by rfl) (by kernel_rfl) (by kernel_rfl) (by kernel_rfl) (by kernel_rfl) (fun _ _ _ h => h) (by rfl) ?_ (keep_of hH0) ?_
    rotate_left
    · intro w; simp only [List.getElem?_toArray, List.getElem?_cons_succ, List.getElem?_cons_zero, Option.map_some, Option.some.injEq]; (first | (go_simp; done) | (go_simp; with_reducible rfl))
    try simp only [Act.put, List.setIfInBounds_toArray, List.set_cons_zero, List.set_cons_succ]
    refine lDone (by kernel_rfl) ?_
    clear hH0
    go_wp2_with fail
    go_ret2
    exact ⟨HB.out, .inr rfl⟩
set_option maxRecDepth 100000 in
set_option maxHeartbeats 4000000 in
theorem put_int (a n : Int) (s : ByteArray) (w : World) (h0 : -9223372036854775808 ≤ n) (h1 : n ≤ 9223372036854775807) (E : LexEnv w) (T : TabAt w) :
    Calls Tryz.prog 11 #[.agg (tokV 3 a n s)] w (PutPost 3 n s w) := by
  have HE := Tre.hid E
  have HT := Tre.hid T
  have HM0 := Tre.hid ((Mem.nil w).allocR (tokV 3 a n s) 29)
  have HXN := Tre.hid (Lib.itoa_length_le n h0 h1)
  clear E T
  go_enter Tryz.func11, Tryz.ntmps11
  go_wp2_with fail
  refine (Tryz.strconv_FormatInt_10 n h0 h1 _ (HT.out.below HM0.out.below)).mono ?_
  rintro e w1 ⟨rfl, kk, os, hw⟩
  have M1 := HM0.out.quiet (w' := w1) (by rw [hw]; exact below_grown _ _ _)
  have q1 := M1.cell 0 rfl 1 rfl
  have f1 := M1.free 0 rfl 1
  have HM : Hid (Mem w (w1.setCell ⟨w.heap.size, 1, none⟩ (.int .i64 0)) [cellsR w.heap.size 29 (tokV 3 0 n s)]) := M1.setCell 0 rfl 1 (.int .i64 0)
  have hxs : (⟨(Lib.itoa n).toArray⟩ : ByteArray).size ≤ 4194303 := by
    have := HXN.out
    show (Lib.itoa n).toArray.size ≤ _
    rw [List.size_toArray]; omega
  generalize (⟨(Lib.itoa n).toArray⟩ : ByteArray) = x at *
  clear hw M1 h0 h1
  go_wp2_with fail
  clear q1 f1
  -- THE TEXT IS x, ITS SIZE IS KNOWN (hxs); HM: the box
  have hx4 : x.size ≤ 4194304 := by omega
  refine (Lex x _ hx4 (HE.out.below HM.out.below)).mono ?_
  intro e w3 hp
  rcases hp with ⟨ts, v, hd, rfl, M3⟩ | ⟨hd, at_, rfl, b3⟩
  · have HD := Tre.hid hd
    have HM3 := Tre.hid (HM.out.call M3)
    clear M3 HM hd
    by_cases h2 : ts.length = 2
    · obtain ⟨t, rfl⟩ := lexS_two HD.out h2
      have HM4 : Hid (Mem w w3 [rowR 29 4 v 2 ([t, (⟨0, x.data.toList.length, 0, []⟩ : Tok)].flatMap tokCells), cellsR w.heap.size 29 (tokV 3 0 n s)]) := HM3.out
      clear HM3 h2
      obtain ⟨g, c, rfl, hg1, hg2⟩ := HM4.out.pos 0 rfl
      have y0 : w3.cell? ⟨g, 0, none⟩ = some (.int .i64 (t.kind : Int)) := HM4.out.cellAt 0 rfl 0 rfl
      have y1 : w3.cell? ⟨g, 1, none⟩ = some (.int .i64 (t.at_ : Int)) := HM4.out.cellAt 0 rfl 1 rfl
      have y2 : w3.cell? ⟨g, 2, none⟩ = some (.int .i64 t.n) := HM4.out.cellAt 0 rfl 2 rfl
      have y3 : w3.cell? ⟨g, 3, none⟩ = some (.string ⟨t.s.toArray⟩) := HM4.out.cellAt 0 rfl 3 rfl
      have k0 : w3.cell? ⟨w.heap.size, 0, none⟩ = some (.int .i64 3) := HM4.out.cell 1 rfl 0 rfl
      have k1 : w3.cell? ⟨w.heap.size, 1, none⟩ = some (.int .i64 0) := HM4.out.cell 1 rfl 1 rfl
      have k2 : w3.cell? ⟨w.heap.size, 2, none⟩ = some (.int .i64 n) := HM4.out.cell 1 rfl 2 rfl
      have k3 : w3.cell? ⟨w.heap.size, 3, none⟩ = some (.string s) := HM4.out.cell 1 rfl 3 rfl
      have HBW := Tre.hid HM4.out.below
      have heq := eqTok
      clear HM4 hg1 hg2
      go_wp2_with fail
      go_region_held3 (fun w' => w'.cell? ⟨g, 0, none⟩ = some (.int .i64 (t.kind : Int)) ∧ w'.cell? ⟨g, 1, none⟩ = some (.int .i64 (t.at_ : Int)) ∧ w'.cell? ⟨g, 2, none⟩ = some (.int .i64 t.n) ∧ w'.cell? ⟨g, 3, none⟩ = some (.string ⟨t.s.toArray⟩) ∧ w'.cell? ⟨w.heap.size, 0, none⟩ = some (.int .i64 3) ∧ w'.cell? ⟨w.heap.size, 1, none⟩ = some (.int .i64 0) ∧ w'.cell? ⟨w.heap.size, 2, none⟩ = some (.int .i64 n) ∧ w'.cell? ⟨w.heap.size, 3, none⟩ = some (.string s)) (go_keep) (fail)
      cases hte : tokEq t.kind t.at_ t.n ⟨t.s.toArray⟩ 3 0 n s
      · go_wp2_with fail
        go_ret2
        exact ⟨HBW.out.drew, .inr rfl⟩
      · go_wp2_with fail
        go_ret2
        exact ⟨HBW.out.drew, .inl (put_yes HD.out hte hxs)⟩
    · have h2i : ((ts.length : Int) != 2) = true := by simp; omega
      obtain ⟨va, vc, rfl, hvc⟩ := HM3.out.val 0 rfl
      have HBW := Tre.hid HM3.out.below
      clear HM3 HD
      go_wp2_with fail
      refine wp_region_keep (S := (fun _ => True)) [] (by kernel_rfl) ?_ (fun hH0 => ?_)
      · exact trivial
      have HB := Tre.hid HBW.out.drew
      generalize hq : World.drew _ = wq0 at HB hH0 ⊢
      clear hq HBW
      refine lPure (i := 0) (some 36) (v := ?_) (by rfl) (by kernel_rfl) (by kernel_rfl) (by kernel_rfl) (by kernel_rfl) (fun _ _ _ h => h) (by rfl) ?_ (keep_of hH0) ?_
      rotate_left
      · intro w; simp only [List.getElem?_toArray, List.getElem?_cons_zero, Option.map_some, Option.some.injEq]; (first | (go_simp; done) | (go_simp; with_reducible rfl))
      try simp only [Act.put, List.setIfInBounds_toArray, List.set_cons_zero, List.set_cons_succ]
      refine lPure (i := 1) (some 37) (v := ?_) (by rfl) (by kernel_rfl) (by kernel_rfl) (by kernel_rfl) (by kernel_rfl) (fun _ _ _ h => h) (by rfl) ?_ (keep_of hH0) ?_
      rotate_left
      · intro w; simp only [List.getElem?_toArray, List.getElem?_cons_succ, List.getElem?_cons_zero, Option.map_some, Option.some.injEq]; (first | (go_simp; done) | (go_simp; with_reducible rfl))
      try simp only [Act.put, List.setIfInBounds_toArray, List.set_cons_zero, List.set_cons_succ]
      refine lPure (i := 2) (some 38) (v := ?_) (by rfl) (by kernel_rfl) (by kernel_rfl) (by kernel_rfl) (by kernel_rfl) (fun _ _ _ h => h) (by rfl) ?_ (keep_of hH0) ?_
      rotate_left
      · intro w; simp only [List.getElem?_toArray, List.getElem?_cons_succ, List.getElem?_cons_zero, Option.map_some, Option.some.injEq]; (first | (go_simp; done) | (go_simp; with_reducible rfl))
      try simp only [Act.put, List.setIfInBounds_toArray, List.set_cons_zero, List.set_cons_succ]
      refine lPure (i := 3) (some 39) (v := ?_) (by rfl) (by kernel_rfl) (by kernel_rfl) (by kernel_rfl) (by kernel_rfl) (fun _ _ _ h => h) (by rfl) ?_ (keep_of hH0) ?_
      rotate_left
      · intro w; simp only [List.getElem?_toArray, List.getElem?_cons_succ, List.getElem?_cons_zero, Option.map_some, Option.some.injEq]; (first | (go_simp; done) | (go_simp; with_reducible rfl))
      try simp only [Act.put, List.setIfInBounds_toArray, List.set_cons_zero, List.set_cons_succ]
      refine lPure (i := 4) (some 40) (v := ?_) (by rfl) (by kernel_rfl) (by kernel_rfl) (by kernel_rfl) (by kernel_rfl) (fun _ _ _ h => h) (by rfl) ?_ (keep_of hH0) ?_
      rotate_left
      · intro w; simp only [List.getElem?_toArray, List.getElem?_cons_succ, List.getElem?_cons_zero, Option.map_some, Option.some.injEq]; (first | (go_simp; done) | (go_simp; with_reducible rfl))
      try simp only [Act.put, List.setIfInBounds_toArray, List.set_cons_zero, List.set_cons_succ]
      refine lPure (i := 5) (some 41) (v := ?_) (by rfl) (by kernel_rfl) (by kernel_rfl) (by kernel_rfl) (by kernel_rfl) (fun _ _ _ h => h) (by rfl) ?_ (keep_of hH0) ?_
      rotate_left
      · intro w; simp only [List.getElem?_toArray, List.getElem?_cons_succ, List.getElem?_cons_zero, Option.map_some, Option.some.injEq]; (first | (go_simp; done) | (go_simp; with_reducible rfl))
      try simp only [Act.put, List.setIfInBounds_toArray, List.set_cons_zero, List.set_cons_succ]
      refine lPure (i := 6) (some 42) (v := ?_) (by rfl) (by kernel_rfl) (by kernel_rfl) (by kernel_rfl) (by kernel_rfl) (fun _ _ _ h => h) (by rfl) ?_ (keep_of hH0) ?_
      rotate_left
      · intro w; simp only [List.getElem?_toArray, List.getElem?_cons_succ, List.getElem?_cons_zero, Option.map_some, Option.some.injEq]; (first | (go_simp; done) | (go_simp; with_reducible rfl))
      try simp only [Act.put, List.setIfInBounds_toArray, List.set_cons_zero, List.set_cons_succ]
      refine lPure (i := 7) (some 43) (v := ?_) (by rfl) (by kernel_rfl) (by kernel_rfl) (by kernel_rfl) (by kernel_rfl) (fun _ _ _ h => h) (by rfl) ?_ (keep_of hH0) ?_
      rotate_left
      · intro w; simp only [List.getElem?_toArray, List.getElem?_cons_succ, List.getElem?_cons_zero, Option.map_some, Option.some.injEq]; (first | (go_simp; done) | (go_simp; with_reducible rfl))
      try simp only [Act.put, List.setIfInBounds_toArray, List.set_cons_zero, List.set_cons_succ]
      refine lPureNo (i := 8) (some 44) (by rfl) (by kernel_rfl) (by kernel_rfl) (by kernel_rfl) (by kernel_rfl) (fun _ _ _ h => h) (by rfl) (keep_of hH0) ?_
      try simp only [Act.put, List.setIfInBounds_toArray, List.set_cons_zero, List.set_cons_succ]
      refine lPureNo (i := 9) (some 45) (by rfl) (by kernel_rfl) (by kernel_rfl) (by kernel_rfl) (by kernel_rfl) (fun _ _ _ h => h) (by rfl) (keep_of hH0) ?_
      try simp only [Act.put, List.setIfInBounds_toArray, List.set_cons_zero, List.set_cons_succ]
      refine lPureNo (i := 10) (some 46) (by rfl) (by kernel_rfl) (by kernel_rfl) (by kernel_rfl) (by kernel_rfl) (fun _ _ _ h => h) (by rfl) (keep_of hH0) ?_
      try simp only [Act.put, List.setIfInBounds_toArray, List.set_cons_zero, List.set_cons_succ]
      refine lPureNo (i := 11) (some 47) (by rfl) (by kernel_rfl) (by kernel_rfl) (by kernel_rfl) (by kernel_rfl) (fun _ _ _ h => h) (by rfl) (keep_of hH0) ?_
      try simp only [Act.put, List.setIfInBounds_toArray, List.set_cons_zero, List.set_cons_succ]
      refine lPureNo (i := 12) (some 48) (by rfl) (by kernel_rfl) (by kernel_rfl) (by kernel_rfl) (by kernel_rfl) (fun _ _ _ h => h) (by rfl) (keep_of hH0) ?_
      try simp only [Act.put, List.setIfInBounds_toArray, List.set_cons_zero, List.set_cons_succ]
      refine lPure (i := 13) (some 49) (v := ?_) (by rfl) (by kernel_rfl) (by kernel_rfl) (by kernel_rfl) (by kernel_rfl) (fun _ _ _ h => h) (by rfl) ?_ (keep_of hH0) ?_
      rotate_left
      · intro w; simp only [List.getElem?_toArray, List.getElem?_cons_succ, List.getElem?_cons_zero, Option.map_some, Option.some.injEq]; (first | (go_simp; done) | (go_simp; with_reducible rfl))
      try simp only [Act.put, List.setIfInBounds_toArray, List.set_cons_zero, List.set_cons_succ]
      refine lDone (by kernel_rfl) ?_
      clear hH0
      go_wp2_with fail
      go_ret2
      exact ⟨HB.out, .inr rfl⟩
  · obtain ⟨z, hz, hz0⟩ : ∃ z : Nat, (if x.size ≤ 65536 then 5 else 3 : Nat) = z ∧ z ≠ 0 := ⟨_, rfl, by split <;> omega⟩
    rw [hz]
    have hz1 : ((z : Int) != 0) = true := by simp; omega
    have HBW := Tre.hid (HM.out.quiet b3).below
    clear b3 HM hz hd
    go_wp2_with fail
    refine wp_region_keep (S := (fun _ => True)) [] (by kernel_rfl) ?_ (fun hH0 => ?_)
    · exact trivial
    have HB := Tre.hid HBW.out.drew
    generalize hq : World.drew _ = wq0 at HB hH0 ⊢
    clear hq HBW
    refine lPure (i := 0) (some 36) (v := ?_) (by rfl) (by kernel_rfl) (by kernel_rfl) (by kernel_rfl) (by kernel_rfl) (fun _ _ _ h => h) (by rfl) ?_ (keep_of hH0) ?_
    rotate_left
    · intro w; simp only [List.getElem?_toArray, List.getElem?_cons_zero, Option.map_some, Option.some.injEq]; (first | (go_simp; done) | (go_simp; with_reducible rfl))
    try simp only [Act.put, List.setIfInBounds_toArray, List.set_cons_zero, List.set_cons_succ]
    refine lPure (i := 1) (some 37) (v := ?_) (by rfl) (by kernel_rfl) (by kernel_rfl) (by kernel_rfl) (by kernel_rfl) (fun _ _ _ h => h) (by rfl) ?_ (keep_of hH0) ?_
    rotate_left
    · intro w; simp only [List.getElem?_toArray, List.getElem?_cons_succ, List.getElem?_cons_zero, Option.map_some, Option.some.injEq]; (first | (go_simp; done) | (go_simp; with_reducible rfl))
    try simp only [Act.put, List.setIfInBounds_toArray, List.set_cons_zero, List.set_cons_succ]
    refine lPure (i := 2) (some 38) (v := ?_) (by rfl) (by kernel_rfl) (by kernel_rfl) (by kernel_rfl) (by kernel_rfl) (fun _ _ _ h => h) (by rfl) ?_ (keep_of hH0) ?_
    rotate_left
    · intro w; simp only [List.getElem?_toArray, List.getElem?_cons_succ, List.getElem?_cons_zero, Option.map_some, Option.some.injEq]; (first | (go_simp; done) | (go_simp; with_reducible rfl))
    try simp only [Act.put, List.setIfInBounds_toArray, List.set_cons_zero, List.set_cons_succ]
    refine lPureNo (i := 3) (some 39) (by rfl) (by kernel_rfl) (by kernel_rfl) (by kernel_rfl) (by kernel_rfl) (fun _ _ _ h => h) (by rfl) (keep_of hH0) ?_
    try simp only [Act.put, List.setIfInBounds_toArray, List.set_cons_zero, List.set_cons_succ]
    refine lPureNo (i := 4) (some 40) (by rfl) (by kernel_rfl) (by kernel_rfl) (by kernel_rfl) (by kernel_rfl) (fun _ _ _ h => h) (by rfl) (keep_of hH0) ?_
    try simp only [Act.put, List.setIfInBounds_toArray, List.set_cons_zero, List.set_cons_succ]
    refine lPureNo (i := 5) (some 41) (by rfl) (by kernel_rfl) (by kernel_rfl) (by kernel_rfl) (by kernel_rfl) (fun _ _ _ h => h) (by rfl) (keep_of hH0) ?_
    try simp only [Act.put, List.setIfInBounds_toArray, List.set_cons_zero, List.set_cons_succ]
    refine lPure (i := 6) (some 42) (v := ?_) (by rfl) (by kernel_rfl) (by kernel_rfl) (by kernel_rfl) (by kernel_rfl) (fun _ _ _ h => h) (by rfl) ?_ (keep_of hH0) ?_
    rotate_left
    · intro w; simp only [List.getElem?_toArray, List.getElem?_cons_succ, List.getElem?_cons_zero, Option.map_some, Option.some.injEq]; (first | (go_simp; done) | (go_simp; with_reducible rfl))
    try simp only [Act.put, List.setIfInBounds_toArray, List.set_cons_zero, List.set_cons_succ]
    refine lPure (i := 7) (some 43) (v := ?_) (by rfl) (by kernel_rfl) (by kernel_rfl) (by kernel_rfl) (by kernel_rfl) (fun _ _ _ h => h) (by rfl) ?_ (keep_of hH0) ?_
    rotate_left
    · intro w; simp only [List.getElem?_toArray, List.getElem?_cons_succ, List.getElem?_cons_zero, Option.map_some, Option.some.injEq]; (first | (go_simp; done) | (go_simp; with_reducible rfl))
    try simp only [Act.put, List.setIfInBounds_toArray, List.set_cons_zero, List.set_cons_succ]
    refine lPureNo (i := 8) (some 44) (by rfl) (by kernel_rfl) (by kernel_rfl) (by kernel_rfl) (by kernel_rfl) (fun _ _ _ h => h) (by rfl) (keep_of hH0) ?_
    try simp only [Act.put, List.setIfInBounds_toArray, List.set_cons_zero, List.set_cons_succ]
    refine lPureNo (i := 9) (some 45) (by rfl) (by kernel_rfl) (by kernel_rfl) (by kernel_rfl) (by kernel_rfl) (fun _ _ _ h => h) (by rfl) (keep_of hH0) ?_
    try simp only [Act.put, List.setIfInBounds_toArray, List.set_cons_zero, List.set_cons_succ]
    refine lPureNo (i := 10) (some 46) (by rfl) (by kernel_rfl) (by kernel_rfl) (by kernel_rfl) (by kernel_rfl) (fun _ _ _ h => h) (by rfl) (keep_of hH0) ?_
    try simp only [Act.put, List.setIfInBounds_toArray, List.set_cons_zero, List.set_cons_succ]
    refine lPureNo (i := 11) (some 47) (by rfl) (by kernel_rfl) (by kernel_rfl) (by kernel_rfl) (by kernel_rfl) (fun _ _ _ h => h) (by rfl) (keep_of hH0) ?_
    try simp only [Act.put, List.setIfInBounds_toArray, List.set_cons_zero, List.set_cons_succ]
    refine lPureNo (i := 12) (some 48) (by rfl) (by kernel_rfl) (by kernel_rfl) (by kernel_rfl) (by kernel_rfl) (fun _ _ _ h => h) (by rfl) (keep_of hH0) ?_
    try simp only [Act.put, List.setIfInBounds_toArray, List.set_cons_zero, List.set_cons_succ]
    refine lPure (i := 13) (some 49) (v := ?_) (by rfl) (by kernel_rfl) (by kernel_rfl) (by kernel_rfl) (by kernel_rfl) (fun _ _ _ h => h) (by rfl) ?_ (keep_of hH0) ?_
    rotate_left
    · intro w; simp only [List.getElem?_toArray, List.getElem?_cons_succ, List.getElem?_cons_zero, Option.map_some, Option.some.injEq]; (first | (go_simp; done) | (go_simp; with_reducible rfl))
    try simp only [Act.put, List.setIfInBounds_toArray, List.set_cons_zero, List.set_cons_succ]
    refine lDone (by kernel_rfl) ?_
    clear hH0
    go_wp2_with fail
    go_ret2
    exact ⟨HB.out, .inr rfl⟩
set_option maxRecDepth 100000 in
set_option maxHeartbeats 4000000 in
theorem put_str (a n : Int) (s : ByteArray) (w : World) (hs : s.size ≤ 2097150) (E : LexEnv w) :
    Calls Tryz.prog 11 #[.agg (tokV 4 a n s)] w (PutPost 4 n s w) := by
  have HE := Tre.hid E
  have HM0 := Tre.hid ((Mem.nil w).allocR (tokV 4 a n s) 29)
  clear E
  go_enter Tryz.func11, Tryz.ntmps11
  go_wp2_with fail
  have MA := HM0.out.allocR sixL.toArray 9
  rw [show (w.alloc (.cells (tokV 4 a n s) 29)).heap.size = w.heap.size + 1 by simp] at MA
  have hc6 : ∀ j u, sixL[j]? = some u → ((w.alloc (.cells (tokV 4 a n s) 29)).alloc (.cells sixL.toArray 9)).cell? ⟨w.heap.size + 1, j, none⟩ = some u := fun j u hj => MA.cell 0 rfl j (by rw [List.getElem?_toArray]; exact hj)
  have HMA := Tre.hid MA
  clear MA HM0
  refine (newReplacer_any (w.heap.size + 1) 6 _ hc6).mono ?_
  rintro e w2 ⟨B, gO, cO, rfl, hne, hO, M2⟩
  clear hc6
  have HO := Tre.hid hO
  have HM2 := Tre.hid M2
  clear hO M2
  go_wp2_with fail
  refine (rplReplace_any B gO cO s _ w2 [] HM2.out HO.out hne (by omega)).mono ?_
  rintro e w3 ⟨s', rfl, hs', b3⟩
  have M3 := HMA.out.quiet b3
  have q1 := M3.cell 1 rfl 1 rfl
  have f1 := M3.free 1 rfl 1
  have HM : Hid (Mem w (w3.setCell ⟨w.heap.size, 1, none⟩ (.int .i64 0)) [cellsR w.heap.size 29 (tokV 4 0 n s)]) := (M3.setCell 1 rfl 1 (.int .i64 0)).del 0
  have hcat1 : ¬ (9223372036854775807 < 1 + s'.size) := by omega
  have hcat2 : ¬ (9223372036854775807 < 1 + s'.size + 1) := by omega
  have hxs : ((⟨#[34]⟩ ++ s' : ByteArray) ++ ⟨#[34]⟩ : ByteArray).size ≤ 4194303 := by
    rw [ByteArray.size_append, ByteArray.size_append]
    show 1 + s'.size + 1 ≤ _
    omega
  clear M3 b3 HM2 HO HMA
  go_wp2_with fail
  generalize ((⟨#[34]⟩ ++ s' : ByteArray) ++ ⟨#[34]⟩ : ByteArray) = x at *
  clear q1 f1 hcat1 hcat2 hs'
  -- THE TEXT IS x, ITS SIZE IS KNOWN (hxs); HM: the box
  have hx4 : x.size ≤ 4194304 := by omega
  refine (Lex x _ hx4 (HE.out.below HM.out.below)).mono ?_
  intro e w3 hp
  rcases hp with ⟨ts, v, hd, rfl, M3⟩ | ⟨hd, at_, rfl, b3⟩
  · have HD := Tre.hid hd
    have HM3 := Tre.hid (HM.out.call M3)
    clear M3 HM hd
    by_cases h2 : ts.length = 2
    · obtain ⟨t, rfl⟩ := lexS_two HD.out h2
      have HM4 : Hid (Mem w w3 [rowR 29 4 v 2 ([t, (⟨0, x.data.toList.length, 0, []⟩ : Tok)].flatMap tokCells), cellsR w.heap.size 29 (tokV 4 0 n s)]) := HM3.out
      clear HM3 h2
      obtain ⟨g, c, rfl, hg1, hg2⟩ := HM4.out.pos 0 rfl
      have y0 : w3.cell? ⟨g, 0, none⟩ = some (.int .i64 (t.kind : Int)) := HM4.out.cellAt 0 rfl 0 rfl
      have y1 : w3.cell? ⟨g, 1, none⟩ = some (.int .i64 (t.at_ : Int)) := HM4.out.cellAt 0 rfl 1 rfl
      have y2 : w3.cell? ⟨g, 2, none⟩ = some (.int .i64 t.n) := HM4.out.cellAt 0 rfl 2 rfl
      have y3 : w3.cell? ⟨g, 3, none⟩ = some (.string ⟨t.s.toArray⟩) := HM4.out.cellAt 0 rfl 3 rfl
      have k0 : w3.cell? ⟨w.heap.size, 0, none⟩ = some (.int .i64 4) := HM4.out.cell 1 rfl 0 rfl
      have k1 : w3.cell? ⟨w.heap.size, 1, none⟩ = some (.int .i64 0) := HM4.out.cell 1 rfl 1 rfl
      have k2 : w3.cell? ⟨w.heap.size, 2, none⟩ = some (.int .i64 n) := HM4.out.cell 1 rfl 2 rfl
      have k3 : w3.cell? ⟨w.heap.size, 3, none⟩ = some (.string s) := HM4.out.cell 1 rfl 3 rfl
      have HBW := Tre.hid HM4.out.below
      have heq := eqTok
      clear HM4 hg1 hg2
      go_wp2_with fail
      go_region_held3 (fun w' => w'.cell? ⟨g, 0, none⟩ = some (.int .i64 (t.kind : Int)) ∧ w'.cell? ⟨g, 1, none⟩ = some (.int .i64 (t.at_ : Int)) ∧ w'.cell? ⟨g, 2, none⟩ = some (.int .i64 t.n) ∧ w'.cell? ⟨g, 3, none⟩ = some (.string ⟨t.s.toArray⟩) ∧ w'.cell? ⟨w.heap.size, 0, none⟩ = some (.int .i64 4) ∧ w'.cell? ⟨w.heap.size, 1, none⟩ = some (.int .i64 0) ∧ w'.cell? ⟨w.heap.size, 2, none⟩ = some (.int .i64 n) ∧ w'.cell? ⟨w.heap.size, 3, none⟩ = some (.string s)) (go_keep) (fail)
      cases hte : tokEq t.kind t.at_ t.n ⟨t.s.toArray⟩ 4 0 n s
      · go_wp2_with fail
        go_ret2
        exact ⟨HBW.out.drew, .inr rfl⟩
      · go_wp2_with fail
        go_ret2
        exact ⟨HBW.out.drew, .inl (put_yes HD.out hte hxs)⟩
    · have h2i : ((ts.length : Int) != 2) = true := by simp; omega
      obtain ⟨va, vc, rfl, hvc⟩ := HM3.out.val 0 rfl
      have HBW := Tre.hid HM3.out.below
      clear HM3 HD
      go_wp2_with fail
      refine wp_region_keep (S := (fun _ => True)) [] (by kernel_rfl) ?_ (fun hH0 => ?_)
      · exact trivial
      have HB := Tre.hid HBW.out.drew
      generalize hq : World.drew _ = wq0 at HB hH0 ⊢
      clear hq HBW
      refine lPure (i := 0) (some 36) (v := ?_) (by rfl) (by kernel_rfl) (by kernel_rfl) (by kernel_rfl) (by kernel_rfl) (fun _ _ _ h => h) (by rfl) ?_ (keep_of hH0) ?_
      rotate_left
      · intro w; simp only [List.getElem?_toArray, List.getElem?_cons_zero, Option.map_some, Option.some.injEq]; (first | (go_simp; done) | (go_simp; with_reducible rfl))
      try simp only [Act.put, List.setIfInBounds_toArray, List.set_cons_zero, List.set_cons_succ]
      refine lPure (i := 1) (some 37) (v := ?_) (by rfl) (by kernel_rfl) (by kernel_rfl) (by kernel_rfl) (by kernel_rfl) (fun _ _ _ h => h) (by rfl) ?_ (keep_of hH0) ?_
      rotate_left
      · intro w; simp only [List.getElem?_toArray, List.getElem?_cons_succ, List.getElem?_cons_zero, Option.map_some, Option.some.injEq]; (first | (go_simp; done) | (go_simp; with_reducible rfl))
      try simp only [Act.put, List.setIfInBounds_toArray, List.set_cons_zero, List.set_cons_succ]
      refine lPure (i := 2) (some 38) (v := ?_) (by rfl) (by kernel_rfl) (by kernel_rfl) (by kernel_rfl) (by kernel_rfl) (fun _ _ _ h => h) (by rfl) ?_ (keep_of hH0) ?_
      rotate_left
      · intro w; simp only [List.getElem?_toArray, List.getElem?_cons_succ, List.getElem?_cons_zero, Option.map_some, Option.some.injEq]; (first | (go_simp; done) | (go_simp; with_reducible rfl))
      try simp only [Act.put, List.setIfInBounds_toArray, List.set_cons_zero, List.set_cons_succ]
      refine lPure (i := 3) (some 39) (v := ?_) (by rfl) (by kernel_rfl) (by kernel_rfl) (by kernel_rfl) (by kernel_rfl) (fun _ _ _ h => h) (by rfl) ?_ (keep_of hH0) ?_
      rotate_left
      · intro w; simp only [List.getElem?_toArray, List.getElem?_cons_succ, List.getElem?_cons_zero, Option.map_some, Option.some.injEq]; (first | (go_simp; done) | (go_simp; with_reducible rfl))
      try simp only [Act.put, List.setIfInBounds_toArray, List.set_cons_zero, List.set_cons_succ]
      refine lPure (i := 4) (some 40) (v := ?_) (by rfl) (by kernel_rfl) (by kernel_rfl) (by kernel_rfl) (by kernel_rfl) (fun _ _ _ h => h) (by rfl) ?_ (keep_of hH0) ?_
      rotate_left
      · intro w; simp only [List.getElem?_toArray, List.getElem?_cons_succ, List.getElem?_cons_zero, Option.map_some, Option.some.injEq]; (first | (go_simp; done) | (go_simp; with_reducible rfl))
      try simp only [Act.put, List.setIfInBounds_toArray, List.set_cons_zero, List.set_cons_succ]
      refine lPure (i := 5) (some 41) (v := ?_) (by rfl) (by kernel_rfl) (by kernel_rfl) (by kernel_rfl) (by kernel_rfl) (fun _ _ _ h => h) (by rfl) ?_ (keep_of hH0) ?_
      rotate_left
      · intro w; simp only [List.getElem?_toArray, List.getElem?_cons_succ, List.getElem?_cons_zero, Option.map_some, Option.some.injEq]; (first | (go_simp; done) | (go_simp; with_reducible rfl))
      try simp only [Act.put, List.setIfInBounds_toArray, List.set_cons_zero, List.set_cons_succ]
      refine lPure (i := 6) (some 42) (v := ?_) (by rfl) (by kernel_rfl) (by kernel_rfl) (by kernel_rfl) (by kernel_rfl) (fun _ _ _ h => h) (by rfl) ?_ (keep_of hH0) ?_
      rotate_left
      · intro w; simp only [List.getElem?_toArray, List.getElem?_cons_succ, List.getElem?_cons_zero, Option.map_some, Option.some.injEq]; (first | (go_simp; done) | (go_simp; with_reducible rfl))
      try simp only [Act.put, List.setIfInBounds_toArray, List.set_cons_zero, List.set_cons_succ]
      refine lPure (i := 7) (some 43) (v := ?_) (by rfl) (by kernel_rfl) (by kernel_rfl) (by kernel_rfl) (by kernel_rfl) (fun _ _ _ h => h) (by rfl) ?_ (keep_of hH0) ?_
      rotate_left
      · intro w; simp only [List.getElem?_toArray, List.getElem?_cons_succ, List.getElem?_cons_zero, Option.map_some, Option.some.injEq]; (first | (go_simp; done) | (go_simp; with_reducible rfl))
      try simp only [Act.put, List.setIfInBounds_toArray, List.set_cons_zero, List.set_cons_succ]
      refine lPureNo (i := 8) (some 44) (by rfl) (by kernel_rfl) (by kernel_rfl) (by kernel_rfl) (by kernel_rfl) (fun _ _ _ h => h) (by rfl) (keep_of hH0) ?_
      try simp only [Act.put, List.setIfInBounds_toArray, List.set_cons_zero, List.set_cons_succ]
      refine lPureNo (i := 9) (some 45) (by rfl) (by kernel_rfl) (by kernel_rfl) (by kernel_rfl) (by kernel_rfl) (fun _ _ _ h => h) (by rfl) (keep_of hH0) ?_
      try simp only [Act.put, List.setIfInBounds_toArray, List.set_cons_zero, List.set_cons_succ]
      refine lPureNo (i := 10) (some 46) (by rfl) (by kernel_rfl) (by kernel_rfl) (by kernel_rfl) (by kernel_rfl) (fun _ _ _ h => h) (by rfl) (keep_of hH0) ?_
      try simp only [Act.put, List.setIfInBounds_toArray, List.set_cons_zero, List.set_cons_succ]
      refine lPureNo (i := 11) (some 47) (by rfl) (by kernel_rfl) (by kernel_rfl) (by kernel_rfl) (by kernel_rfl) (fun _ _ _ h => h) (by rfl) (keep_of hH0) ?_
      try simp only [Act.put, List.setIfInBounds_toArray, List.set_cons_zero, List.set_cons_succ]
      refine lPureNo (i := 12) (some 48) (by rfl) (by kernel_rfl) (by kernel_rfl) (by kernel_rfl) (by kernel_rfl) (fun _ _ _ h => h) (by rfl) (keep_of hH0) ?_
      try simp only [Act.put, List.setIfInBounds_toArray, List.set_cons_zero, List.set_cons_succ]
      refine lPure (i := 13) (some 49) (v := ?_) (by rfl) (by kernel_rfl) (by kernel_rfl) (by kernel_rfl) (by kernel_rfl) (fun _ _ _ h => h) (by rfl) ?_ (keep_of hH0) ?_
      rotate_left
      · intro w; simp only [List.getElem?_toArray, List.getElem?_cons_succ, List.getElem?_cons_zero, Option.map_some, Option.some.injEq]; (first | (go_simp; done) | (go_simp; with_reducible rfl))
      try simp only [Act.put, List.setIfInBounds_toArray, List.set_cons_zero, List.set_cons_succ]
      refine lDone (by kernel_rfl) ?_
      clear hH0
      go_wp2_with fail
      go_ret2
      exact ⟨HB.out, .inr rfl⟩
  · obtain ⟨z, hz, hz0⟩ : ∃ z : Nat, (if x.size ≤ 65536 then 5 else 3 : Nat) = z ∧ z ≠ 0 := ⟨_, rfl, by split <;> omega⟩
    rw [hz]
    have hz1 : ((z : Int) != 0) = true := by simp; omega
    have HBW := Tre.hid (HM.out.quiet b3).below
    clear b3 HM hz hd
    go_wp2_with fail
    refine wp_region_keep (S := (fun _ => True)) [] (by kernel_rfl) ?_ (fun hH0 => ?_)
    · exact trivial
    have HB := Tre.hid HBW.out.drew
    generalize hq : World.drew _ = wq0 at HB hH0 ⊢
    clear hq HBW
    refine lPure (i := 0) (some 36) (v := ?_) (by rfl) (by kernel_rfl) (by kernel_rfl) (by kernel_rfl) (by kernel_rfl) (fun _ _ _ h => h) (by rfl) ?_ (keep_of hH0) ?_
    rotate_left
    · intro w; simp only [List.getElem?_toArray, List.getElem?_cons_zero, Option.map_some, Option.some.injEq]; (first | (go_simp; done) | (go_simp; with_reducible rfl))
    try simp only [Act.put, List.setIfInBounds_toArray, List.set_cons_zero, List.set_cons_succ]
    refine lPure (i := 1) (some 37) (v := ?_) (by rfl) (by kernel_rfl) (by kernel_rfl) (by kernel_rfl) (by kernel_rfl) (fun _ _ _ h => h) (by rfl) ?_ (keep_of hH0) ?_
    rotate_left
    · intro w; simp only [List.getElem?_toArray, List.getElem?_cons_succ, List.getElem?_cons_zero, Option.map_some, Option.some.injEq]; (first | (go_simp; done) | (go_simp; with_reducible rfl))
    try simp only [Act.put, List.setIfInBounds_toArray, List.set_cons_zero, List.set_cons_succ]
    refine lPure (i := 2) (some 38) (v := ?_) (by rfl) (by kernel_rfl) (by kernel_rfl) (by kernel_rfl) (by kernel_rfl) (fun _ _ _ h => h) (by rfl) ?_ (keep_of hH0) ?_
    rotate_left
    · intro w; simp only [List.getElem?_toArray, List.getElem?_cons_succ, List.getElem?_cons_zero, Option.map_some, Option.some.injEq]; (first | (go_simp; done) | (go_simp; with_reducible rfl))
    try simp only [Act.put, List.setIfInBounds_toArray, List.set_cons_zero, List.set_cons_succ]
    refine lPureNo (i := 3) (some 39) (by rfl) (by kernel_rfl) (by kernel_rfl) (by kernel_rfl) (by kernel_rfl) (fun _ _ _ h => h) (by rfl) (keep_of hH0) ?_
    try simp only [Act.put, List.setIfInBounds_toArray, List.set_cons_zero, List.set_cons_succ]
    refine lPureNo (i := 4) (some 40) (by rfl) (by kernel_rfl) (by kernel_rfl) (by kernel_rfl) (by kernel_rfl) (fun _ _ _ h => h) (by rfl) (keep_of hH0) ?_
    try simp only [Act.put, List.setIfInBounds_toArray, List.set_cons_zero, List.set_cons_succ]
    refine lPureNo (i := 5) (some 41) (by rfl) (by kernel_rfl) (by kernel_rfl) (by kernel_rfl) (by kernel_rfl) (fun _ _ _ h => h) (by rfl) (keep_of hH0) ?_
    try simp only [Act.put, List.setIfInBounds_toArray, List.set_cons_zero, List.set_cons_succ]
    refine lPure (i := 6) (some 42) (v := ?_) (by rfl) (by kernel_rfl) (by kernel_rfl) (by kernel_rfl) (by kernel_rfl) (fun _ _ _ h => h) (by rfl) ?_ (keep_of hH0) ?_
    rotate_left
    · intro w; simp only [List.getElem?_toArray, List.getElem?_cons_succ, List.getElem?_cons_zero, Option.map_some, Option.some.injEq]; (first | (go_simp; done) | (go_simp; with_reducible rfl))
    try simp only [Act.put, List.setIfInBounds_toArray, List.set_cons_zero, List.set_cons_succ]
    refine lPure (i := 7) (some 43) (v := ?_) (by rfl) (by kernel_rfl) (by kernel_rfl) (by kernel_rfl) (by kernel_rfl) (fun _ _ _ h => h) (by rfl) ?_ (keep_of hH0) ?_
    rotate_left
    · intro w; simp only [List.getElem?_toArray, List.getElem?_cons_succ, List.getElem?_cons_zero, Option.map_some, Option.some.injEq]; (first | (go_simp; done) | (go_simp; with_reducible rfl))
    try simp only [Act.put, List.setIfInBounds_toArray, List.set_cons_zero, List.set_cons_succ]
    refine lPureNo (i := 8) (some 44) (by rfl) (by kernel_rfl) (by kernel_rfl) (by kernel_rfl) (by kernel_rfl) (fun _ _ _ h => h) (by rfl) (keep_of hH0) ?_
    try simp only [Act.put, List.setIfInBounds_toArray, List.set_cons_zero, List.set_cons_succ]
    refine lPureNo (i := 9) (some 45) (by rfl) (by kernel_rfl) (by kernel_rfl) (by kernel_rfl) (by kernel_rfl) (fun _ _ _ h => h) (by rfl) (keep_of hH0) ?_
    try simp only [Act.put, List.setIfInBounds_toArray, List.set_cons_zero, List.set_cons_succ]
    refine lPureNo (i := 10) (some 46) (by rfl) (by kernel_rfl) (by kernel_rfl) (by kernel_rfl) (by kernel_rfl) (fun _ _ _ h => h) (by rfl) (keep_of hH0) ?_
    try simp only [Act.put, List.setIfInBounds_toArray, List.set_cons_zero, List.set_cons_succ]
    refine lPureNo (i := 11) (some 47) (by rfl) (by kernel_rfl) (by kernel_rfl) (by kernel_rfl) (by kernel_rfl) (fun _ _ _ h => h) (by rfl) (keep_of hH0) ?_
    try simp only [Act.put, List.setIfInBounds_toArray, List.set_cons_zero, List.set_cons_succ]
    refine lPureNo (i := 12) (some 48) (by rfl) (by kernel_rfl) (by kernel_rfl) (by kernel_rfl) (by kernel_rfl) (fun _ _ _ h => h) (by rfl) (keep_of hH0) ?_
    try simp only [Act.put, List.setIfInBounds_toArray, List.set_cons_zero, List.set_cons_succ]
    refine lPure (i := 13) (some 49) (v := ?_) (by rfl) (by kernel_rfl) (by kernel_rfl) (by kernel_rfl) (by kernel_rfl) (fun _ _ _ h => h) (by rfl) ?_ (keep_of hH0) ?_
    rotate_left
    · intro w; simp only [List.getElem?_toArray, List.getElem?_cons_succ, List.getElem?_cons_zero, Option.map_some, Option.some.injEq]; (first | (go_simp; done) | (go_simp; with_reducible rfl))
    try simp only [Act.put, List.setIfInBounds_toArray, List.set_cons_zero, List.set_cons_succ]
    refine lDone (by kernel_rfl) ?_
    clear hH0
    go_wp2_with fail
    go_ret2
    exact ⟨HB.out, .inr rfl⟩
theorem put_any (k a n : Int) (s : ByteArray) (w : World) (hs : s.size ≤ 2097150) (h0 : -9223372036854775808 ≤ n) (h1 : n ≤ 9223372036854775807) (E : LexEnv w) (T : TabAt w) :
    Calls Tryz.prog 11 #[.agg (tokV k a n s)] w (PutPost k n s w) := by
  by_cases h5 : k = 5
  · subst h5; exact put_tick a n s w hs E
  · by_cases h3 : k = 3
    · subst h3; exact put_int a n s w h0 h1 E T
    · by_cases h4 : k = 4
      · subst h4; exact put_str a n s w hs E
      · exact put_else k a n s w hs E h5 h3 h4
end Go.Proofs.YtejajdebpibocaaGreatDoor.lex
