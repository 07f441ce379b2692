/- The walk of ValueBack: whatever the two numbers, it answers true, and nothing that was there is written. -/
import Derived.Test.YthkababkoaimoaaRVb
namespace Go.Proofs.YthkababkoaimoaaR.vback
open Go.RowKit Go.Maps Go.Tre vb

theorem ret_bool {x : Bool} (h : x = true) : Ending.returned (.bool x) = .returned (.bool true) := by rw [h]

set_option maxHeartbeats 800000 in
theorem by0 (a s : Int) (w : World) (hs : Hid (wrap64 (a + 0) = s)) (hd : Hid (wrap64 (s - 0) = a)) :
    Calls Try.prog 3 #[.int .i64 a, .int .i64 0] w fun e w' => e = .returned (.bool true) ∧ Below w.heap.size w w' := by
  go_enter Try.func3, Try.ntmps3
  go_wp2_with fail
  refine (alive _).mono ?_
  rintro e w1 ⟨rfl, b1⟩
  go_wp2_with fail
  refine (plus' a 0 s _ hs.out).mono ?_
  rintro e w2 ⟨rfl, b2⟩
  go_wp2_with fail
  refine (minus' s 0 a _ hd.out).mono ?_
  rintro e w3 ⟨rfl, b3⟩
  go_wp2_with fail
  refine (num.zero a _).mono ?_
  rintro e w4 ⟨rfl, b4⟩
  go_wp2_with fail
  go_ret
  exact ⟨rfl, b1.trans ((b2.mono b1.size).trans ((b3.mono (Nat.le_trans b1.size b2.size)).trans (b4.mono (Nat.le_trans b1.size (Nat.le_trans b2.size b3.size)))))⟩

/-- what the last test asks, of a b that is the least of all -/
def EndsLeast (a b q r : Int) : Prop := b = -9223372036854775808 ∧ ((q = 0 ∧ r = a) ∨ (a = b ∧ q = 1 ∧ r = 0))

set_option maxHeartbeats 1600000 in
theorem least1 (a s p : Int) (w : World) (hs : Hid (wrap64 (a + -9223372036854775808) = s)) (hd : Hid (wrap64 (s - -9223372036854775808) = a))
    (hq : Hid (wrap64 (a.tdiv (-9223372036854775808)) = 0)) (hp : Hid (wrap64 (0 * -9223372036854775808) = p)) (hr : Hid (wrap64 (a - p) = a)) :
    Calls Try.prog 3 #[.int .i64 a, .int .i64 (-9223372036854775808)] w fun e w' => e = .returned (.bool true) ∧ Below w.heap.size w w' := by
  go_enter Try.func3, Try.ntmps3
  go_wp2_with fail
  refine (alive _).mono ?_
  rintro e w1 ⟨rfl, b1⟩
  go_wp2_with fail
  refine (plus' a _ s _ hs.out).mono ?_
  rintro e w2 ⟨rfl, b2⟩
  go_wp2_with fail
  refine (minus' s _ a _ hd.out).mono ?_
  rintro e w3 ⟨rfl, b3⟩
  go_wp2_with fail
  refine (quo' a _ 0 _ (by decide) hq.out).mono ?_
  rintro e w4 ⟨rfl, b4⟩
  go_wp2_with fail
  refine (times' 0 _ p _ hp.out).mono ?_
  rintro e w5 ⟨rfl, b5⟩
  go_wp2_with fail
  refine (minus' a p a _ hr.out).mono ?_
  rintro e w6 ⟨rfl, b6⟩
  have bb : Below w.heap.size w w6 := by
    have h2 := b2.mono b1.size
    have t2 := b1.trans h2
    have t3 := t2.trans (b3.mono t2.size)
    have t4 := t3.trans (b4.mono t3.size)
    have t5 := t4.trans (b5.mono t4.size)
    exact t5.trans (b6.mono t5.size)
  clear b1 b2 b3 b4 b5 b6
  go_wp2_with fail
  go_ret
  exact ⟨rfl, bb⟩

set_option maxHeartbeats 1600000 in
theorem least2 (m : Int) (w : World) (e0 : (m == 0) = false) (e1 : (m == -9223372036854775808) = true) (hs : Hid (wrap64 (m + m) = 0)) (hd : Hid (wrap64 (0 - m) = m)) (hq : Hid (wrap64 (m.tdiv m) = 1)) (hp : Hid (wrap64 (1 * m) = m)) (hr : Hid (wrap64 (m - m) = 0)) :
    Calls Try.prog 3 #[.int .i64 m, .int .i64 m] w fun e w' => e = .returned (.bool true) ∧ Below w.heap.size w w' := by
  go_enter Try.func3, Try.ntmps3
  go_wp2_with fail
  refine (alive _).mono ?_
  rintro e w1 ⟨rfl, b1⟩
  go_wp2_with fail
  refine (plus' m m 0 _ hs.out).mono ?_
  rintro e w2 ⟨rfl, b2⟩
  go_wp2_with fail
  refine (minus' 0 m m _ hd.out).mono ?_
  rintro e w3 ⟨rfl, b3⟩
  go_wp2_with fail
  refine (quo' m m 1 _ (by simpa using e0) hq.out).mono ?_
  rintro e w4 ⟨rfl, b4⟩
  go_wp2_with fail
  refine (times' 1 m m _ hp.out).mono ?_
  rintro e w5 ⟨rfl, b5⟩
  go_wp2_with fail
  refine (minus' m m 0 _ hr.out).mono ?_
  rintro e w6 ⟨rfl, b6⟩
  have bb : Below w.heap.size w w6 := by
    have h2 := b2.mono b1.size
    have t2 := b1.trans h2
    have t3 := t2.trans (b3.mono t2.size)
    have t4 := t3.trans (b4.mono t3.size)
    have t5 := t4.trans (b5.mono t4.size)
    exact t5.trans (b6.mono t5.size)
  clear b1 b2 b3 b4 b5 b6
  go_wp2_with fail
  go_ret
  exact ⟨rfl, bb⟩

set_option maxHeartbeats 3200000 in
theorem other (a b s q p r : Int) (w : World) (h0 : Hid (b ≠ 0)) (hl : -9223372036854775808 < b) (hh : b ≤ 9223372036854775807) (hs : Hid (wrap64 (a + b) = s)) (hd : Hid (wrap64 (s - b) = a))
    (hq : Hid (wrap64 (a.tdiv b) = q)) (hp : Hid (wrap64 (q * b) = p)) (hr : Hid (wrap64 (a - p) = r)) (hab : (0 < b ∧ -b < r ∧ r < b) ∨ (b < 0 ∧ b < r ∧ r < -b)) (hsg : r = 0 ∨ (r < 0 ∧ a < 0) ∨ (0 < r ∧ 0 ≤ a)) :
    Calls Try.prog 3 #[.int .i64 a, .int .i64 b] w fun e w' => e = .returned (.bool true) ∧ Below w.heap.size w w' := by
  go_enter Try.func3, Try.ntmps3
  go_wp2_with fail
  refine (alive _).mono ?_
  rintro e w1 ⟨rfl, b1⟩
  go_wp2_with fail
  refine (plus' a b s _ hs.out).mono ?_
  rintro e w2 ⟨rfl, b2⟩
  go_wp2_with fail
  refine (minus' s b a _ hd.out).mono ?_
  rintro e w3 ⟨rfl, b3⟩
  go_wp2_with fail
  refine (quo' a b q _ h0.out hq.out).mono ?_
  rintro e w4 ⟨rfl, b4⟩
  have e0 : (b == 0) = false := by simpa using h0.out
  go_wp2_with fail
  refine (times' q b p _ hp.out).mono ?_
  rintro e w5 ⟨rfl, b5⟩
  go_wp2_with fail
  refine (minus' a p r _ hr.out).mono ?_
  rintro e w6 ⟨rfl, b6⟩
  have bb : Below w.heap.size w w6 := by
    have h2 := b2.mono b1.size
    have t2 := b1.trans h2
    have t3 := t2.trans (b3.mono t2.size)
    have t4 := t3.trans (b4.mono t3.size)
    have t5 := t4.trans (b5.mono t4.size)
    exact t5.trans (b6.mono t5.size)
  clear b1 b2 b3 b4 b5 b6 hs hd hq hp hr
  have e1 : (b == -9223372036854775808) = false := by simp; omega
  have e2 : wrap64 (-b) = -b := wrap64_of (by omega) (by omega)
  have e3 : wrap64 (- -b) = b := by rw [Int.neg_neg]; exact wrap64_of (by omega) (by omega)
  have hfin : Hid ((r == 0 || decide (r < 0) == decide (a < 0)) = true) := by
    rcases hsg with rfl | ⟨d1, d2⟩ | ⟨d1, d2⟩
    · simp [Hid]
    · simp [Hid, d1, d2]
    · have h1 : ¬ r < 0 := by omega
      have h2 : ¬ a < 0 := by omega
      simp [Hid, h1, h2]
  rcases hab with ⟨c1, c2, c3⟩ | ⟨c1, c2, c3⟩ <;> rcases hsg with rfl | ⟨d1, d2⟩ | ⟨d1, d2⟩
  all_goals
    go_wp2_with fail
    go_ret
    first | exact ⟨rfl, bb⟩ | exact ⟨ret_bool hfin.out, bb⟩

theorem walk (a b : Int) (wa : (Lit.int .i64 a).wf = true) (wb : (Lit.int .i64 b).wf = true) (w : World) :
    Calls Try.prog 3 #[.int .i64 a, .int .i64 b] w fun e w' => e = .returned (.bool true) ∧ Below w.heap.size w w' := by
  have ha : -9223372036854775808 ≤ a ∧ a ≤ 9223372036854775807 := by simpa [Lit.wf, IntKind.min, IntKind.max, IntKind.signed, IntKind.bits] using wa
  have hb : -9223372036854775808 ≤ b ∧ b ≤ 9223372036854775807 := by simpa [Lit.wf, IntKind.min, IntKind.max, IntKind.signed, IntKind.bits] using wb
  have hd := back a b ha.1 ha.2
  by_cases h0 : b = 0
  · subst h0
    exact by0 a _ w rfl hd
  · by_cases hl : b = -9223372036854775808
    · by_cases hab : a = -9223372036854775808
      · subst hl
        subst hab
        exact least2 _ w (by decide) (by decide) (by decide +kernel : wrap64 _ = _) (by decide +kernel : wrap64 _ = _) (by decide +kernel : wrap64 _ = _) (by decide +kernel : wrap64 _ = _) (by decide +kernel : wrap64 _ = _)
      · subst hl
        have hq : wrap64 (a.tdiv (-9223372036854775808)) = 0 := by rw [tdiv_least a ha.1 ha.2 hab]; decide +kernel
        exact least1 a _ 0 w rfl hd hq (by rw [Int.zero_mul]; decide +kernel : wrap64 _ = _) (by rw [Int.sub_zero]; exact wrap64_of ha.1 ha.2 : wrap64 _ = _)
    · have hm := tmod_range a b h0
      have hs := tmod_sign a b
      have hr : wrap64 (a - wrap64 (wrap64 (a.tdiv b) * b)) = a.tmod b := by
        rw [rest_eq]
        rcases Int.lt_or_gt_of_ne h0 with c | c
        · have := hm.2 c; exact wrap64_of (by omega) (by omega)
        · have := hm.1 c; exact wrap64_of (by omega) (by omega)
      refine other a b _ _ _ (a.tmod b) w h0 (by omega) (by omega) rfl hd rfl rfl hr ?_ ?_
      · rcases Int.lt_or_gt_of_ne h0 with c | c
        · exact .inr ⟨c, hm.2 c⟩
        · exact .inl ⟨c, hm.1 c⟩
      · rcases Int.lt_or_le a 0 with c | c
        · have := hs.2 (by omega)
          by_cases hz : a.tmod b = 0
          · exact .inl hz
          · exact .inr (.inl ⟨by omega, c⟩)
        · have := hs.1 c
          by_cases hz : a.tmod b = 0
          · exact .inl hz
          · exact .inr (.inr ⟨by omega, c⟩)
end Go.Proofs.YthkababkoaimoaaR.vback
