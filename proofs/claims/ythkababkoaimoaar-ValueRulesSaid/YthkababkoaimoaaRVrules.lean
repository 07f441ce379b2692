/- The walk of ValueRules: whatever the three numbers, it answers true, and nothing that was there is written. -/
import Derived.Test.YthkababkoaimoaaRVb
namespace Go.Proofs.YthkababkoaimoaaR.vrules
open Go.RowKit Go.Maps Go.Tre vb

theorem dplus (a b s : Int) (w : World) (h : wrap64 (a + b) = s) : Calls Try.prog 7 #[.string ⟨#[43]⟩, .int .i64 a, .int .i64 b] w fun e w' => e = .returned (.int .i64 s) ∧ Below w.heap.size w w' := by
  have H : Hid (wrap64 (a + b) = s) := h
  clear h
  go_enter Try.func7, Try.ntmps7
  go_wp2_with fail
  refine (plus' a b s _ H.out).mono ?_
  rintro e w1 ⟨rfl, b1⟩
  go_wp2_with fail
  go_ret
  exact ⟨rfl, b1⟩
theorem dminus (a b s : Int) (w : World) (h : wrap64 (a - b) = s) : Calls Try.prog 7 #[.string ⟨#[45]⟩, .int .i64 a, .int .i64 b] w fun e w' => e = .returned (.int .i64 s) ∧ Below w.heap.size w w' := by
  have H : Hid (wrap64 (a - b) = s) := h
  clear h
  go_enter Try.func7, Try.ntmps7
  go_wp2_with fail
  refine (minus' a b s _ H.out).mono ?_
  rintro e w1 ⟨rfl, b1⟩
  go_wp2_with fail
  go_ret
  exact ⟨rfl, b1⟩
theorem dtimes (a b s : Int) (w : World) (h : wrap64 (a * b) = s) : Calls Try.prog 7 #[.string ⟨#[42]⟩, .int .i64 a, .int .i64 b] w fun e w' => e = .returned (.int .i64 s) ∧ Below w.heap.size w w' := by
  have H : Hid (wrap64 (a * b) = s) := h
  clear h
  go_enter Try.func7, Try.ntmps7
  go_wp2_with fail
  refine (times' a b s _ H.out).mono ?_
  rintro e w1 ⟨rfl, b1⟩
  go_wp2_with fail
  go_ret
  exact ⟨rfl, b1⟩

set_option maxHeartbeats 4000000 in
theorem core (a b c bc x ab ac y sb m z na d nb : Int) (w : World) (h1 : Hid (wrap64 (b + c) = bc)) (h2 : Hid (wrap64 (a * bc) = x)) (h3 : Hid (wrap64 (a * b) = ab)) (h4 : Hid (wrap64 (a * c) = ac)) (h5 : Hid (wrap64 (ab + ac) = x))
    (h6 : Hid (wrap64 (a + bc) = y)) (h7 : Hid (wrap64 (a + b) = sb)) (h8 : Hid (wrap64 (sb + c) = y)) (h9 : Hid (wrap64 (b * c) = m)) (h10 : Hid (wrap64 (a * m) = z)) (h11 : Hid (wrap64 (ab * c) = z))
    (h12 : Hid (wrap64 (0 - a) = na)) (h13 : Hid (wrap64 (a + na) = 0)) (h14 : Hid (wrap64 (a * 1) = a)) (h15 : Hid (wrap64 (a * 0) = 0)) (h16 : Hid (wrap64 (a - b) = d)) (h17 : Hid (wrap64 (0 - b) = nb)) (h18 : Hid (wrap64 (a + nb) = d)) :
    Calls Try.prog 4 #[.int .i64 a, .int .i64 b, .int .i64 c] w fun e w' => e = .returned (.bool true) ∧ Below w.heap.size w w' := by
  go_enter Try.func4, Try.ntmps4
  go_wp2_with fail
  refine (alive _).mono ?_
  rintro e w1 ⟨rfl, t1⟩
  go_wp2_with fail
  refine (dplus b c bc _ h1.out).mono ?_
  rintro e w2 ⟨rfl, b2⟩
  have t2 := t1.trans (b2.mono t1.size)
  clear t1 b2
  go_wp2_with fail
  refine (dtimes a bc x _ h2.out).mono ?_
  rintro e w3 ⟨rfl, b3⟩
  have t3 := t2.trans (b3.mono t2.size)
  clear t2 b3
  go_wp2_with fail
  refine (dtimes a b ab _ h3.out).mono ?_
  rintro e w4 ⟨rfl, b4⟩
  have t4 := t3.trans (b4.mono t3.size)
  clear t3 b4
  go_wp2_with fail
  refine (dtimes a c ac _ h4.out).mono ?_
  rintro e w5 ⟨rfl, b5⟩
  have t5 := t4.trans (b5.mono t4.size)
  clear t4 b5
  go_wp2_with fail
  refine (dplus ab ac x _ h5.out).mono ?_
  rintro e w6 ⟨rfl, b6⟩
  have t6 := t5.trans (b6.mono t5.size)
  clear t5 b6
  go_wp2_with fail
  refine (dplus b c bc _ h1.out).mono ?_
  rintro e w7 ⟨rfl, b7⟩
  have t7 := t6.trans (b7.mono t6.size)
  clear t6 b7
  go_wp2_with fail
  refine (dplus a bc y _ h6.out).mono ?_
  rintro e w8 ⟨rfl, b8⟩
  have t8 := t7.trans (b8.mono t7.size)
  clear t7 b8
  go_wp2_with fail
  refine (dplus a b sb _ h7.out).mono ?_
  rintro e w9 ⟨rfl, b9⟩
  have t9 := t8.trans (b9.mono t8.size)
  clear t8 b9
  go_wp2_with fail
  refine (dplus sb c y _ h8.out).mono ?_
  rintro e w10 ⟨rfl, b10⟩
  have t10 := t9.trans (b10.mono t9.size)
  clear t9 b10
  go_wp2_with fail
  refine (dtimes b c m _ h9.out).mono ?_
  rintro e w11 ⟨rfl, b11⟩
  have t11 := t10.trans (b11.mono t10.size)
  clear t10 b11
  go_wp2_with fail
  refine (dtimes a m z _ h10.out).mono ?_
  rintro e w12 ⟨rfl, b12⟩
  have t12 := t11.trans (b12.mono t11.size)
  clear t11 b12
  go_wp2_with fail
  refine (dtimes a b ab _ h3.out).mono ?_
  rintro e w13 ⟨rfl, b13⟩
  have t13 := t12.trans (b13.mono t12.size)
  clear t12 b13
  go_wp2_with fail
  refine (dtimes ab c z _ h11.out).mono ?_
  rintro e w14 ⟨rfl, b14⟩
  have t14 := t13.trans (b14.mono t13.size)
  clear t13 b14
  go_wp2_with fail
  refine (dminus 0 a na _ h12.out).mono ?_
  rintro e w15 ⟨rfl, b15⟩
  have t15 := t14.trans (b15.mono t14.size)
  clear t14 b15
  go_wp2_with fail
  refine (dplus a na 0 _ h13.out).mono ?_
  rintro e w16 ⟨rfl, b16⟩
  have t16 := t15.trans (b16.mono t15.size)
  clear t15 b16
  go_wp2_with fail
  refine (dtimes a 1 a _ h14.out).mono ?_
  rintro e w17 ⟨rfl, b17⟩
  have t17 := t16.trans (b17.mono t16.size)
  clear t16 b17
  go_wp2_with fail
  refine (dtimes a 0 0 _ h15.out).mono ?_
  rintro e w18 ⟨rfl, b18⟩
  have t18 := t17.trans (b18.mono t17.size)
  clear t17 b18
  go_wp2_with fail
  refine (dminus a b d _ h16.out).mono ?_
  rintro e w19 ⟨rfl, b19⟩
  have t19 := t18.trans (b19.mono t18.size)
  clear t18 b19
  go_wp2_with fail
  refine (dminus 0 b nb _ h17.out).mono ?_
  rintro e w20 ⟨rfl, b20⟩
  have t20 := t19.trans (b20.mono t19.size)
  clear t19 b20
  go_wp2_with fail
  refine (dplus a nb d _ h18.out).mono ?_
  rintro e w21 ⟨rfl, b21⟩
  have t21 := t20.trans (b21.mono t20.size)
  clear t20 b21
  go_wp2_with fail
  go_ret
  exact ⟨rfl, t21⟩

theorem walk (a b c : Int) (wa : (Lit.int .i64 a).wf = true) (wb : (Lit.int .i64 b).wf = true) (wc : (Lit.int .i64 c).wf = true) (w : World) :
    Calls Try.prog 4 #[.int .i64 a, .int .i64 b, .int .i64 c] w fun e w' => e = .returned (.bool true) ∧ Below w.heap.size w w' := by
  have ha : -9223372036854775808 ≤ a ∧ a ≤ 9223372036854775807 := by simpa [Lit.wf, IntKind.min, IntKind.max, IntKind.signed, IntKind.bits] using wa
  refine core a b c _ _ _ _ _ _ _ _ _ _ _ w rfl rfl rfl rfl (spread a b c).symm rfl rfl (three a b c).symm rfl rfl (three' a b c).symm rfl ?_ ?_ ?_ rfl rfl ?_
  · show wrap64 _ = _
    unfold wrap64; omega
  · show wrap64 _ = _
    rw [Int.mul_one]; exact wrap64_of ha.1 ha.2
  · show wrap64 _ = _
    rw [Int.mul_zero]; decide +kernel
  · show wrap64 _ = _
    unfold wrap64; omega
end Go.Proofs.YthkababkoaimoaaR.vrules
