/- (*lexer).next: a number. -/
import Derived.Test.YtcpcheengfgpaaaGreatDoorB07
import Derived.Test.YtcpcheengfgpaaaGreatDoorB08
import Derived.Lib.AtoiErrMem
set_option linter.unusedVariables false
namespace Go.Proofs.YtcpcheengfgpaaaGreatDoor.lex
open Go.RowKit Go.Tre
theorem dig_set : ([48, 49, 50, 51, 52, 53, 54, 55, 56, 57] : List UInt8).contains = isDig := by
  funext c
  rw [Bool.eq_iff_iff]
  simp only [List.contains_iff_mem, isDig, Bool.and_eq_true, decide_eq_true_eq]
  constructor
  · intro h
    simp only [List.mem_cons, List.not_mem_nil, or_false] at h
    rcases h with rfl | rfl | rfl | rfl | rfl | rfl | rfl | rfl | rfl | rfl <;> decide
  · rintro ⟨h1, h2⟩
    have key : ∀ k : Nat, 48 ≤ k → k ≤ 57 → UInt8.ofNat k ∈ ([48, 49, 50, 51, 52, 53, 54, 55, 56, 57] : List UInt8) := by
      intro k a b
      obtain rfl | rfl | rfl | rfl | rfl | rfl | rfl | rfl | rfl | rfl : k = 48 ∨ k = 49 ∨ k = 50 ∨ k = 51 ∨ k = 52 ∨ k = 53 ∨ k = 54 ∨ k = 55 ∨ k = 56 ∨ k = 57 := by omega
      all_goals decide
    have := key c.toNat h1 h2
    rwa [UInt8.ofNat_toNat] at this
theorem trimDigits (x d : ByteArray) (w : World) (hd : d.data.toList = x.data.toList.dropWhile isDig) :
    Calls Tryz.prog 49 #[.string x, .string ⟨#[48, 49, 50, 51, 52, 53, 54, 55, 56, 57]⟩] w fun e w' => e = .returned (.string d) ∧ Below w.heap.size w w' := by
  refine (Any.strings_TrimLeft_laid Tryz.lays161 (by kernel_rfl) x ⟨#[48, 49, 50, 51, 52, 53, 54, 55, 56, 57]⟩ w (by decide) (ascii_of_all (by decide))).mono ?_
  rintro e w' ⟨rfl, hb⟩
  refine ⟨?_, hb⟩
  rw [show d = ⟨(Lib.trimLeftS x.data.toList [48, 49, 50, 51, 52, 53, 54, 55, 56, 57]).toArray⟩ from data_inj' (by rw [hd]; unfold Lib.trimLeftS; rw [← dig_set])]
theorem take_takeWhile (p : UInt8 → Bool) : ∀ l : List UInt8, l.take (l.takeWhile p).length = l.takeWhile p
  | [] => rfl
  | c :: l => by
    rw [List.takeWhile_cons]
    split
    · rw [List.length_cons, List.take_succ_cons, take_takeWhile p l]
    · rfl
theorem num_len {x d : ByteArray} (h0 : 0 < x.size) (h48 : (48 : Int) ≤ (x[0].toNat : Int)) (h57 : (x[0].toNat : Int) ≤ 57) (hd : d.data.toList = x.data.toList.dropWhile isDig) :
    ∃ m : Nat, Hid (m + d.size = x.size ∧ 1 ≤ m ∧ x.data.toList.take m = x.data.toList.takeWhile isDig) := by
  refine ⟨(x.data.toList.takeWhile isDig).length, ?_, ?_, ?_⟩
  · have h1 := congrArg List.length (List.takeWhile_append_dropWhile (p := isDig) (l := x.data.toList))
    rw [List.length_append, ← hd] at h1
    exact h1
  · have hdd := drop_at x 0 h0
    rw [List.drop_zero] at hdd
    rw [hdd, List.takeWhile_cons, if_pos]
    · simp
    · unfold isDig
      simp only [Bool.and_eq_true, decide_eq_true_eq]
      omega
  · exact take_takeWhile isDig x.data.toList
theorem nextS_num {x : ByteArray} (h0 : 0 < x.size) (hw : wordLen x = 0) (h48 : (48 : Int) ≤ (x[0].toNat : Int)) (h57 : (x[0].toNat : Int) ≤ 57) :
    nextS x.data.toList = if digitsVal (x.data.toList.takeWhile isDig) ≤ 9223372036854775807 then some (⟨3, 0, digitsVal (x.data.toList.takeWhile isDig), []⟩, (x.data.toList.takeWhile isDig).length) else none := by
  have hw' : ¬ wordFrom true x.data.toList > 0 := by have : wordFrom true x.data.toList = 0 := hw; omega
  have hdd := drop_at x 0 h0
  rw [List.drop_zero] at hdd
  have hdig : isDig x[0] = true := by
    unfold isDig
    simp only [Bool.and_eq_true, decide_eq_true_eq]
    omega
  have h39 : x[0] ≠ 39 := by
    intro e; rw [e] at h48; revert h48; decide
  unfold nextS
  rw [if_neg hw', hdd]
  simp only
  rw [if_neg h39, if_pos hdig]
theorem foldl_ge : ∀ (l : List UInt8) (acc : Nat), acc ≤ l.foldl (fun a c => 10 * a + (c.toNat - 48)) acc
  | [], _ => Nat.le_refl _
  | c :: l, acc => by
    have := foldl_ge l (10 * acc + (c.toNat - 48))
    rw [List.foldl_cons]; omega
theorem parse_digits : ∀ (l : List UInt8) (acc : Nat), (∀ c ∈ l, isDig c = true) → acc ≤ 18446744073709551615 →
    Lib.parseUintM 18446744073709551615 acc l = if l.foldl (fun a c => 10 * a + (c.toNat - 48)) acc ≤ 18446744073709551615 then .ok (l.foldl (fun a c => 10 * a + (c.toNat - 48)) acc) else .range
  | [], acc, _, h => by
    unfold Lib.parseUintM
    rw [List.foldl_nil, if_pos h]
  | c :: l, acc, hd, h => by
    have hc := hd c (by simp)
    unfold isDig at hc
    simp only [Bool.and_eq_true, decide_eq_true_eq] at hc
    unfold Lib.parseUintM
    rw [if_pos hc, List.foldl_cons, Nat.mul_comm acc 10]
    have hg := foldl_ge l (10 * acc + (c.toNat - 48))
    split
    · rw [if_neg (by omega)]
    · split
      · rw [if_neg (by omega)]
      · exact parse_digits l _ (fun c hc => hd c (by simp [hc])) (by omega)
theorem takeWhile_dig : ∀ l : List UInt8, ∀ c ∈ l.takeWhile isDig, isDig c = true
  | [], c, h => by cases h
  | a :: l, c, h => by
    rw [List.takeWhile_cons] at h
    split at h
    · rcases List.mem_cons.1 h with rfl | h
      · assumption
      · exact takeWhile_dig l c h
    · cases h
theorem parse_num {l : List UInt8} (h0 : l ≠ []) (hd : ∀ c ∈ l, isDig c = true) : Lib.parseIntB 64 l = if digitsVal l ≤ 9223372036854775807 then .ok (digitsVal l : Int) else .range := by
  cases l with
  | nil => exact absurd rfl h0
  | cons c r =>
    have hc := hd c (by simp)
    unfold isDig at hc
    simp only [Bool.and_eq_true, decide_eq_true_eq] at hc
    unfold Lib.parseIntB
    simp only
    rw [if_neg (by omega)]
    unfold Lib.parseUintB
    rw [if_neg (by simp), show 2 ^ 64 - 1 = 18446744073709551615 from rfl, parse_digits _ _ hd (by omega)]
    have hv : (c :: r).foldl (fun a c => 10 * a + (c.toNat - 48)) 0 = digitsVal (c :: r) := rfl
    rw [hv]
    by_cases h1 : digitsVal (c :: r) ≤ 9223372036854775807
    · rw [if_pos (by omega), if_pos h1]
      simp only
      rw [show 2 ^ (64 - 1) = 9223372036854775808 from rfl, if_neg (by omega), if_neg (by omega), if_neg (by omega)]
    · rw [if_neg h1]
      by_cases h2 : digitsVal (c :: r) ≤ 18446744073709551615
      · rw [if_pos h2]
        simp only
        rw [show 2 ^ (64 - 1) = 9223372036854775808 from rfl, if_pos (by omega)]
      · rw [if_neg h2]
theorem parseOk (g : ByteArray) (v : Nat) (w : World) (hs : g.size ≤ 4194304) (h : Lib.parseIntB 64 g.data.toList = .ok (v : Int)) :
    Calls Tryz.prog 5 #[.string g, .int .i64 10, .int .i64 64] w fun e w' => e = .returned (.tuple #[.int .i64 v, .nilIface]) ∧ Below w.heap.size w w' := by
  refine (Tryz.strconv_ParseInt_10_at64_ok g (by omega) v h w).mono ?_
  rintro e w' ⟨rfl, rfl | ⟨t, rfl⟩⟩
  · exact ⟨rfl, Below.refl _ _⟩
  · exact ⟨rfl, Lib.bytesWorld_below _ _ _⟩
def RangeAt (w : World) : Prop := ∃ te pe, w.cell? ⟨2, 0, none⟩ = some (.iface te pe)
theorem RangeAt.below {w w' : World} (h : RangeAt w) (hb : Below w.heap.size w w') : RangeAt w' := by
  obtain ⟨te, pe, hc⟩ := h
  exact ⟨te, pe, cell_below hb hc⟩
def ParseNo (w : World) (e : Ending) (w' : World) : Prop := ∃ (n : Int) (N : Nat), e = .returned (.tuple #[.int .i64 n, .iface 59 (.pointer (some ⟨N, 0, none⟩))]) ∧ Below w.heap.size w w'
theorem parseNo (g : ByteArray) (w : World) (hs : g.size ≤ 4194304) (hr : RangeAt w) (h : Lib.parseIntB 64 g.data.toList = .range) :
    Calls Tryz.prog 5 #[.string g, .int .i64 10, .int .i64 64] w (ParseNo w) := by
  obtain ⟨te, pe, hc⟩ := hr
  refine (Tryz.strconv_ParseInt_10_at64_range g (by omega) h _ w hc (.inr ⟨te, pe, rfl⟩)).mono ?_
  rintro e w' ⟨N, rfl, _, _, hb⟩
  exact ⟨_, N, rfl, hb⟩
theorem errJoin {w0 w : World} {rs : List Res} {p q k no : Nat} {v x : Value} (h : Mem w0 w (cellsR q 157 #[v] :: rowR 24 1 v 2 [.iface 44 (.pointer (some ⟨p, 0, none⟩)), x] :: cellsR p 48 #[.int .i64 k, .int .i64 no] :: rs)) :
    ∃ bs, Mem w0 w (errR bs (.iface 155 (.pointer (some ⟨q, 0, none⟩))) k no :: rs) := by
  obtain ⟨g, cap, rfl, _, _⟩ := h.pos 1 rfl
  refine ⟨[p, q, g], (h.join.join).as_ 0 rfl (errR [p, q, g] _ k no) (fun hp => ?_) (fun b hb => ?_)⟩
  · obtain ⟨⟨h1, h2⟩, h3⟩ := hp
    have h2' : w.ownsRow 0 24 1 (.slice (some ⟨g, 0, none⟩) 2 cap) 2 [.iface 44 (.pointer (some ⟨p, 0, none⟩)), x] := h2
    rcases h2'.2 with ⟨e, _⟩ | ⟨g', cap', cur, e, _, hg, hn, _, hcs, htk⟩
    · cases e
    · cases e
      refine .inr ⟨p, q, g, 157, x, cap, rfl, rfl, h3, h1, ⟨24, cur, (0, 0), hg, ?_, ?_⟩, hn⟩
      · have := congrArg (·[0]?) htk
        simpa [List.getElem?_take] using this
      · have := congrArg (·[1]?) htk
        simpa [List.getElem?_take] using this
  · have hb' : b ∈ [p, q, g] := hb
    simp at hb'
    rcases hb' with rfl | rfl | rfl
    · exact .inr rfl
    · exact .inl (.inl rfl)
    · exact .inl (.inr rfl)
set_option maxRecDepth 100000 in
set_option maxHeartbeats 8000000 in
theorem next_num_ok (w0 : World) (rs : List Res) (b : Nat) (s x : ByteArray) (k : Nat) (w : World) (h : Mem w0 w (lexR b s k :: rs)) (hk : k ≤ s.size) (hs : s.size ≤ 4194304) (hx : x.data.toList = s.data.toList.drop k) (hm : MaxAt w0) (h0 : 0 < x.size) (hw : wordLen x = 0) (h48 : (48 : Int) ≤ (x[0].toNat : Int)) (h57 : (x[0].toNat : Int) ≤ 57) (hv : digitsVal (x.data.toList.takeWhile isDig) ≤ 9223372036854775807) :
    Calls Tryz.prog 32 #[.pointer (some ⟨b, 0, none⟩)] w (NextPost w0 rs b s k (nextS x.data.toList)) := by
  have HM0 := Tre.hid (((h.allocR (tokV 0 0 0 ⟨#[]⟩) 34).allocR #[.int .i64 0] 3).allocR #[.nilIface] 24)
  have HX := Tre.hid hx
  have hxs : x.size ≤ s.size := by
    have := congrArg List.length hx
    simp at this
    omega
  clear h hx
  have HMX := Tre.hid hm
  have HW0 := Tre.hid hw
  have HD0 := Tre.hid (drop_at x 0 h0)
  have hc255 := x[0].toNat_lt
  have e39 : ((x[0].toNat : Int) == 39) = false := byte_ne (c := x[0]) (d := 39) (by intro e; rw [e] at h48; revert h48; decide)
  obtain ⟨d, HD⟩ : ∃ d : ByteArray, Hid (d.data.toList = x.data.toList.dropWhile isDig) := ⟨⟨(x.data.toList.dropWhile isDig).toArray⟩, by show _ = _; simp⟩
  obtain ⟨m, hm'⟩ : ∃ m : Nat, Hid (m + d.size = x.size ∧ 1 ≤ m ∧ x.data.toList.take m = x.data.toList.takeWhile isDig) := num_len h0 h48 h57 HD.out
  have HWR : Hid (IntKind.i64.wrap ((x.size : Int) - (d.size : Int)) = (m : Int)) := by
    show _ = _
    have := hm'.out.1
    rw [show ((x.size : Int) - (d.size : Int)) = (m : Int) by omega]
    exact IntWalk.i64_in _ (by omega)
  have hmx : m ≤ x.size := by have := hm'.out.1; omega
  have HG : Hid ((x.extract 0 m).data.toList = x.data.toList.takeWhile isDig) := by
    show _ = _
    rw [extract_take x 0 m hmx, ← hm'.out.2.2]; simp
  have hgs : (x.extract 0 m).size ≤ 4194304 := by rw [ByteArray.size_extract]; omega
  have HDN := Tre.hid (nextS_num h0 HW0.out h48 h57)
  have HMM : Hid ((x.data.toList.takeWhile isDig).length = m) := by
    show _ = _
    rw [← hm'.out.2.2]; simp; omega
  have HNE : Hid (x.data.toList.takeWhile isDig ≠ []) := by
    intro e
    have h1 := HMM.out
    rw [e] at h1
    have h2 := hm'.out.2.1
    simp at h1
    omega
  obtain ⟨v, hv'⟩ : ∃ v, Hid (digitsVal (x.data.toList.takeWhile isDig) = v) := ⟨_, rfl⟩
  have HP : Hid (Lib.parseIntB 64 (x.extract 0 m).data.toList = .ok (v : Int)) := by
    show _ = _
    rw [HG.out, parse_num HNE.out (takeWhile_dig x.data.toList), if_pos hv, hv'.out]
  have HDM : Hid (nextS x.data.toList = some (⟨3, 0, v, []⟩, m)) := by
    show _ = _
    rw [HDN.out, if_pos hv, hv'.out, HMM.out]
  clear hv
  clear hm hw
  refine calls_marks Tryz.func32 rfl ?_
  simp only [Tryz.ntmps32, List.size_toArray, List.length_cons, List.length_nil, Nat.reduceAdd, Nat.reduceSub, Array.replicate_succ, Array.replicate_zero, List.push_toArray, List.append_toArray, List.nil_append, List.cons_append]
  go_wp2_with fail
  refine (rest_is b s k x _ (lexAt HM0.out 3 rfl) hk (by omega) HX.out).mono ?_
  rintro e w1 ⟨rfl, mq⟩
  have M1 := HM0.out.quiet mq
  simp only [World.size_alloc] at M1
  have HM1 := Tre.hid M1
  obtain ⟨l0, l1⟩ := M1.two 3 rfl
  have hbl := World.block_lt_of_cell? w1 _ l0
  have htl := (Array.getElem?_eq_some_iff.1 (M1.heap 2 rfl)).1
  have t1 : w1.cell? ⟨w.heap.size, 1, none⟩ = some (.int .i64 0) := M1.cell 2 rfl 1 rfl
  have f1 := M1.free 2 rfl 1
  clear mq M1 HM0
  simp only at hbl
  go_wp2_with fail
  refine (word x _ (by omega)).mono ?_
  rintro e w2 ⟨rfl, rfl⟩
  rw [HW0.out, show ((0 : Nat) : Int) = 0 from rfl]
  have M2 := (HM1.out.setCell 2 rfl 1 (.int .i64 (k : Int))).allocR #[.string x] 9
  rw [World.size_setCell] at M2
  generalize hg : ((w1.setCell ⟨w.heap.size, 1, none⟩ (.int .i64 (k : Int))).alloc (.cells #[.string x] 9)) = w2 at M2 ⊢
  have M2' : Mem w0 w2 (nextL w1.heap.size w.heap.size 0 k 0 ⟨#[]⟩ 0 .nilIface x b s k rs) := M2
  have HM2 := Tre.hid M2'
  have n1 := M2'.cell 2 rfl 0 rfl
  have n2 := M2'.free 2 rfl 0
  have s1 := M2'.cell 0 rfl 0 rfl
  have hne : w1.heap.size ≠ w.heap.size + 1 := by have := HM1.out.heap 1 rfl; intro e; rw [← e] at this; simp at this
  clear hg M2 M2' t1 f1 l0 l1 HM1
  go_wp2_with fail
  have M3 := HM2.out.setCell 2 rfl 0 (.int .i64 0)
  generalize hg : w2.setCell ⟨w.heap.size + 1, 0, none⟩ (.int .i64 0) = w3 at M3 ⊢
  have HM3 : Hid (Mem w0 w3 (nextL w1.heap.size w.heap.size 0 k 0 ⟨#[]⟩ 0 .nilIface x b s k rs)) := M3
  clear hg M3 HM2 n1 n2 s1
  refine wp_region_noPanic ?_
  refine wp_region_keep (S := (fun w' => w'.cell? ⟨w1.heap.size, 0, none⟩ = some (.string x))) [6] (by kernel_rfl) ?_ (fun hH0 => ?_)
  · exact HM3.out.cell 0 rfl 0 rfl
  have H0 := Tre.hid HM3.out.drew
  generalize hq : w3.drew = wq0 at H0 hH0 ⊢
  clear hq
  refine lTake (i := 0) (some 73) (v := ?_) (by rfl) (by kernel_rfl) (by kernel_rfl) (by kernel_rfl) (by kernel_rfl) (by kernel_rfl) (fun _ _ _ h => h) (by rfl) ?_ hH0 ?_
  rotate_left
  · intro w hSw; (try dsimp only at hSw); simp only [List.getElem?_toArray, List.getElem?_cons_zero, Option.map_some, Option.some.injEq]; (first | (go_simp; done) | (go_simp; with_reducible rfl))
  try simp only [Act.put, List.setIfInBounds_toArray, List.set_cons_zero, List.set_cons_succ]
  refine lPure (i := 1) (some 74) (v := ?_) (by rfl) (by kernel_rfl) (by kernel_rfl) (by kernel_rfl) (by kernel_rfl) (fun _ _ _ h => h) (by rfl) ?_ (keep_of hH0) ?_
  rotate_left
  · intro w; simp only [List.getElem?_toArray, List.getElem?_cons_succ, List.getElem?_cons_zero, Option.map_some, Option.some.injEq]; (first | (go_simp; done) | (go_simp; with_reducible rfl))
  try simp only [Act.put, List.setIfInBounds_toArray, List.set_cons_zero, List.set_cons_succ]
  refine lTake (i := 2) (some 75) (v := ?_) (by rfl) (by kernel_rfl) (by kernel_rfl) (by kernel_rfl) (by kernel_rfl) (by kernel_rfl) (fun _ _ _ h => h) (by rfl) ?_ hH0 ?_
  rotate_left
  · intro w hSw; (try dsimp only at hSw); simp only [List.getElem?_toArray, List.getElem?_cons_succ, List.getElem?_cons_zero, Option.map_some, Option.some.injEq]; (first | (go_simp; done) | (go_simp; with_reducible rfl))
  try simp only [Act.put, List.setIfInBounds_toArray, List.set_cons_zero, List.set_cons_succ]
  refine lOne 3 (by kernel_rfl) (LStep.op (fun K hK => ?_))
  go_simp
  refine (trimDigits x d wq0 HD.out).mono ?_
  rintro e wq1 ⟨rfl, mq⟩
  have H1 := Tre.hid (H0.out.quiet mq)
  clear mq
  (try dsimp only)
  refine hK.out _ _ ?_ (fun hH1 => ?_)
  · exact H1.out.cell 0 rfl 0 rfl
  clear hK K hH0
  try simp only [Act.put, List.setIfInBounds_toArray, List.set_cons_zero, List.set_cons_succ]
  refine lPure (i := 4) (some 77) (v := ?_) (by rfl) (by kernel_rfl) (by kernel_rfl) (by kernel_rfl) (by kernel_rfl) (fun _ _ _ h => h) (by rfl) ?_ (keep_of hH1) ?_
  rotate_left
  · intro w; simp only [List.getElem?_toArray, List.getElem?_cons_succ, List.getElem?_cons_zero, Option.map_some, Option.some.injEq]; (first | (go_simp; done) | (go_simp; with_reducible rfl))
  try simp only [Act.put, List.setIfInBounds_toArray, List.set_cons_zero, List.set_cons_succ]
  refine lPure (i := 5) (some 78) (v := ?_) (by rfl) (by kernel_rfl) (by kernel_rfl) (by kernel_rfl) (by kernel_rfl) (fun _ _ _ h => h) (by rfl) ?_ (keep_of hH1) ?_
  rotate_left
  · intro w; simp only [List.getElem?_toArray, List.getElem?_cons_succ, List.getElem?_cons_zero, Option.map_some, Option.some.injEq]; (first | (go_simp; done) | (go_simp; with_reducible rfl))
  try simp only [Act.put, List.setIfInBounds_toArray, List.set_cons_zero, List.set_cons_succ]
  refine lOne 6 (by kernel_rfl) (LFall.op (by kernel_rfl) (fun K hK => ?_))
  have g0 := H1.out.cell 2 rfl 0 rfl
  have f0 := H1.out.free 2 rfl 0
  have H9 := H1.out.setCell 2 rfl 0 (.int .i64 (m : Int))
  go_simp
  simp only [HWR.out]
  generalize hw : wq1.setCell ⟨w.heap.size + 1, 0, none⟩ (.int .i64 (m : Int)) = wq2 at H9 ⊢
  have H2 := Tre.hid H9
  clear hw H9 g0 f0
  refine hK.out _ _ ?_
  clear hK K hH1
  try simp only [Act.put, List.setIfInBounds_toArray, List.set_cons_zero, List.set_cons_succ]
  refine lDone (by kernel_rfl) ?_
  refine NoPanic.normal ?_
  have HM4 : Hid (Mem w0 wq2 (nextL w1.heap.size w.heap.size 0 k 0 ⟨#[]⟩ (m : Int) .nilIface x b s k rs)) := H2.out
  have n1 := HM4.out.cell 2 rfl 0 rfl
  have s1 := HM4.out.cell 0 rfl 0 rfl
  clear H2
  go_wp2_with fail
  refine (parseOk (x.extract 0 m) v _ hgs HP.out).mono ?_
  rintro e w5 ⟨rfl, mq⟩
  have HM5 := Tre.hid (HM4.out.quiet mq)
  clear mq HM4 n1 s1
  have t0 := HM5.out.cell 3 rfl 0 rfl
  have f0 := HM5.out.free 3 rfl 0
  have t1 := HM5.out.cell 3 rfl 1 rfl
  have f1 := HM5.out.free 3 rfl 1
  have t2 := HM5.out.cell 3 rfl 2 rfl
  have f2 := HM5.out.free 3 rfl 2
  have t3 := HM5.out.cell 3 rfl 3 rfl
  have f3 := HM5.out.free 3 rfl 3
  have n1 := HM5.out.cell 2 rfl 0 rfl
  have n2 := HM5.out.free 2 rfl 0
  have v1 := HM5.out.cell 1 rfl 0 rfl
  have v2 := HM5.out.free 1 rfl 0
  have s1 := HM5.out.cell 0 rfl 0 rfl
  go_wp2_with fail
  have M6 := (HM5.out.setCell 3 rfl 0 (.int .i64 3)).setCell 3 rfl 2 (.int .i64 (v : Int))
  generalize hg : (w5.setCell ⟨w.heap.size, 0, none⟩ (.int .i64 3)).setCell ⟨w.heap.size, 2, none⟩ (.int .i64 (v : Int)) = w6 at M6 ⊢
  have HM6 : Hid (Mem w0 w6 (nextL w1.heap.size w.heap.size 3 k v ⟨#[]⟩ (m : Int) .nilIface x b s k rs)) := M6
  clear hg M6 HM5 t0 f0 t1 f1 t2 f2 t3 f3 n1 n2 v1 v2 s1
  refine wp_region_noPanic ?_
  refine wp_region_keep (S := (fun w' => (w'.cell? ⟨w.heap.size, 0, none⟩ = some (.int .i64 3) ∧ w'.cell? ⟨w.heap.size, 1, none⟩ = some (.int .i64 k) ∧ w'.cell? ⟨w.heap.size, 2, none⟩ = some (.int .i64 (v : Int)) ∧ w'.cell? ⟨w.heap.size, 3, none⟩ = some (.string ⟨#[]⟩)) ∧ w'.cell? ⟨w.heap.size + 1, 0, none⟩ = some (.int .i64 (m : Int)))) [3, 4] (by kernel_rfl) ?_ (fun hH0 => ?_)
  · exact ⟨⟨HM6.out.cell 3 rfl 0 rfl, HM6.out.cell 3 rfl 1 rfl, HM6.out.cell 3 rfl 2 rfl, HM6.out.cell 3 rfl 3 rfl⟩, HM6.out.cell 2 rfl 0 rfl⟩
  have H0 := Tre.hid HM6.out.drew
  generalize hq : w6.drew = wq0 at H0 hH0 ⊢
  clear hq
  refine lTake (i := 0) (some 97) (v := ?_) (by rfl) (by kernel_rfl) (by kernel_rfl) (by kernel_rfl) (by kernel_rfl) (by kernel_rfl) (fun _ _ _ h => h) (by rfl) ?_ hH0 ?_
  rotate_left
  · intro w hSw; (try dsimp only at hSw); simp only [List.getElem?_toArray, List.getElem?_cons_zero, Option.map_some, Option.some.injEq]; (first | (go_simp; done) | (go_simp; with_reducible rfl))
  try simp only [Act.put, List.setIfInBounds_toArray, List.set_cons_zero, List.set_cons_succ]
  refine lTake (i := 1) (some 98) (v := ?_) (by rfl) (by kernel_rfl) (by kernel_rfl) (by kernel_rfl) (by kernel_rfl) (by kernel_rfl) (fun _ _ _ h => h) (by rfl) ?_ hH0 ?_
  rotate_left
  · intro w hSw; (try dsimp only at hSw); simp only [List.getElem?_toArray, List.getElem?_cons_succ, List.getElem?_cons_zero, Option.map_some, Option.some.injEq]; (first | (go_simp; done) | (go_simp; with_reducible rfl))
  try simp only [Act.put, List.setIfInBounds_toArray, List.set_cons_zero, List.set_cons_succ]
  refine lOne 2 (by kernel_rfl) (LStep.op (fun K hK => ?_))
  have g0 := H0.out.cell 3 rfl 0 rfl
  have g1 := H0.out.cell 3 rfl 1 rfl
  have g2 := H0.out.cell 3 rfl 2 rfl
  have g3 := H0.out.cell 3 rfl 3 rfl
  have f0 := H0.out.free 3 rfl 0
  have f1 := H0.out.free 3 rfl 1
  have f2 := H0.out.free 3 rfl 2
  have f3 := H0.out.free 3 rfl 3
  have H9 := ((((H0.out.setCell 3 rfl 0 (.int .i64 3)).setCell 3 rfl 1 (.int .i64 k)).setCell 3 rfl 2 (.int .i64 (v : Int))).setCell 3 rfl 3 (.string ⟨#[]⟩))
  go_simp
  generalize hw : ((((wq0.setCell ⟨w.heap.size, 0, none⟩ (.int .i64 3)).setCell ⟨w.heap.size, 1, none⟩ (.int .i64 k)).setCell ⟨w.heap.size, 2, none⟩ (.int .i64 (v : Int))).setCell ⟨w.heap.size, 3, none⟩ (.string ⟨#[]⟩)) = wq1 at H9 ⊢
  have H1 := Tre.hid H9
  clear hw H9 g0 g1 g2 g3 f0 f1 f2 f3
  refine hK.out _ _ ?_ (fun hH1 => ?_)
  · exact ⟨⟨H1.out.cell 3 rfl 0 rfl, H1.out.cell 3 rfl 1 rfl, H1.out.cell 3 rfl 2 rfl, H1.out.cell 3 rfl 3 rfl⟩, H1.out.cell 2 rfl 0 rfl⟩
  clear hK K hH0
  try simp only [Act.put, List.setIfInBounds_toArray, List.set_cons_zero, List.set_cons_succ]
  refine lOne 3 (by kernel_rfl) (LFall.op (by kernel_rfl) (fun K hK => ?_))
  have g0 := H1.out.cell 2 rfl 0 rfl
  have f0 := H1.out.free 2 rfl 0
  have H9 := H1.out.setCell 2 rfl 0 (.int .i64 (m : Int))
  go_simp
  generalize hw : wq1.setCell ⟨w.heap.size + 1, 0, none⟩ (.int .i64 (m : Int)) = wq2 at H9 ⊢
  have H2 := Tre.hid H9
  clear hw H9 g0 f0
  refine hK.out _ _ ?_
  clear hK K hH1
  try simp only [Act.put, List.setIfInBounds_toArray, List.set_cons_zero, List.set_cons_succ]
  refine lOne 4 (by kernel_rfl) (LFall.op (by kernel_rfl) (fun K hK => ?_))
  have g0 := H2.out.cell 1 rfl 0 rfl
  have f0 := H2.out.free 1 rfl 0
  have H9 := H2.out.setCell 1 rfl 0 .nilIface
  go_simp
  generalize hw : wq2.setCell ⟨w.heap.size + 1 + 1, 0, none⟩ .nilIface = wq3 at H9 ⊢
  have H3 := Tre.hid H9
  clear hw H9 g0 f0
  refine hK.out _ _ ?_
  clear hK K
  try simp only [Act.put, List.setIfInBounds_toArray, List.set_cons_zero, List.set_cons_succ]
  refine lDone (by kernel_rfl) ?_
  refine NoPanic.normal ?_
  go_wp2_with fail
  have H9 : Mem w0 wq3 (nextL w1.heap.size w.heap.size 3 k (v : Int) ⟨#[]⟩ (m : Int) .nilIface x b s k rs) := H3.out
  refine bodyPostM_ret (next_results _ w.heap.size 3 k (v : Int) (m : Int) ⟨#[]⟩ .nilIface _ rfl rfl rfl (H9.heap 3 rfl) (H9.heap 2 rfl) (H9.heap 1 rfl)) rfl ?_
  exact .inl ⟨⟨3, 0, v, []⟩, m, ⟨#[]⟩, HDM.out, rfl, rfl, ((((H9.del 0).del 0).del 0).del 0)⟩
set_option maxRecDepth 100000 in
set_option maxHeartbeats 8000000 in
theorem next_num_no (w0 : World) (rs : List Res) (b : Nat) (s x : ByteArray) (k : Nat) (w : World) (h : Mem w0 w (lexR b s k :: rs)) (hk : k ≤ s.size) (hs : s.size ≤ 4194304) (hx : x.data.toList = s.data.toList.drop k) (hm : MaxAt w0) (h0 : 0 < x.size) (hw : wordLen x = 0) (hrg : RangeAt w0) (h48 : (48 : Int) ≤ (x[0].toNat : Int)) (h57 : (x[0].toNat : Int) ≤ 57) (hv : ¬ digitsVal (x.data.toList.takeWhile isDig) ≤ 9223372036854775807) :
    Calls Tryz.prog 32 #[.pointer (some ⟨b, 0, none⟩)] w (NextPost w0 rs b s k (nextS x.data.toList)) := by
  have HM0 := Tre.hid (((h.allocR (tokV 0 0 0 ⟨#[]⟩) 34).allocR #[.int .i64 0] 3).allocR #[.nilIface] 24)
  have HX := Tre.hid hx
  have hxs : x.size ≤ s.size := by
    have := congrArg List.length hx
    simp at this
    omega
  clear h hx
  have HMX := Tre.hid hm
  have HW0 := Tre.hid hw
  have HD0 := Tre.hid (drop_at x 0 h0)
  have hc255 := x[0].toNat_lt
  have e39 : ((x[0].toNat : Int) == 39) = false := byte_ne (c := x[0]) (d := 39) (by intro e; rw [e] at h48; revert h48; decide)
  obtain ⟨d, HD⟩ : ∃ d : ByteArray, Hid (d.data.toList = x.data.toList.dropWhile isDig) := ⟨⟨(x.data.toList.dropWhile isDig).toArray⟩, by show _ = _; simp⟩
  obtain ⟨m, hm'⟩ : ∃ m : Nat, Hid (m + d.size = x.size ∧ 1 ≤ m ∧ x.data.toList.take m = x.data.toList.takeWhile isDig) := num_len h0 h48 h57 HD.out
  have HWR : Hid (IntKind.i64.wrap ((x.size : Int) - (d.size : Int)) = (m : Int)) := by
    show _ = _
    have := hm'.out.1
    rw [show ((x.size : Int) - (d.size : Int)) = (m : Int) by omega]
    exact IntWalk.i64_in _ (by omega)
  have hmx : m ≤ x.size := by have := hm'.out.1; omega
  have HG : Hid ((x.extract 0 m).data.toList = x.data.toList.takeWhile isDig) := by
    show _ = _
    rw [extract_take x 0 m hmx, ← hm'.out.2.2]; simp
  have hgs : (x.extract 0 m).size ≤ 4194304 := by rw [ByteArray.size_extract]; omega
  have HDN := Tre.hid (nextS_num h0 HW0.out h48 h57)
  have HMM : Hid ((x.data.toList.takeWhile isDig).length = m) := by
    show _ = _
    rw [← hm'.out.2.2]; simp; omega
  have HNE : Hid (x.data.toList.takeWhile isDig ≠ []) := by
    intro e
    have h1 := HMM.out
    rw [e] at h1
    have h2 := hm'.out.2.1
    simp at h1
    omega
  have HRG := Tre.hid hrg
  have HP : Hid (Lib.parseIntB 64 (x.extract 0 m).data.toList = .range) := by
    show _ = _
    rw [HG.out, parse_num HNE.out (takeWhile_dig x.data.toList), if_neg hv]
  have HDM : Hid (nextS x.data.toList = none) := by
    show _ = _
    rw [HDN.out, if_neg hv]
  clear hv hrg
  clear hm hw
  refine calls_marks Tryz.func32 rfl ?_
  simp only [Tryz.ntmps32, List.size_toArray, List.length_cons, List.length_nil, Nat.reduceAdd, Nat.reduceSub, Array.replicate_succ, Array.replicate_zero, List.push_toArray, List.append_toArray, List.nil_append, List.cons_append]
  go_wp2_with fail
  refine (rest_is b s k x _ (lexAt HM0.out 3 rfl) hk (by omega) HX.out).mono ?_
  rintro e w1 ⟨rfl, mq⟩
  have M1 := HM0.out.quiet mq
  simp only [World.size_alloc] at M1
  have HM1 := Tre.hid M1
  obtain ⟨l0, l1⟩ := M1.two 3 rfl
  have hbl := World.block_lt_of_cell? w1 _ l0
  have htl := (Array.getElem?_eq_some_iff.1 (M1.heap 2 rfl)).1
  have t1 : w1.cell? ⟨w.heap.size, 1, none⟩ = some (.int .i64 0) := M1.cell 2 rfl 1 rfl
  have f1 := M1.free 2 rfl 1
  clear mq M1 HM0
  simp only at hbl
  go_wp2_with fail
  refine (word x _ (by omega)).mono ?_
  rintro e w2 ⟨rfl, rfl⟩
  rw [HW0.out, show ((0 : Nat) : Int) = 0 from rfl]
  have M2 := (HM1.out.setCell 2 rfl 1 (.int .i64 (k : Int))).allocR #[.string x] 9
  rw [World.size_setCell] at M2
  generalize hg : ((w1.setCell ⟨w.heap.size, 1, none⟩ (.int .i64 (k : Int))).alloc (.cells #[.string x] 9)) = w2 at M2 ⊢
  have M2' : Mem w0 w2 (nextL w1.heap.size w.heap.size 0 k 0 ⟨#[]⟩ 0 .nilIface x b s k rs) := M2
  have HM2 := Tre.hid M2'
  have n1 := M2'.cell 2 rfl 0 rfl
  have n2 := M2'.free 2 rfl 0
  have s1 := M2'.cell 0 rfl 0 rfl
  have hne : w1.heap.size ≠ w.heap.size + 1 := by have := HM1.out.heap 1 rfl; intro e; rw [← e] at this; simp at this
  clear hg M2 M2' t1 f1 l0 l1 HM1
  go_wp2_with fail
  have M3 := HM2.out.setCell 2 rfl 0 (.int .i64 0)
  generalize hg : w2.setCell ⟨w.heap.size + 1, 0, none⟩ (.int .i64 0) = w3 at M3 ⊢
  have HM3 : Hid (Mem w0 w3 (nextL w1.heap.size w.heap.size 0 k 0 ⟨#[]⟩ 0 .nilIface x b s k rs)) := M3
  clear hg M3 HM2 n1 n2 s1
  refine wp_region_noPanic ?_
  refine wp_region_keep (S := (fun w' => w'.cell? ⟨w1.heap.size, 0, none⟩ = some (.string x))) [6] (by kernel_rfl) ?_ (fun hH0 => ?_)
  · exact HM3.out.cell 0 rfl 0 rfl
  have H0 := Tre.hid HM3.out.drew
  generalize hq : w3.drew = wq0 at H0 hH0 ⊢
  clear hq
  refine lTake (i := 0) (some 73) (v := ?_) (by rfl) (by kernel_rfl) (by kernel_rfl) (by kernel_rfl) (by kernel_rfl) (by kernel_rfl) (fun _ _ _ h => h) (by rfl) ?_ hH0 ?_
  rotate_left
  · intro w hSw; (try dsimp only at hSw); simp only [List.getElem?_toArray, List.getElem?_cons_zero, Option.map_some, Option.some.injEq]; (first | (go_simp; done) | (go_simp; with_reducible rfl))
  try simp only [Act.put, List.setIfInBounds_toArray, List.set_cons_zero, List.set_cons_succ]
  refine lPure (i := 1) (some 74) (v := ?_) (by rfl) (by kernel_rfl) (by kernel_rfl) (by kernel_rfl) (by kernel_rfl) (fun _ _ _ h => h) (by rfl) ?_ (keep_of hH0) ?_
  rotate_left
  · intro w; simp only [List.getElem?_toArray, List.getElem?_cons_succ, List.getElem?_cons_zero, Option.map_some, Option.some.injEq]; (first | (go_simp; done) | (go_simp; with_reducible rfl))
  try simp only [Act.put, List.setIfInBounds_toArray, List.set_cons_zero, List.set_cons_succ]
  refine lTake (i := 2) (some 75) (v := ?_) (by rfl) (by kernel_rfl) (by kernel_rfl) (by kernel_rfl) (by kernel_rfl) (by kernel_rfl) (fun _ _ _ h => h) (by rfl) ?_ hH0 ?_
  rotate_left
  · intro w hSw; (try dsimp only at hSw); simp only [List.getElem?_toArray, List.getElem?_cons_succ, List.getElem?_cons_zero, Option.map_some, Option.some.injEq]; (first | (go_simp; done) | (go_simp; with_reducible rfl))
  try simp only [Act.put, List.setIfInBounds_toArray, List.set_cons_zero, List.set_cons_succ]
  refine lOne 3 (by kernel_rfl) (LStep.op (fun K hK => ?_))
  go_simp
  refine (trimDigits x d wq0 HD.out).mono ?_
  rintro e wq1 ⟨rfl, mq⟩
  have H1 := Tre.hid (H0.out.quiet mq)
  clear mq
  (try dsimp only)
  refine hK.out _ _ ?_ (fun hH1 => ?_)
  · exact H1.out.cell 0 rfl 0 rfl
  clear hK K hH0
  try simp only [Act.put, List.setIfInBounds_toArray, List.set_cons_zero, List.set_cons_succ]
  refine lPure (i := 4) (some 77) (v := ?_) (by rfl) (by kernel_rfl) (by kernel_rfl) (by kernel_rfl) (by kernel_rfl) (fun _ _ _ h => h) (by rfl) ?_ (keep_of hH1) ?_
  rotate_left
  · intro w; simp only [List.getElem?_toArray, List.getElem?_cons_succ, List.getElem?_cons_zero, Option.map_some, Option.some.injEq]; (first | (go_simp; done) | (go_simp; with_reducible rfl))
  try simp only [Act.put, List.setIfInBounds_toArray, List.set_cons_zero, List.set_cons_succ]
  refine lPure (i := 5) (some 78) (v := ?_) (by rfl) (by kernel_rfl) (by kernel_rfl) (by kernel_rfl) (by kernel_rfl) (fun _ _ _ h => h) (by rfl) ?_ (keep_of hH1) ?_
  rotate_left
  · intro w; simp only [List.getElem?_toArray, List.getElem?_cons_succ, List.getElem?_cons_zero, Option.map_some, Option.some.injEq]; (first | (go_simp; done) | (go_simp; with_reducible rfl))
  try simp only [Act.put, List.setIfInBounds_toArray, List.set_cons_zero, List.set_cons_succ]
  refine lOne 6 (by kernel_rfl) (LFall.op (by kernel_rfl) (fun K hK => ?_))
  have g0 := H1.out.cell 2 rfl 0 rfl
  have f0 := H1.out.free 2 rfl 0
  have H9 := H1.out.setCell 2 rfl 0 (.int .i64 (m : Int))
  go_simp
  simp only [HWR.out]
  generalize hw : wq1.setCell ⟨w.heap.size + 1, 0, none⟩ (.int .i64 (m : Int)) = wq2 at H9 ⊢
  have H2 := Tre.hid H9
  clear hw H9 g0 f0
  refine hK.out _ _ ?_
  clear hK K hH1
  try simp only [Act.put, List.setIfInBounds_toArray, List.set_cons_zero, List.set_cons_succ]
  refine lDone (by kernel_rfl) ?_
  refine NoPanic.normal ?_
  have HM4 : Hid (Mem w0 wq2 (nextL w1.heap.size w.heap.size 0 k 0 ⟨#[]⟩ (m : Int) .nilIface x b s k rs)) := H2.out
  have n1 := HM4.out.cell 2 rfl 0 rfl
  have s1 := HM4.out.cell 0 rfl 0 rfl
  clear H2
  go_wp2_with fail
  refine (parseNo (x.extract 0 m) _ hgs (HRG.out.below HM4.out.below) HP.out).mono ?_
  rintro e w5 ⟨n9, N, rfl, mq⟩
  have HM5 := Tre.hid (HM4.out.quiet mq)
  clear mq HM4 n1 s1
  go_wp2_with fail
  refine wp_region_noPanic ?_
  refine wp_region_keep (S := (fun w' => (w'.cell? ⟨w.heap.size, 0, none⟩ = some (.int .i64 0) ∧ w'.cell? ⟨w.heap.size, 1, none⟩ = some (.int .i64 k) ∧ w'.cell? ⟨w.heap.size, 2, none⟩ = some (.int .i64 0) ∧ w'.cell? ⟨w.heap.size, 3, none⟩ = some (.string ⟨#[]⟩)) ∧ w'.cell? ⟨w.heap.size + 1, 0, none⟩ = some (.int .i64 (m : Int)))) [6, 7, 8] (by kernel_rfl) ?_ (fun hH0 => ?_)
  · exact ⟨⟨HM5.out.cell 3 rfl 0 rfl, HM5.out.cell 3 rfl 1 rfl, HM5.out.cell 3 rfl 2 rfl, HM5.out.cell 3 rfl 3 rfl⟩, HM5.out.cell 2 rfl 0 rfl⟩
  have H0 := Tre.hid HM5.out.drew
  generalize hq : w5.drew = wq0 at H0 hH0 ⊢
  clear hq
  refine lPure (i := 1) (some 89) (v := ?_) (by rfl) (by kernel_rfl) (by kernel_rfl) (by kernel_rfl) (by kernel_rfl) (fun _ _ _ h => h) (by rfl) ?_ (keep_of hH0) ?_
  rotate_left
  · intro w; simp only [List.getElem?_toArray, List.getElem?_cons_succ, List.getElem?_cons_zero, Option.map_some, Option.some.injEq]; (first | (go_simp; done) | (go_simp; with_reducible rfl))
  try simp only [Act.put, List.setIfInBounds_toArray, List.set_cons_zero, List.set_cons_succ]
  refine lPure (i := 3) (some 91) (v := ?_) (by rfl) (by kernel_rfl) (by kernel_rfl) (by kernel_rfl) (by kernel_rfl) (fun _ _ _ h => h) (by rfl) ?_ (keep_of hH0) ?_
  rotate_left
  · intro w; simp only [List.getElem?_toArray, List.getElem?_cons_succ, List.getElem?_cons_zero, Option.map_some, Option.some.injEq]; (first | (go_simp; done) | (go_simp; with_reducible rfl))
  try simp only [Act.put, List.setIfInBounds_toArray, List.set_cons_zero, List.set_cons_succ]
  refine lTake (i := 0) (some 88) (v := ?_) (by rfl) (by kernel_rfl) (by kernel_rfl) (by kernel_rfl) (by kernel_rfl) (by kernel_rfl) (fun _ _ _ h => h) (by rfl) ?_ hH0 ?_
  rotate_left
  · intro w hSw; (try dsimp only at hSw); simp only [List.getElem?_toArray, List.getElem?_cons_zero, Option.map_some, Option.some.injEq]; (first | (go_simp; done) | (go_simp; with_reducible rfl))
  try simp only [Act.put, List.setIfInBounds_toArray, List.set_cons_zero, List.set_cons_succ]
  refine lOne 2 (by kernel_rfl) (LStep.op (fun K hK => ?_))
  go_simp
  refine (fail b s k wq0 (lexAt H0.out 4 rfl)).mono ?_
  rintro e w' ⟨rfl, rfl⟩
  have H9 := H0.out.allocR #[.int .i64 (k : Int), .int .i64 5] 48
  generalize hev : wq0.heap.size = ev at H9 ⊢
  generalize hw : wq0.alloc (.cells #[.int .i64 (k : Int), .int .i64 5] 48) = wq1 at H9 ⊢
  have H1 := Tre.hid H9
  clear H9 hw hev
  (try dsimp only)
  refine hK.out _ _ ?_ (fun hH1 => ?_)
  · exact ⟨⟨H1.out.cell 4 rfl 0 rfl, H1.out.cell 4 rfl 1 rfl, H1.out.cell 4 rfl 2 rfl, H1.out.cell 4 rfl 3 rfl⟩, H1.out.cell 3 rfl 0 rfl⟩
  clear hK K hH0
  try simp only [Act.put, List.setIfInBounds_toArray, List.set_cons_zero, List.set_cons_succ]
  refine lOne 4 (by kernel_rfl) (LStep.op (fun K hK => ?_))
  have H9 := H1.out.allocR #[.iface 44 (.pointer (some ⟨ev, 0, none⟩)), .iface 59 (.pointer (some ⟨N, 0, none⟩))] 24
  have hl0 := H9.cell 0 rfl 0 rfl
  have hl1 := H9.cell 0 rfl 1 rfl
  go_simp
  generalize hlb : wq1.heap.size = lb at H9 hl0 hl1 ⊢
  generalize hw : wq1.alloc (.cells #[.iface 44 (.pointer (some ⟨ev, 0, none⟩)), .iface 59 (.pointer (some ⟨N, 0, none⟩))] 24) = wq2 at H9 hl0 hl1 ⊢
  have H2 := Tre.hid H9
  have HL0 := Tre.hid hl0
  have HL1 := Tre.hid hl1
  clear H9 hw hlb hl0 hl1
  refine hK.out _ _ ?_ (fun hH2 => ?_)
  · exact ⟨⟨H2.out.cell 5 rfl 0 rfl, H2.out.cell 5 rfl 1 rfl, H2.out.cell 5 rfl 2 rfl, H2.out.cell 5 rfl 3 rfl⟩, H2.out.cell 4 rfl 0 rfl⟩
  clear hK K hH1
  try simp only [Act.put, List.setIfInBounds_toArray, List.set_cons_zero, List.set_cons_succ]
  refine lOne 5 (by kernel_rfl) (LStep.op (fun K hK => ?_))
  go_simp
  refine (errs.join2 lb 0 2 _ _ _ _ wq2 HL0.out HL1.out (by omega)).mono ?_
  rintro e wq3 ⟨q, vj, rfl, mj⟩
  obtain ⟨bs, H9⟩ := errJoin ((H2.out.call mj).del 2)
  have H3 := Tre.hid H9
  clear H9 mj HL0 HL1
  (try dsimp only)
  refine hK.out _ _ ?_ (fun hH3 => ?_)
  · exact ⟨⟨H3.out.cell 4 rfl 0 rfl, H3.out.cell 4 rfl 1 rfl, H3.out.cell 4 rfl 2 rfl, H3.out.cell 4 rfl 3 rfl⟩, H3.out.cell 3 rfl 0 rfl⟩
  clear hK K hH2
  try simp only [Act.put, List.setIfInBounds_toArray, List.set_cons_zero, List.set_cons_succ]
  refine lOne 6 (by kernel_rfl) (LFall.op (by kernel_rfl) (fun K hK => ?_))
  have g0 := H3.out.cell 4 rfl 0 rfl
  have g1 := H3.out.cell 4 rfl 1 rfl
  have g2 := H3.out.cell 4 rfl 2 rfl
  have g3 := H3.out.cell 4 rfl 3 rfl
  have f0 := H3.out.free 4 rfl 0
  have f1 := H3.out.free 4 rfl 1
  have f2 := H3.out.free 4 rfl 2
  have f3 := H3.out.free 4 rfl 3
  have H9 := ((((H3.out.setCell 4 rfl 0 (.int .i64 0)).setCell 4 rfl 1 (.int .i64 k)).setCell 4 rfl 2 (.int .i64 0)).setCell 4 rfl 3 (.string ⟨#[]⟩))
  go_simp
  generalize hw : ((((wq3.setCell ⟨w.heap.size, 0, none⟩ (.int .i64 0)).setCell ⟨w.heap.size, 1, none⟩ (.int .i64 k)).setCell ⟨w.heap.size, 2, none⟩ (.int .i64 0)).setCell ⟨w.heap.size, 3, none⟩ (.string ⟨#[]⟩)) = wq4 at H9 ⊢
  have H4 := Tre.hid H9
  clear hw H9 g0 g1 g2 g3 f0 f1 f2 f3
  refine hK.out _ _ ?_
  clear hK K hH3
  try simp only [Act.put, List.setIfInBounds_toArray, List.set_cons_zero, List.set_cons_succ]
  refine lOne 7 (by kernel_rfl) (LFall.op (by kernel_rfl) (fun K hK => ?_))
  have g0 := H4.out.cell 3 rfl 0 rfl
  have f0 := H4.out.free 3 rfl 0
  have H9 := H4.out.setCell 3 rfl 0 (.int .i64 0)
  go_simp
  generalize hw : wq4.setCell ⟨w.heap.size + 1, 0, none⟩ (.int .i64 0) = wq5 at H9 ⊢
  have H5 := Tre.hid H9
  clear hw H9 g0 f0
  refine hK.out _ _ ?_
  clear hK K
  try simp only [Act.put, List.setIfInBounds_toArray, List.set_cons_zero, List.set_cons_succ]
  refine lOne 8 (by kernel_rfl) (LFall.op (by kernel_rfl) (fun K hK => ?_))
  have g0 := H5.out.cell 2 rfl 0 rfl
  have f0 := H5.out.free 2 rfl 0
  have H9 := H5.out.setCell 2 rfl 0 (.iface 155 (.pointer (some ⟨q, 0, none⟩)))
  go_simp
  generalize hw : wq5.setCell ⟨w.heap.size + 1 + 1, 0, none⟩ (.iface 155 (.pointer (some ⟨q, 0, none⟩))) = wq6 at H9 ⊢
  have H6 := Tre.hid H9
  clear hw H9 g0 f0
  refine hK.out _ _ ?_
  clear hK K
  try simp only [Act.put, List.setIfInBounds_toArray, List.set_cons_zero, List.set_cons_succ]
  refine lDone (by kernel_rfl) ?_
  refine NoPanic.normal ?_
  go_wp2_with fail
  have H9 : Mem w0 wq6 (errR bs (.iface 155 (.pointer (some ⟨q, 0, none⟩))) k 5 :: nextL w1.heap.size w.heap.size 0 k 0 ⟨#[]⟩ 0 (.iface 155 (.pointer (some ⟨q, 0, none⟩))) x b s k rs) := H6.out
  refine bodyPostM_ret (next_results _ w.heap.size 0 k 0 0 ⟨#[]⟩ (.iface 155 (.pointer (some ⟨q, 0, none⟩))) _ rfl rfl rfl (H9.heap 4 rfl) (H9.heap 3 rfl) (H9.heap 2 rfl)) rfl ?_
  exact .inr ⟨HDM.out, _, _, _, _, _, _, bs, rfl, ((((H9.del 1).del 1).del 1).del 1)⟩
end Go.Proofs.YtcpcheengfgpaaaGreatDoor.lex
