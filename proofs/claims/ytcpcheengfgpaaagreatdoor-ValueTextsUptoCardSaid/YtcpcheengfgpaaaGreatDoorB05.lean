/- Plain laws of the lexer: a text with more behind it, a text cut behind a token, names. The walks of lex.IsKey, lex.IsName, of the reference's word, IsKey, IsName: one plain function each, the same on both sides. Plain: names are one token; the lexer's answer at a given text, by reckoning. -/
import Derived.Test.YtcpcheengfgpaaaGreatDoorB04
import Derived.Test.YtcpcheengfgpaaaGreatDoorShelf
set_option linter.unusedVariables false
namespace Go.Tre
theorem skipS_more {l r : List UInt8} (b : List UInt8) (h : skipS l = some r) : skipS (l ++ 32 :: b) = if r = [] then skipS b else some (r ++ 32 :: b) := by
  induction hn : l.length using Nat.strongRecOn generalizing l with
  | _ n ih =>
    by_cases hne : ∃ t, l.dropWhile blank = 40 :: 42 :: t
    · obtain ⟨t, ht⟩ := hne
      rw [skipS_note' ht] at h
      cases hne : noteEnd t with
      | none => rw [hne] at h; cases h
      | some t' =>
        rw [hne] at h
        have h' : skipS t' = some r := h
        obtain ⟨q, hq, hq'⟩ := dropWhile_parts blank l
        rw [ht] at hq
        obtain ⟨m, hm, hm'⟩ := noteEnd_parts hne
        have hl : t'.length < n := by
          have h1 := congrArg List.length hq
          have h2 := congrArg List.length hm
          simp at h1 h2
          omega
        have e : l ++ 32 :: b = q ++ (40 :: 42 :: (m ++ (t' ++ 32 :: b))) := by
          conv => lhs; rw [hq, hm]
          simp
        rw [e, skipS_note' (hq' _ (.inr ⟨_, _, rfl, by decide⟩)), hm' _]
        exact ih _ hl h' rfl
    · have hne' : ∀ t, l.dropWhile blank ≠ 40 :: 42 :: t := fun t ht => hne ⟨t, ht⟩
      rw [skipS_rest' hne'] at h
      injection h with h
      obtain ⟨q, hq, hq'⟩ := dropWhile_parts blank l
      rw [h] at hq
      cases r with
      | nil =>
        rw [if_pos rfl]
        apply skipS_congr
        rw [List.append_nil] at hq
        have h1 : l.dropWhile blank = [] := h
        have : ∀ l : List UInt8, l.dropWhile blank = [] → (l ++ 32 :: b).dropWhile blank = b.dropWhile blank := by
          intro l
          induction l with
          | nil => intro _; rw [List.nil_append, List.dropWhile_cons, if_pos (by decide)]
          | cons a l ih2 =>
            intro hl
            rw [List.dropWhile_cons] at hl
            split at hl
            · rename_i ha
              rw [List.cons_append, List.dropWhile_cons, if_pos ha]
              exact ih2 hl
            · cases hl
        exact this l h1
      | cons c r =>
        rw [if_neg (by simp)]
        have hc := dropWhile_head h
        have e : l ++ 32 :: b = q ++ (c :: r ++ 32 :: b) := by
          conv => lhs; rw [hq]
          simp
        have hd : (l ++ 32 :: b).dropWhile blank = c :: r ++ 32 :: b := by
          rw [e]
          exact hq' _ (.inr ⟨c, r ++ 32 :: b, rfl, hc⟩)
        rw [skipS_rest', hd]
        intro t ht
        rw [hd] at ht
        cases r with
        | nil => simp at ht
        | cons d r =>
          simp at ht
          exact hne' r (by rw [h, ht.1, ht.2.1])
/-! the next token -/
theorem goes32 (b : Bool) : goesB ((32 : UInt8).toNat) b = false := by cases b <;> decide
theorem wordFrom_more : ∀ (l : List UInt8) (b : Bool) (u : List UInt8), wordFrom b (l ++ 32 :: u) = wordFrom b l
  | [], b, u => by
    rw [List.nil_append]
    show wordFrom b (32 :: u) = 0
    unfold wordFrom
    rw [if_neg (by rw [goes32]; decide)]
  | c :: l, b, u => by
    rw [List.cons_append, wordFrom, wordFrom, wordFrom_more l false u]
theorem wordFrom_take : ∀ (l : List UInt8) (b : Bool) (m : Nat), wordFrom b l ≤ m → wordFrom b (l.take m) = wordFrom b l
  | [], b, m, _ => by simp
  | c :: l, b, 0, h => by
    unfold wordFrom at h
    split at h
    · omega
    · rename_i hg
      rw [List.take_zero]
      unfold wordFrom
      rw [if_neg hg]
  | c :: l, b, m + 1, h => by
    rw [List.take_succ_cons, wordFrom, wordFrom]
    split
    · rename_i hg
      unfold wordFrom at h
      rw [if_pos hg] at h
      rw [wordFrom_take l false m (by omega)]
    · rfl
theorem quotedS_more : ∀ (k : Nat) (l u : List UInt8), l.length ≤ k → ∀ p, quotedS l = some p → quotedS (l ++ u) = some p ∧ ∀ m, p.2 ≤ m → quotedS (l.take m) = some p
  | 0, l, u, hk, p, h => by
    have : l = [] := List.eq_nil_of_length_eq_zero (by omega)
    subst this
    simp [quotedS] at h
  | k + 1, [], u, _, p, h => by simp [quotedS] at h
  | k + 1, c :: r, u, hk, p, h => by
    simp only [List.length_cons] at hk
    unfold quotedS at h
    split at h
    · rename_i hc
      cases h
      refine ⟨by rw [List.cons_append]; unfold quotedS; rw [if_pos hc], fun m hm => ?_⟩
      cases m with
      | zero => simp at hm
      | succ m => rw [List.take_succ_cons]; unfold quotedS; rw [if_pos hc]
    · rename_i hc
      split at h
      · rename_i hc2
        cases r with
        | nil => simp at h
        | cons d r =>
          simp only [List.length_cons] at hk
          simp only at h
          split at h
          · rename_i hd
            obtain ⟨q, hq, rfl⟩ := Option.map_eq_some_iff.1 h
            have ih := quotedS_more k r u (by omega) q hq
            refine ⟨?_, fun m hm => ?_⟩
            · rw [List.cons_append, List.cons_append]
              conv => lhs; unfold quotedS
              rw [if_neg hc, if_pos hc2]
              simp only
              rw [if_pos hd, ih.1]; rfl
            · simp only at hm
              obtain ⟨m, rfl⟩ : ∃ m', m = m' + 2 := ⟨m - 2, by omega⟩
              rw [List.take_succ_cons, List.take_succ_cons]
              conv => lhs; unfold quotedS
              rw [if_neg hc, if_pos hc2]
              simp only
              rw [if_pos hd, ih.2 m (by omega)]; rfl
          · rename_i hd
            split at h
            · rename_i hd2
              obtain ⟨q, hq, rfl⟩ := Option.map_eq_some_iff.1 h
              have ih := quotedS_more k r u (by omega) q hq
              refine ⟨?_, fun m hm => ?_⟩
              · rw [List.cons_append, List.cons_append]
                conv => lhs; unfold quotedS
                rw [if_neg hc, if_pos hc2]
                simp only
                rw [if_neg hd, if_pos hd2, ih.1]; rfl
              · simp only at hm
                obtain ⟨m, rfl⟩ : ∃ m', m = m' + 2 := ⟨m - 2, by omega⟩
                rw [List.take_succ_cons, List.take_succ_cons]
                conv => lhs; unfold quotedS
                rw [if_neg hc, if_pos hc2]
                simp only
                rw [if_neg hd, if_pos hd2, ih.2 m (by omega)]; rfl
            · cases h
      · rename_i hc2
        obtain ⟨q, hq, rfl⟩ := Option.map_eq_some_iff.1 h
        have ih := quotedS_more k r u (by omega) q hq
        refine ⟨?_, fun m hm => ?_⟩
        · rw [List.cons_append]
          conv => lhs; unfold quotedS
          rw [if_neg hc, if_neg hc2, ih.1]; rfl
        · simp only at hm
          obtain ⟨m, rfl⟩ : ∃ m', m = m' + 1 := ⟨m - 1, by omega⟩
          rw [List.take_succ_cons]
          conv => lhs; unfold quotedS
          rw [if_neg hc, if_neg hc2, ih.2 m (by omega)]; rfl
theorem takeWhile_more (u : List UInt8) : ∀ l : List UInt8, (l ++ 32 :: u).takeWhile isDig = l.takeWhile isDig
  | [] => by rw [List.nil_append, List.takeWhile_cons, if_neg (by decide)]; rfl
  | c :: l => by
    rw [List.cons_append, List.takeWhile_cons, List.takeWhile_cons, takeWhile_more u l]
theorem takeWhile_take' : ∀ (l : List UInt8) (m : Nat), (l.takeWhile isDig).length ≤ m → (l.take m).takeWhile isDig = l.takeWhile isDig
  | [], m, _ => by simp
  | c :: l, 0, h => by
    rw [List.takeWhile_cons] at h ⊢
    split at h
    · simp at h
    · rename_i hc
      rw [if_neg hc]; rfl
  | c :: l, m + 1, h => by
    rw [List.takeWhile_cons] at h
    rw [List.take_succ_cons, List.takeWhile_cons, List.takeWhile_cons]
    split
    · rename_i hc
      rw [if_pos hc] at h
      rw [takeWhile_take' l m (by simpa using h)]
    · rfl
theorem prefix_more : ∀ (y l u : List UInt8), (∀ c ∈ y, c ≠ 32) → y.isPrefixOf (l ++ 32 :: u) = y.isPrefixOf l
  | [], _, _, _ => by simp
  | c :: y, [], u, h => by
    have := h c (by simp)
    simp [List.isPrefixOf, this]
  | c :: y, d :: l, u, h => by
    rw [List.cons_append, List.isPrefixOf, List.isPrefixOf, prefix_more y l u (fun c hc => h c (by simp [hc]))]
theorem symbols_no : ∀ y ∈ symbolsS, ∀ c ∈ y, c ≠ 32 := by decide
theorem find_congr {α : Type} {p q : α → Bool} : ∀ (l : List α), (∀ x ∈ l, p x = q x) → l.find? p = l.find? q
  | [], _ => rfl
  | x :: l, h => by
    rw [List.find?_cons, List.find?_cons, h x (by simp), find_congr l (fun y hy => h y (by simp [hy]))]
theorem nextS_more {l : List UInt8} {t : Tok} {n : Nat} (u : List UInt8) (h : nextS l = some (t, n)) : nextS (l ++ 32 :: u) = some (t, n) := by
  unfold nextS at h ⊢
  rw [wordFrom_more]
  split at h
  · rename_i h0
    rw [if_pos h0]
    split at h
    · cases h
    · rename_i h1
      rw [if_neg h1]
      have hl := wordFrom_len l true
      rw [List.take_append_of_le_length hl]
      exact h
  · rename_i h0
    rw [if_neg h0]
    cases l with
    | nil => cases h
    | cons c r =>
      rw [List.cons_append]
      simp only at h ⊢
      split at h
      · rename_i hc
        rw [if_pos hc, wordFrom_more]
        split at h
        · cases h
        · rename_i h1
          rw [if_neg h1, List.take_append_of_le_length (wordFrom_len r true)]
          exact h
      · rename_i hc
        rw [if_neg hc]
        split at h
        · rename_i hd
          rw [if_pos hd]
          rw [← List.cons_append, takeWhile_more]
          exact h
        · rename_i hd
          rw [if_neg hd]
          split at h
          · rename_i hq
            rw [if_pos hq]
            obtain ⟨p, hp, e⟩ := Option.map_eq_some_iff.1 h
            rw [(quotedS_more _ r (32 :: u) (Nat.le_refl _) p hp).1]
            exact congrArg some e
          · rename_i hq
            rw [if_neg hq, ← List.cons_append]
            rw [find_congr symbolsS (fun y hy => prefix_more y (c :: r) u (symbols_no y hy))]
            exact h
theorem nextS_take {l : List UInt8} {t : Tok} {n m : Nat} (hm : n ≤ m) (h : nextS l = some (t, n)) : nextS (l.take m) = some (t, n) := by
  have hnl := nextS_len h
  unfold nextS at h ⊢
  split at h
  · rename_i h0
    split at h
    · cases h
    · rename_i h1
      cases h
      rw [wordFrom_take l true m hm, if_pos h0, if_neg h1, List.take_take, Nat.min_eq_left hm]
  · rename_i h0
    have h0' : wordFrom true l ≤ m := by omega
    rw [wordFrom_take l true m h0', if_neg h0]
    cases l with
    | nil => cases h
    | cons c r =>
      obtain ⟨m, rfl⟩ : ∃ m', m = m' + 1 := ⟨m - 1, by omega⟩
      rw [List.take_succ_cons]
      simp only at h ⊢
      split at h
      · rename_i hc
        rw [if_pos hc]
        split at h
        · cases h
        · rename_i h1
          cases h
          rw [wordFrom_take r true m (by omega), if_neg h1, List.take_take, Nat.min_eq_left (by omega)]
      · rename_i hc
        rw [if_neg hc]
        split at h
        · rename_i hd
          rw [if_pos hd]
          split at h
          · rename_i hv
            cases h
            rw [← List.take_succ_cons, takeWhile_take' _ _ hm, if_pos hv]
          · cases h
        · rename_i hd
          rw [if_neg hd]
          split at h
          · rename_i hq
            rw [if_pos hq]
            obtain ⟨p, hp, e⟩ := Option.map_eq_some_iff.1 h
            cases e
            rw [(quotedS_more _ r [] (Nat.le_refl _) p hp).2 m (by omega)]
            rfl
          · rename_i hq
            rw [if_neg hq]
            obtain ⟨y, hy, e⟩ := Option.map_eq_some_iff.1 h
            cases e
            rw [← List.take_succ_cons]
            rw [List.find?_eq_some_iff_append] at hy
            obtain ⟨h1, xs, bs, h2, h3⟩ := hy
            have : symbolsS.find? (fun x => x.isPrefixOf ((c :: r).take (m + 1))) = some y := by
              rw [List.find?_eq_some_iff_append]
              refine ⟨?_, xs, bs, h2, fun a ha => ?_⟩
              · rw [List.isPrefixOf_iff_prefix] at h1 ⊢
                exact List.prefix_take_iff.2 ⟨h1, hm⟩
              · have := h3 a ha
                rw [Bool.not_eq_true', ← Bool.not_eq_true, List.isPrefixOf_iff_prefix] at this ⊢
                exact fun hp => this (hp.trans (List.take_prefix _ _))
            rw [this]; rfl
/-! whole texts -/
theorem allS_cut : ∀ (k : Nat) (l : List UInt8), l.length ≤ k → ∀ (N : Nat), l.length ≤ N → ∀ x, allS N l = some x → ∀ (i : Nat) (t : Tok), x[i]? = some t →
    N - l.length ≤ t.at_ ∧ t.at_ ≤ N ∧ allS t.at_ (l.take (t.at_ - (N - l.length))) = some (x.take i ++ [⟨0, t.at_, 0, []⟩])
  | k, l, hk, N, hN, x, hx, i, t, ht => by
    rw [allS_eq] at hx
    cases hs : skipS l with
    | none => rw [hs] at hx; cases hx
    | some r =>
      have hrl := skipS_len hs
      obtain ⟨p, hp, hp'⟩ := skipS_parts hs
      have hpl := congrArg List.length hp
      rw [List.length_append] at hpl
      have hempty : ∀ M, allS M p = some [⟨0, M, 0, []⟩] := fun M => by
        have := hp' [] (List.nil_prefix)
        rw [List.append_nil] at this
        rw [allS_eq, this]
      cases r with
      | nil =>
        rw [hs] at hx
        cases hx
        cases i with
        | succ i => simp at ht
        | zero =>
          simp at ht
          subst ht
          refine ⟨by simp, by simp, ?_⟩
          simp only [List.take_zero, List.nil_append]
          rw [show N - (N - l.length) = l.length by omega, List.take_length, allS_eq, hs]
      | cons c r =>
        have hcr : (c :: r).length = r.length + 1 := rfl
        rw [hs] at hx
        simp only at hx
        cases hn : nextS (c :: r) with
        | none => rw [hn] at hx; cases hx
        | some q =>
          obtain ⟨t0, n⟩ := q
          rw [hn] at hx
          obtain ⟨xs, hxs, rfl⟩ := Option.map_eq_some_iff.1 hx
          have hnl := nextS_len hn
          cases i with
          | zero =>
            simp at ht
            subst ht
            refine ⟨by simp only; omega, by simp, ?_⟩
            simp only [List.take_zero, List.nil_append]
            show allS (N - (c :: r).length) (l.take (N - (c :: r).length - (N - l.length))) = some [⟨0, N - (c :: r).length, 0, []⟩]
            rw [show N - (c :: r).length - (N - l.length) = p.length by omega]
            rw [hp, List.take_left']
            · exact hempty _
            · rfl
          | succ i =>
            simp at ht
            have hdl : ((c :: r).drop n).length = (c :: r).length - n := by simp
            cases k with
            | zero => simp only [List.length_cons] at hrl; omega
            | succ k =>
              obtain ⟨i1, i2, i3⟩ := allS_cut k ((c :: r).drop n) (by omega) N (by omega) xs hxs i t ht
              refine ⟨by omega, i2, ?_⟩
              have hcut : l.take (t.at_ - (N - l.length)) = p ++ (c :: r).take (t.at_ - (N - (c :: r).length)) := by
                have key : ∀ K, p.length ≤ K → l.take K = p ++ (c :: r).take (K - p.length) := fun K hK => by
                  rw [hp, List.take_append, List.take_of_length_le hK]
                rw [key _ (by omega)]
                congr 2
                omega
              have hge : n ≤ t.at_ - (N - (c :: r).length) := by omega
              have hsk := hp' ((c :: r).take (t.at_ - (N - (c :: r).length))) (List.take_prefix _ _)
              have hnx := nextS_take hge hn
              have hlen : ((c :: r).take (t.at_ - (N - (c :: r).length))).length = t.at_ - (N - (c :: r).length) := by
                rw [List.length_take]; omega
              have hdrop : ((c :: r).take (t.at_ - (N - (c :: r).length))).drop n = ((c :: r).drop n).take (t.at_ - (N - ((c :: r).drop n).length)) := by
                rw [List.drop_take, hdl]
                congr 1
                omega
              rw [hcut, allS_eq, hsk]
              cases hm : (c :: r).take (t.at_ - (N - (c :: r).length)) with
              | nil => rw [hm] at hlen; simp at hlen; omega
              | cons c' r' =>
                simp only
                rw [← hm, hnx]
                simp only
                rw [hdrop, i3, hlen]
                simp only [Option.map_some, List.take_succ_cons, List.cons_append]
                have hat : t.at_ - (t.at_ - (N - (c :: r).length)) = N - (c :: r).length := by omega
                rw [hat]
theorem allS_shift : ∀ (k : Nat) (l : List UInt8), l.length ≤ k → ∀ (N d : Nat), l.length ≤ N → allS (N + d) l = (allS N l).map (·.map fun t => { t with at_ := t.at_ + d })
  | k, l, hk, N, d, hN => by
    rw [allS_eq, allS_eq N]
    cases hs : skipS l with
    | none => rfl
    | some r =>
      have hrl := skipS_len hs
      cases r with
      | nil => rfl
      | cons c r =>
        have hcr : (c :: r).length = r.length + 1 := rfl
        simp only
        cases hn : nextS (c :: r) with
        | none => rfl
        | some q =>
          obtain ⟨t0, n⟩ := q
          simp only
          have hnl := nextS_len hn
          have hdl : ((c :: r).drop n).length = (c :: r).length - n := by simp
          cases k with
          | zero => simp only [List.length_cons] at hrl; omega
          | succ k =>
            rw [allS_shift k ((c :: r).drop n) (by omega) N d (by omega)]
            cases allS N ((c :: r).drop n) with
            | none => rfl
            | some xs =>
              simp only [Option.map_some, List.map_cons]
              congr 3
              omega
theorem allS_more : ∀ (k : Nat) (l : List UInt8), l.length ≤ k → ∀ (N : Nat) (b : List UInt8) (x : List Tok), l.length ≤ N → allS N l = some x →
    allS (N + (b.length + 1)) (l ++ 32 :: b) = (allS (N + (b.length + 1)) b).map (x.dropLast ++ ·)
  | k, l, hk, N, b, x, hN, hx => by
    rw [allS_eq] at hx
    cases hs : skipS l with
    | none => rw [hs] at hx; cases hx
    | some r =>
      have hrl := skipS_len hs
      have hm := skipS_more b hs
      cases r with
      | nil =>
        rw [hs] at hx
        cases hx
        rw [if_pos rfl] at hm
        rw [allS_eq, hm, ← allS_eq]
        cases allS (N + (b.length + 1)) b <;> rfl
      | cons c r =>
        have hcr : (c :: r).length = r.length + 1 := rfl
        rw [if_neg (by simp)] at hm
        rw [hs] at hx
        simp only at hx
        cases hn : nextS (c :: r) with
        | none => rw [hn] at hx; cases hx
        | some q =>
          obtain ⟨t0, n⟩ := q
          rw [hn] at hx
          obtain ⟨xs, hxs, rfl⟩ := Option.map_eq_some_iff.1 hx
          have hnl := nextS_len hn
          have hdl : ((c :: r).drop n).length = (c :: r).length - n := by simp
          have hnx := nextS_more b hn
          cases k with
          | zero => simp only [List.length_cons] at hrl; omega
          | succ k =>
            have ih := allS_more k ((c :: r).drop n) (by omega) N b xs (by omega) hxs
            rw [allS_eq, hm, List.cons_append]
            simp only
            rw [← List.cons_append, hnx]
            simp only
            rw [List.drop_append_of_le_length hnl.2, ih]
            have hne : xs ≠ [] := by
              intro e
              subst e
              rw [allS_eq] at hxs
              cases hs2 : skipS ((c :: r).drop n) with
              | none => rw [hs2] at hxs; cases hxs
              | some r2 =>
                rw [hs2] at hxs
                cases r2 with
                | nil => cases hxs
                | cons c2 r2 =>
                  simp only at hxs
                  cases hn2 : nextS (c2 :: r2) with
                  | none => rw [hn2] at hxs; cases hxs
                  | some q2 =>
                    rw [hn2] at hxs
                    obtain ⟨_, _, e⟩ := Option.map_eq_some_iff.1 hxs
                    cases e
            have hat : N + (b.length + 1) - (c :: r ++ 32 :: b).length = N - (c :: r).length := by
              rw [List.length_append, List.length_cons (a := 32)]; omega
            rw [hat]
            cases allS (N + (b.length + 1)) b with
            | none => rfl
            | some ys =>
              simp only [Option.map_some]
              rw [List.dropLast_cons_of_ne_nil hne]
              rfl
/-- two texts, a blank between -/
theorem lexS_join {a b : List UInt8} {x y : List Tok} (ha : lexS a = some x) (hb : lexS b = some y) (hl : a.length + 1 + b.length ≤ 65536) :
    lexS (a ++ 32 :: b) = some (x.dropLast ++ y.map fun t => { t with at_ := t.at_ + (a.length + 1) }) := by
  unfold lexS at *
  rw [if_pos (by omega)] at ha hb
  rw [if_pos (by rw [List.length_append, List.length_cons]; omega), List.length_append, List.length_cons, allS_more _ a (Nat.le_refl _) a.length b x (Nat.le_refl _) ha,
    show a.length + (b.length + 1) = b.length + (a.length + 1) by omega, allS_shift _ b (Nat.le_refl _) b.length (a.length + 1) (Nat.le_refl _), hb]
  rfl
/-- a text cut behind a token -/
theorem lexS_cut {a : List UInt8} {x : List Tok} (ha : lexS a = some x) {i : Nat} {t : Tok} (ht : x[i]? = some t) : t.at_ ≤ a.length ∧ lexS (a.take t.at_) = some (x.take i ++ [⟨0, t.at_, 0, []⟩]) := by
  unfold lexS at *
  split at ha
  · rename_i hl
    obtain ⟨_, h2, h3⟩ := allS_cut _ a (Nat.le_refl _) a.length (Nat.le_refl _) x ha i t ht
    rw [Nat.sub_self, Nat.sub_zero] at h3
    have hlen : (a.take t.at_).length = t.at_ := by rw [List.length_take]; omega
    rw [hlen, if_pos (by omega)]
    exact ⟨h2, h3⟩
  · cases ha
theorem lexS_ne {a : List UInt8} {x : List Tok} (ha : lexS a = some x) : x ≠ [] := by
  unfold lexS at ha
  split at ha
  · intro e
    subst e
    rw [allS_eq] at ha
    cases hs2 : skipS a with
    | none => rw [hs2] at ha; cases ha
    | some r2 =>
      rw [hs2] at ha
      cases r2 with
      | nil => cases ha
      | cons c2 r2 =>
        simp only at ha
        cases hn2 : nextS (c2 :: r2) with
        | none => rw [hn2] at ha; cases ha
        | some q2 =>
          rw [hn2] at ha
          obtain ⟨_, _, e⟩ := Option.map_eq_some_iff.1 ha
          cases e
  · cases ha
end Go.Tre
namespace Go.Tre
/-- the library's variable holds a number -/
def MaxAt (w : World) : Prop := ∃ m, w.cell? ⟨5, 0, none⟩ = some (.int .i64 m)
theorem MaxAt.below {w w' : World} (h : MaxAt w) (hb : RowKit.Below w.heap.size w w') : MaxAt w' := by
  obtain ⟨m, hm⟩ := h
  exact ⟨m, cell_below hb hm⟩
def isName (s : ByteArray) : Bool := decide (s.size ≠ 0) && decide (s.size ≤ 100) && decide (wordLen s = s.size) && !isKey s
end Go.Tre
namespace Go.Proofs.YtcpcheengfgpaaaGreatDoor.lex
open Go.RowKit Go.Tre

theorem contains (s sub : ByteArray) (r : Bool) (w : World) (hs : s.size < 4294967281) (hm : MaxAt w) (hr : Lib.contains s.data.toList sub.data.toList = r) :
    Calls Tryz.prog 78 #[.string s, .string sub] w fun e w' => e = .returned (.bool r) ∧ w = w' := by
  obtain ⟨m, hm⟩ := hm
  refine (Tryz.strings_Contains s sub m w hs hm).mono ?_
  rintro e w' ⟨rfl, hw⟩
  exact ⟨by rw [hr], hw.symm⟩

theorem isKey_blank {s : ByteArray} (h : (32 : UInt8) ∈ s.data.toList) : isKey s = false := by
  unfold isKey
  rw [← Bool.not_eq_true, List.contains_iff_mem]
  exact fun hm => keyWords_no _ hm _ h rfl
theorem toList_empty {s : ByteArray} : s.data.toList = [] ↔ s.size = 0 := by
  rw [← List.length_eq_zero_iff]; simp
theorem isKey_empty {s : ByteArray} (h : s.size = 0) : isKey s = false := by
  unfold isKey
  rw [toList_empty.2 h]
  decide
theorem app3 (s : ByteArray) : ((⟨#[32]⟩ : ByteArray) ++ s ++ ⟨#[32]⟩).data.toList = 32 :: (s.data.toList ++ [32]) := by
  simp [ByteArray.data_append]

theorem emp1 {s : ByteArray} (h : s.size = 0) : s.toList.isEmpty = true := by rw [ByteArray.toList_eq, toList_empty.2 h]; rfl
theorem emp0 {s : ByteArray} (h : ¬ s.size = 0) : s.toList.isEmpty = false := by
  rw [ByteArray.toList_eq]
  cases hl : s.data.toList with
  | nil => exact absurd (toList_empty.1 hl) h
  | cons a l => rfl
theorem keysText (s : ByteArray) (h : ¬ (32 : UInt8) ∈ s.data.toList) (h0 : ¬ s.size = 0) (K : List UInt8) (hK : K = spaced keyWords) : Lib.contains K ((⟨#[32]⟩ : ByteArray) ++ s ++ ⟨#[32]⟩).data.toList = isKey s := by
  rw [hK, app3]
  exact contains_keys _ h (fun e => h0 (toList_empty.1 e))

set_option maxHeartbeats 1000000 in
theorem isKey_any (s : ByteArray) (w : World) (hs : s.size ≤ 8388608) (hm : MaxAt w) :
    Calls Tryz.prog 54 #[.string s] w fun e w' => e = .returned (.bool (isKey s)) ∧ w = w' := by
  by_cases h0 : s.size = 0
  · have H := Tre.hid (isKey_empty h0)
    have e0 := emp1 h0
    have e1 : (!s.toList.isEmpty) = false := by rw [e0]; rfl
    clear h0
    go_enter Tryz.func54, Tryz.ntmps54
    go_wp2_with fail
    go_ret
    exact ⟨ret_bool H.out.symm, rfl⟩
  · have e0 := emp0 h0
    have e1 : (!s.toList.isEmpty) = true := by rw [e0]; rfl
    have hc := contains_blank s.data.toList
    by_cases hb : (32 : UInt8) ∈ s.data.toList
    · have H := Tre.hid (isKey_blank hb)
      have C : Hid (Lib.contains s.data.toList [32] = true) := by show _ = _; rw [hc]; simp [hb]
      clear hc hb h0
      go_enter Tryz.func54, Tryz.ntmps54
      go_wp2_with fail
      refine (contains s _ true _ (by omega) hm C.out).mono ?_
      rintro e w' ⟨rfl, rfl⟩
      go_wp2_with fail
      go_ret
      exact ⟨ret_bool H.out.symm, rfl⟩
    · have C : Hid (Lib.contains s.data.toList [32] = false) := by show _ = _; rw [hc]; simp [hb]
      have KT := Tre.hid (keysText s hb h0)
      clear hc hb h0
      go_enter Tryz.func54, Tryz.ntmps54
      go_wp2_with fail
      refine (contains s _ false _ (by omega) hm C.out).mono ?_
      rintro e w' ⟨rfl, rfl⟩
      go_wp2_with fail
      refine (contains _ _ (isKey s) _ ?_ hm (KT.out _ ?_)).mono ?_
      · decide
      · decide
      rintro e w' ⟨rfl, rfl⟩
      go_wp2_with fail
      go_ret
      exact ⟨rfl, rfl⟩

theorem isName_of {s : ByteArray} {b : Bool} (h : (decide (s.size ≠ 0) && decide (s.size ≤ 100) && decide (wordLen s = s.size) && !isKey s) = b) : isName s = b := h
theorem wordFrom_le : ∀ (l : List UInt8) (b : Bool), wordFrom b l ≤ l.length
  | [], _ => Nat.le_refl _
  | c :: r, b => by
    unfold wordFrom
    split
    · have := wordFrom_le r false; simp; omega
    · simp
theorem wordLen_le (s : ByteArray) : wordLen s ≤ s.size := by have := wordFrom_le s.data.toList true; simpa [wordLen] using this

theorem b0 (u : UInt8) : (0 : Int) ≤ u.toNat := Int.natCast_nonneg _
theorem b255 (u : UInt8) : (u.toNat : Int) ≤ 255 := by have := u.toNat_lt; omega
/-! the reference's -/
end Go.Proofs.YtcpcheengfgpaaaGreatDoor.lex
namespace Go.Tre
theorem goes_blank {c : UInt8} {b : Bool} (h : goesB c.toNat b = true) : blank c = false ∧ c ≠ 40 := by
  constructor
  · cases hb : blank c with
    | false => rfl
    | true =>
      exfalso
      simp [blank] at hb
      rcases hb with ((rfl | rfl) | rfl) | rfl <;> (revert h; cases b <;> decide)
  · rintro rfl
    revert h
    cases b <;> decide
theorem skipS_word {c : UInt8} {r : List UInt8} {b : Bool} (h : goesB c.toNat b = true) : skipS (c :: r) = some (c :: r) := by
  obtain ⟨h1, h2⟩ := goes_blank h
  have hd : (c :: r).dropWhile blank = c :: r := by rw [List.dropWhile_cons, if_neg (by rw [h1]; decide)]
  rw [skipS_rest', hd]
  intro t ht
  rw [hd] at ht
  injection ht with ht
  exact h2 ht
theorem skipS_nil : skipS [] = some [] := by rw [skipS_rest' (by intro r h; cases h)]; rfl
theorem name_one {s : ByteArray} (h : isName s = true) : lexS s.data.toList = some [⟨1, 0, 0, s.data.toList⟩, ⟨0, s.size, 0, []⟩] := by
  unfold isName at h
  simp only [Bool.and_eq_true, decide_eq_true_eq, Bool.not_eq_true', ne_eq] at h
  obtain ⟨⟨⟨h0, h1⟩, h2⟩, h3⟩ := h
  have hsz : s.data.toList.length = s.size := rfl
  have hw : wordFrom true s.data.toList = s.data.toList.length := h2
  have hN : s.data.toList.length ≤ 65536 := by omega
  unfold lexS
  rw [if_pos hN]
  have hkey : keyWords.contains s.data.toList = false := h3
  rw [← hsz] at h0 h1
  revert hw hkey h0 h1
  rw [← hsz]
  generalize s.data.toList = l
  intro h0 h1 hw hkey
  cases l with
  | nil => exact absurd rfl h0
  | cons c r =>
    have hg : goesB c.toNat true = true := by
      cases hg : goesB c.toNat true with
      | true => rfl
      | false =>
        unfold wordFrom at hw
        rw [if_neg (by rw [hg]; decide)] at hw
        simp at hw
    have hn : nextS (c :: r) = some (⟨1, 0, 0, c :: r⟩, (c :: r).length) := by
      unfold nextS
      rw [hw, if_pos (by simp), if_neg (by omega), List.take_length, hkey]
      rfl
    rw [allS_eq, skipS_word hg]
    simp only
    rw [hn]
    simp only
    rw [List.drop_length, allS_eq, skipS_nil]
    simp
theorem nextS_name {l : List UInt8} {t : Tok} {n : Nat} (h : nextS l = some (t, n)) (hk : t.kind = 1) : wordFrom true l = n ∧ 0 < n ∧ n ≤ 100 ∧ t.s = l.take n ∧ keyWords.contains (l.take n) = false := by
  unfold nextS at h
  split at h
  · rename_i h0
    split at h
    · cases h
    · rename_i h1
      cases h
      refine ⟨rfl, h0, by omega, rfl, ?_⟩
      cases hc : keyWords.contains (l.take (wordFrom true l)) with
      | false => rfl
      | true => rw [hc] at hk; simp at hk
  · exfalso
    split at h
    · cases h
    · split at h
      · split at h
        · cases h
        · cases h; simp at hk
      · split at h
        · simp only at h
          split at h
          · cases h; simp at hk
          · cases h
        · split at h
          · obtain ⟨p, _, e⟩ := Option.map_eq_some_iff.1 h
            cases e; simp at hk
          · obtain ⟨p, _, e⟩ := Option.map_eq_some_iff.1 h
            cases e; simp at hk
theorem name_only {s : ByteArray} {ts : List Tok} {a : Nat} (h : lexS s.data.toList = some ts) (h0 : ts[0]? = some ⟨1, a, 0, s.data.toList⟩) : isName s = true := by
  unfold lexS at h
  split at h
  · have hsz : s.data.toList.length = s.size := rfl
    rw [allS_eq] at h
    cases hs : skipS s.data.toList with
    | none => rw [hs] at h; cases h
    | some r =>
      rw [hs] at h
      obtain ⟨p, hp, _⟩ := skipS_parts hs
      cases r with
      | nil => cases h; simp at h0
      | cons c r =>
        simp only at h
        cases hn : nextS (c :: r) with
        | none => rw [hn] at h; cases h
        | some q =>
          obtain ⟨t, n⟩ := q
          rw [hn] at h
          obtain ⟨xs, _, rfl⟩ := Option.map_eq_some_iff.1 h
          simp only [List.getElem?_cons_zero, Option.some.injEq] at h0
          have hk : t.kind = 1 := by have := congrArg Tok.kind h0; exact this
          have hts : t.s = s.data.toList := by have := congrArg Tok.s h0; exact this
          obtain ⟨n1, n2, n3, n4, n5⟩ := nextS_name hn hk
          have hnl := nextS_len hn
          have hlen := congrArg List.length (n4.symm.trans hts)
          rw [List.length_take] at hlen
          have hpl := congrArg List.length hp
          rw [List.length_append] at hpl
          have hp0 : p = [] := List.eq_nil_of_length_eq_zero (by omega)
          rw [hp0, List.nil_append] at hp
          have hnn : n = (c :: r).length := by omega
          rw [hnn, List.take_length] at n4 n5
          unfold isName
          have hw : wordLen s = s.size := by
            show wordFrom true s.data.toList = _
            rw [hp, n1, hnn, ← hp]; rfl
          have hkey : isKey s = false := by
            unfold isKey; rw [hp]; exact n5
          rw [hw, hkey, ← hsz, hp]
          simp only [Bool.and_eq_true, decide_eq_true_eq, Bool.not_false, ne_eq, and_true]
          omega
  · cases h
theorem wordFrom_snoc : ∀ (l : List UInt8) (b : Bool), wordFrom b l = l.length → l ≠ [] → wordFrom b (l ++ [120]) = l.length + 1
  | [], _, _, h => absurd rfl h
  | c :: l, b, h, _ => by
    unfold wordFrom at h
    split at h
    · rename_i hg
      rw [List.cons_append, wordFrom, if_pos hg]
      cases l with
      | nil => rfl
      | cons d l =>
        rw [wordFrom_snoc (d :: l) false (by simp only [List.length_cons] at h ⊢; omega) (by simp), List.length_cons]
        simp only [List.length_cons]; omega
    · simp at h
theorem name_more {s sx : ByteArray} (h : isName s = true) (hx : sx.data.toList = s.data.toList ++ [120]) : s.size = 100 ∨ isKey sx = true ∨ isName sx = true := by
  unfold isName at h
  simp only [Bool.and_eq_true, decide_eq_true_eq, Bool.not_eq_true', ne_eq] at h
  obtain ⟨⟨⟨h0, h1⟩, h2⟩, h3⟩ := h
  have hsx : sx.size = s.size + 1 := by
    have := congrArg List.length hx
    rw [List.length_append] at this
    exact this
  by_cases h100 : s.size = 100
  · exact .inl h100
  · right
    cases hk : isKey sx with
    | true => exact .inl rfl
    | false =>
      right
      have hne : s.data.toList ≠ [] := by
        intro e
        have := congrArg List.length e
        exact h0 this
      have hw : wordLen sx = sx.size := by
        show wordFrom true sx.data.toList = _
        rw [hx, wordFrom_snoc _ _ h2 hne, hsx]; rfl
      unfold isName
      rw [hw, hk, hsx]
      simp only [Bool.and_eq_true, decide_eq_true_eq, Bool.not_false, ne_eq, and_true]
      omega
theorem alive1 : lexS [120, 35, 109] = some [⟨1, 0, 0, [120]⟩, ⟨6, 1, 0, [35]⟩, ⟨1, 2, 0, [109]⟩, ⟨0, 3, 0, []⟩] := lexS_of (by decide) (by decide)
theorem alive2 : lexS [34, 97, 92, 110, 98, 34] = some [⟨4, 0, 0, [97, 10, 98]⟩, ⟨0, 6, 0, []⟩] := lexS_of (by decide) (by decide)
end Go.Tre
