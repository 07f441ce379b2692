/- Which words are keys: the text of all of them, blanks between, holds a word between blanks just if it is one of them. -/
import Derived.Lib.IndexMore
namespace Go.Tre

/-- words, a blank ahead and one behind each -/
def spaced : List (List UInt8) → List UInt8
  | [] => [32]
  | x :: r => 32 :: (x ++ spaced r)

theorem prefix_word : ∀ (s x r : List UInt8), (∀ c ∈ s, c ≠ 32) → (∀ c ∈ x, c ≠ 32) → (s ++ [32]) <+: (x ++ 32 :: r) → s = x
  | [], [], _, _, _, _ => rfl
  | [], c :: x, r, _, h2, h => by
    obtain ⟨t, ht⟩ := h
    simp at ht
    exact absurd ht.1.symm (h2 c (by simp))
  | a :: s, [], r, h1, _, h => by
    obtain ⟨t, ht⟩ := h
    simp at ht
    exact absurd ht.1 (h1 a (by simp))
  | a :: s, c :: x, r, h1, h2, h => by
    obtain ⟨t, ht⟩ := h
    simp at ht
    obtain ⟨rfl, ht⟩ := ht
    rw [prefix_word s x r (fun c hc => h1 c (by simp [hc])) (fun c hc => h2 c (by simp [hc])) ⟨t, by simpa using ht⟩]

theorem spaced_head : ∀ ws, ∃ r, spaced ws = 32 :: r
  | [] => ⟨[], rfl⟩
  | x :: r => ⟨x ++ spaced r, rfl⟩

theorem infix_skip (n x r : List UInt8) (h : (∀ c ∈ x, c ≠ 32)) (hi : (32 :: n) <:+: (x ++ r)) : (32 :: n) <:+: r := by
  induction x with
  | nil => simpa using hi
  | cons c x ih =>
    rw [List.cons_append, List.infix_cons_iff] at hi
    rcases hi with hi | hi
    · obtain ⟨t, ht⟩ := hi
      simp at ht
      exact absurd ht.1.symm (h c (by simp))
    · exact ih (fun d hd => h d (by simp [hd])) hi

theorem infix_spaced (s : List UInt8) (hs : ∀ c ∈ s, c ≠ 32) (h0 : s ≠ []) : ∀ ws : List (List UInt8), (∀ x ∈ ws, ∀ c ∈ x, c ≠ 32) → ((32 :: (s ++ [32])) <:+: spaced ws ↔ s ∈ ws)
  | [], _ => by
    constructor
    · intro h
      have := h.length_le
      simp [spaced] at this
    · intro h
      cases h
  | x :: ws, hw => by
    have ih := infix_spaced s hs h0 ws (fun y hy => hw y (by simp [hy]))
    obtain ⟨r, hr⟩ := spaced_head ws
    rw [spaced, List.infix_cons_iff]
    constructor
    · rintro (h | h)
      · obtain ⟨t, ht⟩ := h
        simp only [List.cons_append, List.cons.injEq, true_and] at ht
        rw [hr] at ht
        exact List.mem_cons.2 (.inl (prefix_word s x r hs (hw x (by simp)) ⟨t, ht⟩))
      · exact List.mem_cons_of_mem _ (ih.1 (infix_skip _ x _ (hw x (by simp)) h))
    · intro h
      rcases List.mem_cons.1 h with rfl | h
      · refine .inl ⟨r, ?_⟩
        rw [hr]; simp
      · exact .inr ((ih.2 h).trans ⟨x, [], by simp⟩)

theorem index_infix : ∀ (l s : List UInt8), 0 ≤ Lib.index l s ↔ s <:+: l
  | [], s => by
    unfold Lib.index
    cases s with
    | nil => simp
    | cons a s => simp
  | b :: l, s => by
    have ih := index_infix l s
    have hge := Lib.index_ge l s
    unfold Lib.index
    rw [List.infix_cons_iff]
    by_cases h : s.isPrefixOf (b :: l) = true
    · rw [if_pos h]
      have := List.isPrefixOf_iff_prefix.1 h
      simp [this]
    · rw [if_neg h]
      have h' : ¬ s <+: b :: l := fun hp => h (List.isPrefixOf_iff_prefix.2 hp)
      by_cases hm : Lib.index l s = -1
      · have : ¬ s <:+: l := fun hh => by have := ih.2 hh; omega
        simp [hm, h', this]
      · have h2 : 0 ≤ Lib.index l s := by omega
        have : s <:+: l := ih.1 h2
        have hm' : (Lib.index l s == -1) = false := by simpa using hm
        simp only [hm', this, or_true, iff_true]
        simp; omega

/-- the 19 keys -/
def keyWords : List (List UInt8) := [[97, 110, 100], [97, 115], [99, 108, 97, 115, 115], [101, 108, 115, 101], [101, 110, 100], [102, 97, 108, 115, 101], [102, 117, 110], [105, 102], [105, 110], [105, 110, 104, 101, 114, 105, 116], [108, 101, 116], [109, 101, 116, 104, 111, 100], [110, 101, 119], [111, 98, 106, 101, 99, 116], [114, 101, 99], [116, 104, 101, 110], [116, 114, 117, 101], [118, 97, 108], [118, 105, 114, 116, 117, 97, 108]]
def isKey (s : ByteArray) : Bool := keyWords.contains s.data.toList
theorem keyWords_no : ∀ x ∈ keyWords, ∀ c ∈ x, c ≠ 32 := by decide
theorem keyWords_nil : [] ∉ keyWords := by decide
theorem contains_blank (s : List UInt8) : Lib.contains s [32] = decide (32 ∈ s) := by
  unfold Lib.contains
  rw [decide_eq_decide, index_infix]
  constructor
  · rintro ⟨a, b, rfl⟩; simp
  · intro h
    obtain ⟨a, b, rfl⟩ := List.append_of_mem h
    exact ⟨a, b, by simp⟩
theorem contains_keys (s : List UInt8) (h : ¬ 32 ∈ s) (h0 : s ≠ []) : Lib.contains (spaced keyWords) (32 :: (s ++ [32])) = keyWords.contains s := by
  unfold Lib.contains
  rw [Bool.eq_iff_iff, decide_eq_true_iff, index_infix, infix_spaced s (fun c hc e => h (e ▸ hc)) h0 _ keyWords_no]
  simp
end Go.Tre
