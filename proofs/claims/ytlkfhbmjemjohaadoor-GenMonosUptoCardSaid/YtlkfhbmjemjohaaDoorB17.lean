/- Layer 9, plain: how nodes look; classes, refined; what a class that is refined no more tells. Layers 9, 11, plain: graphs onto graphs; the least graph; a fresh copy's. -/
import Derived.Test.YtlkfhbmjemjohaaDoorB16
import Derived.Lib.ItoaMem
import Derived.Test.YtlkfhbmjemjohaaDoorB09
namespace Go.Tre
open Go.Lib (decDigits itoa)

/-! numerals -/
def digit (c : UInt8) : Prop := 48 ≤ c.toNat ∧ c.toNat ≤ 57
def valD (l : List UInt8) : Nat := l.foldl (fun a c => 10 * a + (c.toNat - 48)) 0
theorem dec_digit (u : Nat) : ∀ c ∈ decDigits u, digit c := by
  induction u using Nat.strongRecOn with
  | _ u ih =>
    rw [decDigits]
    split
    · intro c hc
      rw [List.mem_singleton] at hc; subst hc
      have : (UInt8.ofNat (48 + u)).toNat = 48 + u := by rw [UInt8.toNat_ofNat']; omega
      unfold digit; omega
    · intro c hc
      rcases List.mem_append.1 hc with hc | hc
      · exact ih (u / 10) (by omega) c hc
      · rw [List.mem_singleton] at hc; subst hc
        have : (UInt8.ofNat (48 + u % 10)).toNat = 48 + u % 10 := by rw [UInt8.toNat_ofNat']; omega
        unfold digit; omega
theorem dec_val (u : Nat) : valD (decDigits u) = u := by
  induction u using Nat.strongRecOn with
  | _ u ih =>
    rw [decDigits]
    split
    · have : (UInt8.ofNat (48 + u)).toNat = 48 + u := by rw [UInt8.toNat_ofNat']; omega
      show 10 * 0 + ((UInt8.ofNat (48 + u)).toNat - 48) = u
      omega
    · have : (UInt8.ofNat (48 + u % 10)).toNat = 48 + u % 10 := by rw [UInt8.toNat_ofNat']; omega
      have h := ih (u / 10) (by omega)
      unfold valD at h ⊢
      rw [List.foldl_append, h]
      show 10 * (u / 10) + ((UInt8.ofNat (48 + u % 10)).toNat - 48) = u
      omega
theorem dec_inj {a b : Nat} (h : decDigits a = decDigits b) : a = b := by rw [← dec_val a, ← dec_val b, h]
theorem dec_ne (u : Nat) : decDigits u ≠ [] := by
  rw [decDigits]
  split
  · simp
  · simp

/-! two texts that are the same have the same beginnings, up to a byte that ends them -/
def begins (p : UInt8 → Prop) (l : List UInt8) : Prop := ∀ c, l.head? = some c → p c
theorem begins_nil (p : UInt8 → Prop) : begins p [] := fun _ h => by cases h
theorem begins_cons {p : UInt8 → Prop} {c : UInt8} {l : List UInt8} (h : p c) : begins p (c :: l) := fun d hd => by cases hd; exact h
theorem app_split {p : UInt8 → Prop} : ∀ {xs ys r s : List UInt8}, (∀ c ∈ xs, ¬ p c) → (∀ c ∈ ys, ¬ p c) → begins p r → begins p s → xs ++ r = ys ++ s → xs = ys ∧ r = s
  | [], [], _, _, _, _, _, _, h => ⟨rfl, h⟩
  | [], y :: ys, r, s, _, h2, h3, _, h => by
    cases r with
    | nil => cases h
    | cons c r => cases h; exact absurd (h3 _ rfl) (h2 _ (by simp))
  | x :: xs, [], r, s, h1, _, _, h4, h => by
    cases s with
    | nil => cases h
    | cons c s => cases h; exact absurd (h4 _ rfl) (h1 _ (by simp))
  | x :: xs, y :: ys, r, s, h1, h2, h3, h4, h => by
    rw [List.cons_append, List.cons_append, List.cons.injEq] at h
    obtain ⟨e1, e2⟩ := app_split (fun c hc => h1 c (by simp [hc])) (fun c hc => h2 c (by simp [hc])) h3 h4 h.2
    exact ⟨by rw [h.1, e1], e2⟩
theorem flat_split {p : UInt8 → Prop} {x : UInt8} (hx : ¬ p x) : ∀ {ls ms : List (List UInt8)} {r s : List UInt8}, (∀ l ∈ ls, ∀ c ∈ l, ¬ p c ∧ c ≠ x) → (∀ l ∈ ms, ∀ c ∈ l, ¬ p c ∧ c ≠ x) → begins p r → begins p s →
    ls.flatMap (fun l => x :: l) ++ r = ms.flatMap (fun l => x :: l) ++ s → ls = ms ∧ r = s
  | [], [], _, _, _, _, _, _, h => ⟨rfl, h⟩
  | [], m :: ms, r, s, _, _, h3, _, h => by
    cases r with
    | nil => cases h
    | cons c r => cases h; exact absurd (h3 _ rfl) hx
  | l :: ls, [], r, s, _, _, _, h4, h => by
    cases s with
    | nil => cases h
    | cons c s => cases h; exact absurd (h4 _ rfl) hx
  | l :: ls, m :: ms, r, s, h1, h2, h3, h4, h => by
    simp only [List.flatMap_cons, List.append_assoc, List.cons_append, List.cons.injEq, true_and] at h
    have tail : ∀ (q : List (List UInt8)) (t : List UInt8), begins p t → begins (fun c => p c ∨ c = x) (q.flatMap (fun l => x :: l) ++ t) := fun q t ht => by
      cases q with
      | nil => exact fun c hc => .inl (ht c hc)
      | cons a q => exact begins_cons (.inr rfl)
    obtain ⟨e1, e2⟩ := app_split (p := fun c => p c ∨ c = x) (fun c hc => fun e => e.elim (h1 l (by simp) c hc).1 (h1 l (by simp) c hc).2) (fun c hc => fun e => e.elim (h2 m (by simp) c hc).1 (h2 m (by simp) c hc).2) (tail ls r h3) (tail ms s h4) h
    obtain ⟨e3, e4⟩ := flat_split hx (fun l hl => h1 l (by simp [hl])) (fun l hl => h2 l (by simp [hl])) h3 h4 e2
    exact ⟨by rw [e1, e3], e4⟩

/-! how nodes look -/
def freeC (n : Tre.Node) : Bool := decide (n.kind = 1) || n.isOpen
def lookL (n : Tre.Node) (cl : Nat → Nat) : List UInt8 :=
  itoa n.kind ++ n.name.data.toList ++ (n.labels.map fun l => l.data.toList).flatMap (fun l => 32 :: l) ++ (n.args.map fun a => decDigits (cl a.toNat)).flatMap (fun l => 44 :: l)
def Graph.keyL (g : Tre.Graph) (cl : Nat → Nat) (i : Nat) : List UInt8 :=
  decDigits (cl i) ++ 58 :: ((if freeC (g.nd i) then 35 :: decDigits i else []) ++ lookL (g.nd i) cl)

/-- the bytes of a node's words -/
theorem word_bytes : ∀ (l : List UInt8) (b : Bool), wordFrom b l = l.length → ∀ c ∈ l, c ≠ 32 ∧ c ≠ 44
  | [], _, _ => by simp
  | x :: r, b, h => by
    unfold wordFrom at h
    by_cases hg : goesB x.toNat b = true
    · rw [if_pos hg] at h
      have ih := word_bytes r false (by simp at h; omega)
      intro c hc
      rcases List.mem_cons.1 hc with rfl | hc
      · constructor <;> (rintro rfl; revert hg; cases b <;> decide)
      · exact ih c hc
    · rw [if_neg hg] at h; simp at h
theorem name_bytes {s : ByteArray} (h : isName s = true) : ∀ c ∈ s.data.toList, c ≠ 32 ∧ c ≠ 44 := by
  unfold isName at h
  simp only [Bool.and_eq_true, decide_eq_true_iff] at h
  have hw := h.1.2
  unfold wordLen at hw
  exact word_bytes _ true (by rw [hw]; simp)
theorem arity_bytes {s : ByteArray} {k : Int} (h : arity s = some k) : ∀ c ∈ s.data.toList, c ≠ 32 ∧ c ≠ 44 := by
  unfold arity upd at h
  split at h
  · subst s; decide
  split at h
  · subst s; decide
  split at h
  · subst s; decide
  split at h
  · subst s; decide
  split at h
  · subst s; decide
  split at h
  · subst s; decide
  · cases h
theorem rising_names {l : List ByteArray} (h : rising l = true) : ∀ s ∈ l, isName s = true := by
  intro s hs
  obtain ⟨i, hi, rfl⟩ := List.getElem_of_mem hs
  unfold rising at h
  have := (List.all_eq_true.1 h) i (List.mem_range.2 hi)
  unfold labelOk at this
  rw [Bool.and_eq_true] at this
  have h1 := this.1
  rwa [List.getD_eq_getElem?_getD, List.getElem?_eq_getElem hi] at h1
structure Words (n : Tre.Node) : Prop where
  kind : n.kind = 1 ∨ n.kind = 2 ∨ n.kind = 3
  name : ∀ c ∈ n.name.data.toList, c ≠ 32 ∧ c ≠ 44
  labels : ∀ l ∈ n.labels, ∀ c ∈ l.data.toList, c ≠ 32 ∧ c ≠ 44
  free : freeC n = true → n.name.data.toList = []
  openOf : freeC n = freeB n
theorem words_of {n : Tre.Node} {size : Nat} (h : mayB n size = true) : Words n := by
  unfold mayB at h
  rw [Bool.and_eq_true] at h
  have h := h.2
  by_cases k1 : n.kind = 1
  · rw [if_pos k1] at h
    simp only [Bool.and_eq_true, decide_eq_true_iff, Bool.not_eq_true'] at h
    have hn : n.name.data.toList = [] := List.eq_nil_of_length_eq_zero (by simpa using h.1.2)
    have hl : n.labels = [] := List.eq_nil_of_length_eq_zero h.1.1.1
    exact ⟨.inl k1, by rw [hn]; simp, by rw [hl]; simp, fun _ => hn, by simp [freeC, freeB, k1]⟩
  rw [if_neg k1] at h
  by_cases k2 : n.kind = 2
  · rw [if_pos k2] at h
    simp only [Bool.and_eq_true, decide_eq_true_iff, Bool.not_eq_true'] at h
    have hl : n.labels = [] := List.eq_nil_of_length_eq_zero h.1.1
    refine ⟨.inr (.inl k2), ?_, by rw [hl]; simp, fun e => ?_, by simp [freeC, freeB, k2, h.1.2]⟩
    · cases ha : arity n.name with
      | none => rw [ha] at h; simp at h
      | some k => exact arity_bytes ha
    · unfold freeC at e
      rw [h.1.2, k2] at e
      simp at e
  rw [if_neg k2] at h
  by_cases k3 : n.kind = 3
  · rw [if_pos k3] at h
    simp only [Bool.and_eq_true, decide_eq_true_iff] at h
    have hn : n.name.data.toList = [] := List.eq_nil_of_length_eq_zero (by simpa using h.1.1)
    exact ⟨.inr (.inr k3), by rw [hn]; simp, fun l hl => name_bytes (rising_names h.2 l hl), fun _ => hn, by simp [freeC, freeB, k3]⟩
  · rw [if_neg k3] at h; cases h
theorem itoa_kind {k : Int} (h : k = 1 ∨ k = 2 ∨ k = 3) : itoa k = [UInt8.ofNat (48 + k.toNat)] := by
  rcases h with rfl | rfl | rfl
  · exact Go.Lib.decDigits_one (i := 1) (by decide)
  · exact Go.Lib.decDigits_one (i := 2) (by decide)
  · exact Go.Lib.decDigits_one (i := 3) (by decide)
theorem digit_ne {c : UInt8} (h : digit c) : c ≠ 32 ∧ c ≠ 44 ∧ c ≠ 58 ∧ c ≠ 35 := by
  unfold digit at h
  refine ⟨?_, ?_, ?_, ?_⟩ <;> (rintro rfl; revert h; decide)
theorem kind_digit {k : Int} (h : k = 1 ∨ k = 2 ∨ k = 3) : digit (UInt8.ofNat (48 + k.toNat)) := by
  rcases h with rfl | rfl | rfl <;> exact ⟨by decide, by decide⟩
theorem kind_inj {k m : Int} (h : k = 1 ∨ k = 2 ∨ k = 3) (h' : m = 1 ∨ m = 2 ∨ m = 3) (e : UInt8.ofNat (48 + k.toNat) = UInt8.ofNat (48 + m.toNat)) : k = m := by
  rcases h with rfl | rfl | rfl <;> rcases h' with rfl | rfl | rfl <;> first | rfl | (revert e; decide)

def endB (c : UInt8) : Prop := c = 32 ∨ c = 44
def tailL (n : Tre.Node) (cl : Nat → Nat) : List UInt8 := (n.labels.map fun l => l.data.toList).flatMap (fun l => 32 :: l) ++ (n.args.map fun a => decDigits (cl a.toNat)).flatMap (fun l => 44 :: l)
theorem tail_begins (n : Tre.Node) (cl : Nat → Nat) : begins endB (tailL n cl) := by
  unfold tailL
  cases n.labels with
  | nil =>
    cases n.args with
    | nil => exact begins_nil _
    | cons a q => exact begins_cons (.inr rfl)
  | cons l q => exact begins_cons (.inl rfl)
theorem data_inj {a b : ByteArray} (h : a.data.toList = b.data.toList) : a = b := by
  cases a; cases b
  simp only [ByteArray.mk.injEq]
  exact Array.toList_inj.1 h
theorem map_inj {α β : Type} {f : α → β} (hf : ∀ a b, f a = f b → a = b) : ∀ {l m : List α}, l.map f = m.map f → l = m
  | [], [], _ => rfl
  | [], _ :: _, h => by cases h
  | _ :: _, [], h => by cases h
  | a :: l, b :: m, h => by
    rw [List.map_cons, List.map_cons, List.cons.injEq] at h
    rw [hf _ _ h.1, map_inj hf h.2]
theorem tail_inj {n m : Tre.Node} {cl : Nat → Nat} (hn : Words n) (hm : Words m) (h : tailL n cl = tailL m cl) : n.labels = m.labels ∧ n.args.map (fun a => cl a.toNat) = m.args.map (fun a => cl a.toNat) := by
  have hb : ∀ q : List Int, begins (fun c => c = 44) ((q.map fun a => decDigits (cl a.toNat)).flatMap (fun l => 44 :: l)) := fun q => by
    cases q with
    | nil => exact begins_nil _
    | cons a q => exact begins_cons rfl
  have hs : ∀ k : Tre.Node, Words k → ∀ l ∈ k.labels.map (fun l => l.data.toList), ∀ c ∈ l, ¬ c = 44 ∧ c ≠ 32 := fun k hk l hl c hc => by
    obtain ⟨s, h1, rfl⟩ := List.mem_map.1 hl
    have := hk.labels s h1 c hc
    exact ⟨this.2, this.1⟩
  obtain ⟨e1, e2⟩ := flat_split (p := fun c => c = 44) (x := 32) (by decide) (hs n hn) (hs m hm) (hb n.args) (hb m.args) h
  have hd : ∀ q : List Int, ∀ l ∈ q.map (fun a => decDigits (cl a.toNat)), ∀ c ∈ l, ¬ False ∧ c ≠ 44 := fun q l hl c hc => by
    obtain ⟨s, _, rfl⟩ := List.mem_map.1 hl
    exact ⟨not_false, (digit_ne (dec_digit _ c hc)).2.1⟩
  obtain ⟨e3, _⟩ := flat_split (p := fun _ => False) (x := 44) (r := []) (s := []) not_false (hd n.args) (hd m.args) (begins_nil _) (begins_nil _) (by rw [List.append_nil, List.append_nil]; exact e2)
  refine ⟨map_inj (fun _ _ => data_inj) e1, ?_⟩
  have e4 : (n.args.map (fun a => cl a.toNat)).map decDigits = (m.args.map (fun a => cl a.toNat)).map decDigits := by rw [List.map_map, List.map_map]; exact e3
  exact map_inj (fun _ _ => dec_inj) e4
theorem key_class {g : Tre.Graph} {cl : Nat → Nat} {i j : Nat} (h : g.keyL cl i = g.keyL cl j) : cl i = cl j ∧ (if freeC (g.nd i) then 35 :: decDigits i else []) ++ lookL (g.nd i) cl = (if freeC (g.nd j) then 35 :: decDigits j else []) ++ lookL (g.nd j) cl := by
  unfold Graph.keyL at h
  obtain ⟨e1, e2⟩ := app_split (p := fun c => c = 58) (fun c hc => (digit_ne (dec_digit _ c hc)).2.2.1) (fun c hc => (digit_ne (dec_digit _ c hc)).2.2.1) (begins_cons rfl) (begins_cons rfl) h
  exact ⟨dec_inj e1, by rw [List.cons.injEq] at e2; exact e2.2⟩
theorem look_tail (n : Tre.Node) (cl : Nat → Nat) (h : n.kind = 1 ∨ n.kind = 2 ∨ n.kind = 3) : lookL n cl = (UInt8.ofNat (48 + n.kind.toNat) :: n.name.data.toList) ++ tailL n cl := by
  unfold lookL tailL
  rw [itoa_kind h]
  simp [List.append_assoc]
/-- what it means that two nodes look the same -/
theorem key_inj {g : Tre.Graph} (og : g.Ok) {cl : Nat → Nat} {i j : Nat} (hi : i < g.ns.length) (hj : j < g.ns.length) (h : g.keyL cl i = g.keyL cl j) :
    cl i = cl j ∧ (i = j ∨ (freeC (g.nd i) = false ∧ freeC (g.nd j) = false ∧ (g.nd i).kind = (g.nd j).kind ∧ (g.nd i).name = (g.nd j).name ∧ (g.nd i).labels = (g.nd j).labels ∧ (g.nd i).args.map (fun a => cl a.toNat) = (g.nd j).args.map (fun a => cl a.toNat))) := by
  obtain ⟨h1, h2⟩ := key_class h
  refine ⟨h1, ?_⟩
  have wi := words_of (og.may i hi)
  have wj := words_of (og.may j hj)
  rw [look_tail _ _ wi.kind, look_tail _ _ wj.kind] at h2
  have nodig : ∀ k : Nat, ∀ c ∈ decDigits k, ¬ endB c := fun k c hc e => e.elim (digit_ne (dec_digit _ c hc)).1 (digit_ne (dec_digit _ c hc)).2.1
  have nokind : ∀ n : Tre.Node, Words n → ∀ c ∈ UInt8.ofNat (48 + n.kind.toNat) :: n.name.data.toList, ¬ endB c := fun n hn c hc e => by
    rcases List.mem_cons.1 hc with rfl | hc
    · exact e.elim (digit_ne (kind_digit hn.kind)).1 (digit_ne (kind_digit hn.kind)).2.1
    · exact e.elim (hn.name c hc).1 (hn.name c hc).2
  cases fi : freeC (g.nd i)
  · cases fj : freeC (g.nd j)
    · right
      rw [fi, fj] at h2
      simp only [Bool.false_eq_true, if_false, List.nil_append] at h2
      obtain ⟨e1, e2⟩ := app_split (nokind _ wi) (nokind _ wj) (tail_begins _ _) (tail_begins _ _) h2
      rw [List.cons.injEq] at e1
      obtain ⟨e3, e4⟩ := tail_inj wi wj e2
      exact ⟨rfl, rfl, kind_inj wi.kind wj.kind e1.1, data_inj e1.2, e3, e4⟩
    · rw [fi, fj] at h2
      simp only [Bool.false_eq_true, if_false, if_true, List.nil_append, List.cons_append, List.cons.injEq] at h2
      exact absurd h2.1 (digit_ne (kind_digit wi.kind)).2.2.2
  · cases fj : freeC (g.nd j)
    · rw [fi, fj] at h2
      simp only [Bool.false_eq_true, if_false, if_true, List.nil_append, List.cons_append, List.cons.injEq] at h2
      exact absurd h2.1.symm (digit_ne (kind_digit wj.kind)).2.2.2
    · left
      rw [fi, fj, wi.free fi, wj.free fj] at h2
      simp only [if_true, List.cons_append, List.cons.injEq, true_and] at h2
      have e : ∀ (k : Nat) (c : UInt8) (t : List UInt8), decDigits k ++ c :: ([] ++ t) = (decDigits k ++ [c]) ++ t := fun k c t => by simp
      rw [e, e] at h2
      obtain ⟨e1, _⟩ := app_split (p := endB) (fun c hc => by
          rcases List.mem_append.1 hc with hc | hc
          · exact nodig _ c hc
          · exact nokind _ wi c (by simp at hc; rw [hc]; simp)) (fun c hc => by
          rcases List.mem_append.1 hc with hc | hc
          · exact nodig _ c hc
          · exact nokind _ wj c (by simp at hc; rw [hc]; simp)) (tail_begins _ _) (tail_begins _ _) h2
      exact dec_inj (List.append_inj' e1 rfl).1

/-! classes, refined -/
def Graph.refineC (g : Tre.Graph) (cl : Nat → Nat) (i : Nat) : Nat := ((List.range i).map (g.keyL cl)).idxOf (g.keyL cl i)
section
variable {g : Tre.Graph} {cl : Nat → Nat} {i j : Nat}
theorem refine_le : g.refineC cl i ≤ i := by
  unfold Graph.refineC
  have := List.idxOf_le_length (a := g.keyL cl i) (l := (List.range i).map (g.keyL cl))
  simpa using this
theorem refine_key : g.keyL cl (g.refineC cl i) = g.keyL cl i := by
  by_cases h : g.refineC cl i = i
  · rw [h]
  · have hl : g.refineC cl i < i := by have := refine_le (g := g) (cl := cl) (i := i); omega
    have h2 := List.getElem_idxOf (x := g.keyL cl i) (xs := (List.range i).map (g.keyL cl)) (by rw [List.length_map, List.length_range]; exact hl)
    rw [List.getElem_map, List.getElem_range] at h2
    exact h2
theorem refine_first (h : j < g.refineC cl i) : g.keyL cl j ≠ g.keyL cl i := by
  intro e
  have hle := refine_le (g := g) (cl := cl) (i := i)
  have h1 : ((List.range i).map (g.keyL cl))[j]'(by simp; omega) = g.keyL cl i := by rw [List.getElem_map, List.getElem_range]; exact e
  have h2 := List.not_of_lt_findIdx (p := (· == g.keyL cl i)) (xs := (List.range i).map (g.keyL cl)) (i := j) (by unfold Graph.refineC List.idxOf at h; exact h)
  rw [h1] at h2
  simp at h2
theorem refine_iff : g.refineC cl i = g.refineC cl j ↔ g.keyL cl i = g.keyL cl j := by
  constructor
  · intro h
    rw [← refine_key (i := i), ← refine_key (i := j), h]
  · intro h
    by_cases h1 : g.refineC cl i < g.refineC cl j
    · exact absurd (refine_key.trans h) (refine_first h1)
    · by_cases h2 : g.refineC cl j < g.refineC cl i
      · exact absurd (refine_key.trans h.symm) (refine_first h2)
      · omega
end
def Graph.refineL (g : Tre.Graph) (L : List Nat) : List Nat := (List.range g.ns.length).map (g.refineC fun a => L.getD a 0)
def Graph.iterL (g : Tre.Graph) : Nat → List Nat
  | 0 => List.replicate g.ns.length 0
  | k + 1 => g.refineL (g.iterL k)
def Graph.classesL (g : Tre.Graph) : List Nat := g.iterL (g.ns.length * g.ns.length)
section
variable {g : Tre.Graph}
theorem refineL_len (L : List Nat) : (g.refineL L).length = g.ns.length := by simp [Graph.refineL]
theorem iter_len (k : Nat) : (g.iterL k).length = g.ns.length := by
  cases k with
  | zero => simp [Graph.iterL]
  | succ k => exact refineL_len _
theorem refineL_at (L : List Nat) {i : Nat} (h : i < g.ns.length) : (g.refineL L).getD i 0 = g.refineC (fun a => L.getD a 0) i := by
  unfold Graph.refineL
  rw [List.getD_eq_getElem?_getD, List.getElem?_map, List.getElem?_range h]; rfl
theorem iter_low (k : Nat) : ∀ i, i < g.ns.length → (g.iterL k).getD i 0 ≤ i := by
  intro i hi
  cases k with
  | zero => simp [Graph.iterL, List.getD_eq_getElem?_getD, hi]
  | succ k => show (g.refineL _).getD i 0 ≤ i; rw [refineL_at _ hi]; exact refine_le
theorem iter_up (k : Nat) : ∀ i, i < g.ns.length → (g.iterL k).getD i 0 ≤ (g.iterL (k + 1)).getD i 0 := by
  intro i hi
  show _ ≤ (g.refineL _).getD i 0
  rw [refineL_at _ hi]
  have h1 := (key_class (refine_key (g := g) (cl := fun a => (g.iterL k).getD a 0) (i := i))).1
  have h2 := refine_le (g := g) (cl := fun a => (g.iterL k).getD a 0) (i := i)
  have h3 := iter_low (g := g) k (g.refineC (fun a => (g.iterL k).getD a 0) i) (by omega)
  omega
theorem sum_pw : ∀ {L M : List Nat}, L.length = M.length → (∀ i, i < L.length → L.getD i 0 ≤ M.getD i 0) → L.sum ≤ M.sum ∧ (L ≠ M → L.sum < M.sum)
  | [], [], _, _ => ⟨Nat.le_refl _, fun h => absurd rfl h⟩
  | [], _ :: _, h, _ => by cases h
  | _ :: _, [], h, _ => by cases h
  | a :: L, b :: M, h, hp => by
    have h0 : a ≤ b := hp 0 (by simp)
    obtain ⟨i1, i2⟩ := sum_pw (L := L) (M := M) (by simpa using h) (fun i hi => hp (i + 1) (by simp; omega))
    simp only [List.sum_cons]
    refine ⟨by omega, fun hne => ?_⟩
    by_cases e : L = M
    · have : a ≠ b := fun e' => hne (by rw [e, e'])
      omega
    · have := i2 e; omega
theorem sum_bound {n : Nat} : ∀ {L : List Nat}, (∀ x ∈ L, x < n) → L.sum + L.length ≤ L.length * n
  | [], _ => by simp
  | a :: L, h => by
    have h0 := h a (by simp)
    have ih := sum_bound (L := L) (fun x hx => h x (by simp [hx]))
    simp only [List.sum_cons, List.length_cons, Nat.succ_mul]
    omega
theorem iter_bound (k : Nat) : (g.iterL k).sum + g.ns.length ≤ g.ns.length * g.ns.length := by
  have := sum_bound (n := g.ns.length) (L := g.iterL k) (fun x hx => by
    obtain ⟨i, hi, rfl⟩ := List.getElem_of_mem hx
    have hi' := hi
    rw [iter_len] at hi'
    have := iter_low k i hi'
    rw [List.getD_eq_getElem?_getD, List.getElem?_eq_getElem hi] at this
    simp at this; omega)
  rwa [iter_len] at this
theorem iter_more {k : Nat} (h : g.refineL (g.iterL k) ≠ g.iterL k) : (g.iterL k).sum < (g.iterL (k + 1)).sum :=
  (sum_pw (by rw [iter_len, iter_len]) (fun i hi => iter_up k i (by rwa [iter_len] at hi))).2 (fun e => h e.symm)
theorem iter_stop {k : Nat} (h : g.refineL (g.iterL k) = g.iterL k) : ∀ m, g.iterL (k + m) = g.iterL k
  | 0 => rfl
  | m + 1 => by show g.refineL (g.iterL (k + m)) = _; rw [iter_stop h m, h]
theorem iter_far : ∀ k, (∀ j, j < k → g.refineL (g.iterL j) ≠ g.iterL j) → k ≤ (g.iterL k).sum
  | 0, _ => Nat.zero_le _
  | k + 1, h => by
    have := iter_far k (fun j hj => h j (by omega))
    have := iter_more (h k (by omega))
    omega
theorem classes_len : g.classesL.length = g.ns.length := iter_len _
theorem iter_classes {k : Nat} (h : g.refineL (g.iterL k) = g.iterL k) : g.iterL k = g.classesL := by
  unfold Graph.classesL
  by_cases hk : k ≤ g.ns.length * g.ns.length
  · obtain ⟨m, hm⟩ := Nat.exists_eq_add_of_le hk
    rw [hm, iter_stop h m]
  · by_cases hex : ∃ j, j < g.ns.length * g.ns.length ∧ g.refineL (g.iterL j) = g.iterL j
    · obtain ⟨j, hj, he⟩ := hex
      obtain ⟨m, hm⟩ := Nat.exists_eq_add_of_le (Nat.le_of_lt hj)
      obtain ⟨m', hm'⟩ := Nat.exists_eq_add_of_le (show j ≤ k by omega)
      rw [hm, hm', iter_stop he m, iter_stop he m']
    · have h1 := iter_far (g := g) (g.ns.length * g.ns.length) (fun j hj e => hex ⟨j, hj, e⟩)
      have h2 := iter_bound (g := g) (g.ns.length * g.ns.length)
      have h0 : g.ns.length = 0 := by omega
      have e : ∀ m, g.iterL m = [] := fun m => List.eq_nil_of_length_eq_zero (by rw [iter_len, h0])
      rw [e, e]
theorem classes_stable : g.refineL g.classesL = g.classesL := by
  by_cases hex : ∃ j, g.refineL (g.iterL j) = g.iterL j
  · obtain ⟨j, he⟩ := hex
    rw [← iter_classes he]; exact he
  · have h1 := iter_far (g := g) (g.ns.length * g.ns.length + 1) (fun j hj e => hex ⟨j, e⟩)
    have h2 := iter_bound (g := g) (g.ns.length * g.ns.length + 1)
    omega
def Graph.cls (g : Tre.Graph) (a : Nat) : Nat := g.classesL.getD a 0
theorem cls_eq {i : Nat} (h : i < g.ns.length) : g.cls i = g.refineC g.cls i := by
  have := refineL_at (g := g) g.classesL h
  rw [classes_stable] at this
  exact this
theorem cls_le {i : Nat} (h : i < g.ns.length) : g.cls i ≤ i := by rw [cls_eq h]; exact refine_le
theorem cls_key {i : Nat} (h : i < g.ns.length) : g.keyL g.cls (g.cls i) = g.keyL g.cls i := by
  have := refine_key (g := g) (cl := g.cls) (i := i)
  rwa [← cls_eq h] at this
theorem cls_iff {i j : Nat} (hi : i < g.ns.length) (hj : j < g.ns.length) : g.cls i = g.cls j ↔ g.keyL g.cls i = g.keyL g.cls j := by
  rw [cls_eq hi, cls_eq hj]; exact refine_iff
end
end Go.Tre
namespace Go.Tre

/-- one graph's reached nodes onto another one's -/
structure Hom (g h : Tre.Graph) (r : Nat → Nat) : Prop where
  root : r g.root.toNat = h.root.toNat
  kind : ∀ a, Rch g g.root.toNat a → (h.nd (r a)).kind = (g.nd a).kind
  name : ∀ a, Rch g g.root.toNat a → (h.nd (r a)).name = (g.nd a).name
  labels : ∀ a, Rch g g.root.toNat a → (h.nd (r a)).labels = (g.nd a).labels
  open_ : ∀ a, Rch g g.root.toNat a → (h.nd (r a)).isOpen = (g.nd a).isOpen
  kids : ∀ a, Rch g g.root.toNat a → h.kids (r a) = (g.kids a).map r
section
variable {g h k : Tre.Graph} {r s : Nat → Nat}
theorem Hom.reach (m : Hom g h r) {a : Nat} (ha : Rch g g.root.toNat a) : Rch h h.root.toNat (r a) := by
  induction ha with
  | refl => rw [m.root]; exact .refl
  | @step b c hb hc ih => exact ih.step (by rw [m.kids _ hb]; exact List.mem_map.2 ⟨_, hc, rfl⟩)
theorem Hom.comp (m : Hom g h r) (n : Hom h k s) : Hom g k (s ∘ r) := by
  refine ⟨?_, fun a ha => ?_, fun a ha => ?_, fun a ha => ?_, fun a ha => ?_, fun a ha => ?_⟩
  · show s (r _) = _; rw [m.root, n.root]
  · exact (n.kind _ (m.reach ha)).trans (m.kind _ ha)
  · exact (n.name _ (m.reach ha)).trans (m.name _ ha)
  · exact (n.labels _ (m.reach ha)).trans (m.labels _ ha)
  · exact (n.open_ _ (m.reach ha)).trans (m.open_ _ ha)
  · show k.kids (s (r a)) = _
    rw [n.kids _ (m.reach ha), m.kids _ ha, List.map_map]
theorem Hom.args (m : Hom g h r) {a : Nat} (ha : Rch g g.root.toNat a) : (h.nd (r a)).args.length = (g.nd a).args.length := by
  have := congrArg List.length (m.kids a ha)
  rw [List.length_map, h.kids_len, g.kids_len] at this
  exact this
theorem kid_kids (g : Tre.Graph) (a i : Nat) : g.kid a i = (g.kids a).getD i 0 := by
  unfold Graph.kid Graph.kids; rw [List.getD_eq_getElem?_getD, List.getD_eq_getElem?_getD, List.getElem?_map]
  cases (g.nd a).args[i]? <;> rfl
theorem kid_of {l : List Nat} {i : Nat} (hi : i < l.length) (f : Nat → Nat) : (l.map f).getD i 0 = f (l.getD i 0) := by
  rw [List.getD_eq_getElem?_getD, List.getD_eq_getElem?_getD, List.getElem?_map, List.getElem?_eq_getElem hi]; rfl
theorem Hom.kid (m : Hom g h r) {a i : Nat} (ha : Rch g g.root.toNat a) (hi : i < g.deg a) : h.kid (r a) i = r (g.kid a i) := by
  rw [kid_kids, kid_kids, m.kids _ ha, kid_of (by rw [g.kids_len]; exact hi)]
theorem Rch.kid {a i : Nat} (ha : Rch g g.root.toNat a) (hi : i < g.deg a) : Rch g g.root.toNat (g.kid a i) := by
  rw [kid_kids]
  have hi' : i < (g.kids a).length := by rw [g.kids_len]; exact hi
  rw [List.getD_eq_getElem?_getD, List.getElem?_eq_getElem hi']
  exact ha.step (List.getElem_mem hi')
theorem Hom.rp (m : Hom g h r) {a b : Nat} (p : RP g h a b) : Rch g g.root.toNat a ∧ b = r a := by
  induction p with
  | root => exact ⟨.refl, m.root.symm⟩
  | kid _ h1 h2 ih =>
    obtain ⟨ha, rfl⟩ := ih
    exact ⟨ha.kid h1, m.kid ha h1⟩
theorem Hom.alike (m : Hom g h r) {a : Nat} (ha : Rch g g.root.toNat a) : alikeB (g.nd a) (h.nd (r a)) = true := by
  unfold alikeB
  rw [m.kind a ha, m.name a ha, m.labels a ha, m.open_ a ha, m.args ha]
  simp
/-- onto, and apart on what is free: the same type -/
theorem Hom.same (m : Hom g h r) (c0 : g.checkC = 0) (c1 : h.checkC = 0) (inj : ∀ a b, Rch g g.root.toNat a → Rch g g.root.toNat b → freeB (g.nd a) = true → r a = r b → a = b) : SameG g h := by
  refine ⟨c0, c1, fun a b p => ?_, fun a b a' b' p p' hf => ?_⟩
  · obtain ⟨ha, rfl⟩ := m.rp p
    exact m.alike ha
  · obtain ⟨ha, rfl⟩ := m.rp p
    obtain ⟨ha', rfl⟩ := m.rp p'
    exact ⟨fun e => by rw [e], fun e => inj _ _ ha ha' hf e⟩
end

/-! a fresh copy -/
section
variable {g : Tre.Graph} {mono : List Nat}
theorem fresh_hom (h : g.checkC = 0) (hl : ∀ a ∈ mono, a < g.ns.length) : Hom g (g.freshG mono) (nowF g.ns.length (g.copiesL mono)) := by
  have og := Graph.ok_of h
  refine ⟨Graph.fresh_root.symm, fun a ha => ?_, fun a ha => ?_, fun a ha => ?_, fun a ha => ?_, fun a ha => Graph.now_kids og h hl ha⟩
  all_goals rw [Graph.now_nd og h hl ha]; rfl
theorem fresh_same_mono (h : g.checkC = 0) (hl : ∀ a ∈ mono, a < g.ns.length) (hs : g.ns.length + (g.copiesL mono).length ≤ 1048576) : SameG (g.freshG mono) g := by
  have og := Graph.ok_of h
  exact ((fresh_hom h hl).same h (Graph.fresh_check h hs) (fun a b ha hb _ e => nowF_inj (ha.lt og og.root1) (hb.lt og og.root1) e)).symm
/-- a free node of the copy that was there ahead is fixed -/
theorem fresh_old_free (h : g.checkC = 0) (hl : ∀ a ∈ mono, a < g.ns.length) (hs : g.ns.length + (g.copiesL mono).length ≤ 1048576) {i : Nat} (hi : i ∈ (g.freshG mono).freeL) (hn : i < g.ns.length) : i ∈ g.fixedL mono ∧ i ∉ g.genericL mono := by
  have og := Graph.ok_of h
  rw [free_of_reach (Graph.fresh_check h hs), Graph.fresh_reach h hl] at hi
  obtain ⟨⟨x, hx, rfl⟩, hf⟩ := hi
  rw [Graph.now_nd og h hl hx, freeB_copy] at hf
  by_cases hc : x ∈ g.copiesL mono
  · unfold nowF at hn; rw [if_pos hc] at hn; omega
  · have e : nowF g.ns.length (g.copiesL mono) x = x := by unfold nowF; rw [if_neg hc]
    rw [e]
    have hm : ∃ m ∈ mono, Rch g m x := Classical.byContradiction fun e => hc ((Graph.mem_copies h hl).2 ⟨hx, x, .refl, hf, e⟩)
    exact ⟨(Graph.mem_fixed og hl).2 ⟨hx.lt og og.root1, hf, hm⟩, fun e => ((Graph.mem_generic og hl).1 e).2.1 hm⟩
theorem free_sorted (h : g.checkC = 0) (hl : ∀ a ∈ mono, a < g.ns.length) {i : Nat} (hi : i ∈ g.freeL) : i ∈ g.fixedL mono ∨ i ∈ g.genericL mono := by
  have og := Graph.ok_of h
  rw [free_of_reach h] at hi
  by_cases hm : ∃ m ∈ mono, Rch g m i
  · exact .inl ((Graph.mem_fixed og hl).2 ⟨hi.1.lt og og.root1, hi.2, hm⟩)
  · exact .inr ((Graph.mem_generic og hl).2 ⟨hi.2, hm, hi.1⟩)
theorem sorted_apart (og : g.Ok) (hl : ∀ a ∈ mono, a < g.ns.length) {i : Nat} (h1 : i ∈ g.fixedL mono) : i ∉ g.genericL mono :=
  fun h2 => ((Graph.mem_generic og hl).1 h2).2.1 ((Graph.mem_fixed og hl).1 h1).2.2
end

/-! the least graph -/
def clsNode (cl : Nat → Nat) (n : Tre.Node) : Tre.Node := { n with args := n.args.map fun a => ((cl a.toNat : Nat) : Int) }
def Graph.quotG (g : Tre.Graph) : Tre.Graph := ⟨g.ns.map (clsNode g.cls), ((g.cls g.root.toNat : Nat) : Int)⟩
def Graph.leastG (g : Tre.Graph) : Tre.Graph := g.quotG.trim
section
variable {g : Tre.Graph}
theorem quot_len : g.quotG.ns.length = g.ns.length := by simp [Graph.quotG]
theorem quot_nd {a : Nat} (ha : a < g.ns.length) : g.quotG.nd a = clsNode g.cls (g.nd a) := by
  rw [Graph.nd_eq (by rw [quot_len]; exact ha), Graph.nd_eq ha]
  simp [Graph.quotG]
theorem cls_kids (cl : Nat → Nat) (n : Tre.Node) : (clsNode cl n).args.map Int.toNat = n.args.map (fun a => cl a.toNat) := by
  simp [clsNode, List.map_map, Function.comp_def]
theorem cls_lt (_og : g.Ok) {a : Nat} (ha : a < g.ns.length) : g.cls a < g.ns.length := by have := cls_le ha; omega
theorem mayB_cls (og : g.Ok) {a : Nat} (ha : a < g.ns.length) : mayB (clsNode g.cls (g.nd a)) g.ns.length = true := by
  have h := og.may a ha
  have hk := og.kids_lt ha
  unfold mayB at *
  simp only [Bool.and_eq_true, Bool.not_eq_true', List.any_eq_false] at *
  refine ⟨fun x hx => ?_, ?_⟩
  · simp only [clsNode, List.mem_map] at hx
    obtain ⟨y, hy, rfl⟩ := hx
    have hm : y.toNat < g.ns.length := hk _ (by unfold Graph.kids; exact List.mem_map.2 ⟨y, hy, rfl⟩)
    have := cls_lt og hm
    unfold outside
    simp
    omega
  · have := h.2
    simpa [clsNode] using this
theorem quot_ok (h : g.checkC = 0) : g.quotG.checkC = 0 := by
  have og := Graph.ok_of h
  have hr := cls_lt og og.root1
  refine check_mk ?_ (Int.natCast_nonneg _) ?_ (fun n hn => ?_)
  · rw [quot_len]; have := og.len; omega
  · rw [quot_len]; show ((g.cls g.root.toNat : Nat) : Int) < _; omega
  · rw [quot_len]
    simp only [Graph.quotG, List.mem_map] at hn
    obtain ⟨m, hm, rfl⟩ := hn
    obtain ⟨i, hi, rfl⟩ := List.getElem_of_mem hm
    rw [← Graph.nd_eq hi]
    exact mayB_cls og hi
/-- a node and its class's least one -/
theorem cls_look (og : g.Ok) {a : Nat} (ha : a < g.ns.length) : (g.nd (g.cls a)).kind = (g.nd a).kind ∧ (g.nd (g.cls a)).name = (g.nd a).name ∧ (g.nd (g.cls a)).labels = (g.nd a).labels ∧ (g.nd (g.cls a)).isOpen = (g.nd a).isOpen ∧
    (g.nd (g.cls a)).args.map (fun b => g.cls b.toNat) = (g.nd a).args.map (fun b => g.cls b.toNat) := by
  rcases (key_inj og (cls_lt og ha) ha (cls_key ha)).2 with e | ⟨f1, f2, h1, h2, h3, h4⟩
  · rw [e]; exact ⟨rfl, rfl, rfl, rfl, rfl⟩
  · refine ⟨h1, h2, h3, ?_, h4⟩
    unfold freeC at f1 f2
    rw [Bool.or_eq_false_iff] at f1 f2
    rw [f1.2, f2.2]
theorem quot_hom (h : g.checkC = 0) : Hom g g.quotG g.cls := by
  have og := Graph.ok_of h
  have lt : ∀ a, Rch g g.root.toNat a → a < g.ns.length := fun a ha => ha.lt og og.root1
  refine ⟨by show _ = ((_ : Nat) : Int).toNat; simp, fun a ha => ?_, fun a ha => ?_, fun a ha => ?_, fun a ha => ?_, fun a ha => ?_⟩
  all_goals
    have hl := lt a ha
    have L := cls_look og hl
  · rw [quot_nd (cls_lt og hl)]; exact L.1
  · rw [quot_nd (cls_lt og hl)]; exact L.2.1
  · rw [quot_nd (cls_lt og hl)]; exact L.2.2.1
  · rw [quot_nd (cls_lt og hl)]; exact L.2.2.2.1
  · unfold Graph.kids
    rw [quot_nd (cls_lt og hl), cls_kids, L.2.2.2.2, List.map_map]
    rfl
theorem trim_hom (h : g.checkC = 0) : Hom g g.trim (fun a => g.reachL.idxOf a) := by
  have mem : ∀ a, Rch g g.root.toNat a → a ∈ g.reachL := fun a ha => (Graph.mem_reach h).2 ha
  refine ⟨idx_root h, fun a ha => ?_, fun a ha => ?_, fun a ha => ?_, fun a ha => ?_, fun a ha => trim_kids (mem a ha)⟩
  all_goals rw [trim_nd (mem a ha)]; rfl
theorem least_ok (h : g.checkC = 0) : g.leastG.checkC = 0 := trim_ok (quot_ok h)
theorem least_hom (h : g.checkC = 0) : Hom g g.leastG (fun a => g.quotG.reachL.idxOf (g.cls a)) := (quot_hom h).comp (trim_hom (quot_ok h))
/-- the least graph is the same type -/
theorem least_same (h : g.checkC = 0) : SameG g g.leastG := by
  have og := Graph.ok_of h
  have lt : ∀ a, Rch g g.root.toNat a → a < g.ns.length := fun a ha => ha.lt og og.root1
  refine (least_hom h).same h (least_ok h) (fun a b ha hb hf e => ?_)
  have e' : g.cls a = g.cls b := idxOf_inj ((Graph.mem_reach (quot_ok h)).2 ((quot_hom h).reach ha)) ((Graph.mem_reach (quot_ok h)).2 ((quot_hom h).reach hb)) e
  have := (key_inj og (lt a ha) (lt b hb) ((cls_iff (lt a ha) (lt b hb)).1 e')).2
  rcases this with e | ⟨f1, _⟩
  · exact e
  · rw [(words_of (og.may a (lt a ha))).openOf] at f1; rw [f1] at hf; cases hf
end
end Go.Tre
